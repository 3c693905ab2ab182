import Derived.Test.YtemjmjacmokidaaDoorD5
import Derived.Test.YtemjmjacmokidaaDoorRows
import Derived.Test.YtemjmjacmokidaaDoorCards
import Derived.Test.YtemjmjacmokidaaDoorTie
import Derived.Test.YtemjmjacmokidaaDoorChecked
import Derived.ProofKit
import Derived.LaidMore
import Derived.OpenShut
import Derived.Stop.Joined
import Derived.ChangeSame
import Derived.Carry
import Derived.SevenTiedAt
import Derived.Laws.Externs
set_option linter.all false
set_option maxRecDepth 100000
namespace Go.HL
open Go Go.Proofs Go.ChangeShapes Go.WideShapes Go.RowKit
namespace D
theorem funcsOk : Tryd.prog.funcs.all funcOk = true := by kernel_rfl
theorem hP : ∀ (f : Nat) fn, Tryd.prog.funcs[f]? = some fn → funcOk fn = true := fun f fn h => (Array.all_eq_true_iff_forall_mem.1 funcsOk) fn (Array.mem_of_getElem? h)
theorem hmix : Tryd.prog.follows .mixedOrders = true := by kernel_rfl
theorem own : ownKnob Tryd.prog.godebug = none := by kernel_rfl
theorem laidOut : laidOutB Tryd.prog = true := by kernel_rfl
def gl0 : Nat → List HV := fun _ => []
theorem hxt : ∀ g args x, (cfg gl0).xt g args x → ∀ G w args', ArgsR G args args' → ∃ v, (callFunc g args').run Tryd.prog w = .ok (.value v) w ∧ V G x v := by
  rintro g args x ⟨rfl, rfl⟩ G w args' ⟨h1, h2⟩
  match args', h1 with
  | ⟨[v]⟩, _ =>
    refine ⟨v, ?_, h2 0 x v rfl rfl⟩
    have := run_callFunc_extern (P := Tryd.prog) (f := 65) (fn := Tryd.f65) (e := Extern.AbiNoEscape.same) Tryd.func65 (by kernel_rfl) (by kernel_rfl) (by kernel_rfl) (by kernel_rfl) #[v] w
    rw [this]
    rfl
theorem calls_of_Om {W : World} {f : FuncId} {args : List HV} {args' : Array Value} {Q : HV → HS → Prop} (h : Om Tryd.prog (cfg gl0) (.call f args emptyS Q)) (ha : ArgsR (G0 W) args args') :
    Calls Tryd.prog f args' W (CallPost (cfg gl0) W (G0 W) Q) :=
  (Om_sound (W0 := W) hP hmix (fun f args S Q (h : (cfg gl0).ext f args S Q) => (show False from h).elim) hxt h).2 (G0 W) W args' (Inv.start (fun _ => gl_nil)) ha
theorem trodAll_below {P : Program} (laidOut : laidOutB P = true) {H : Type} {enc : TypeId × Value → H} {W W' : World} (hb : Below W.heap.size W W') : ∀ {ts : List TypeId} {vs : List Value} {ds : List (DataW H)} {ps : List MemPlace}, (∀ t ∈ ts, P.readableRec t = true ∧ t < P.types.size) →
    DataW.TrodAll enc P W 0 (fun _ => true) true ts vs ds ps → DataW.TrodAll enc P W' 0 (fun b => decide (b < W.heap.size)) true ts vs ds ps
  | [], [], [], _, _, h => h
  | t :: ts, v :: vs, d :: ds, ps, ht, ⟨p, q, h1, h2, e⟩ => by
    refine ⟨p, q, Below.trod laidOut (ht t List.mem_cons_self).1 (ht t List.mem_cons_self).2 h1 hb ?_, trodAll_below laidOut hb (fun t h => ht t (List.mem_cons_of_mem _ h)) h2, e⟩
    obtain ⟨m, hm⟩ := h1
    exact DataW.trod_lt m _ _ _ hm
theorem trodAll_args {P : Program} {H : Type} {enc : TypeId × Value → H} {W : World} {base : Nat} : ∀ {ts : List TypeId} {vs : List Value} {ds : List (DataW H)} {ps : List MemPlace}, (∀ t ∈ ts, plainTy P 6 t = true) →
    (∀ (j : Nat) t v, ts[j]? = some t → vs[j]? = some v → Value.okWide P W .any base t v) →
    DataW.TrodAll enc P W 0 (fun _ => true) true ts vs ds ps → ∃ xs : List HV, xs.length = vs.length ∧ (∀ (i : Nat) x y, xs[i]? = some x → vs[i]? = some y → V (G0 W) x y) ∧ xs.length = ts.length ∧ ∀ (i : Nat) x t, xs[i]? = some x → ts[i]? = some t → ShapeV P 6 t x
  | [], [], [], _, _, _, _ => ⟨[], rfl, fun i x y h => by simp at h, rfl, fun i x y h => by simp at h⟩
  | t :: ts, v :: vs, d :: ds, ps, ht, hv, ⟨p, q, h1, h2, e⟩ => by
    obtain ⟨x, g1, g2⟩ := arg_shape (ht t List.mem_cons_self) (hv 0 t v rfl rfl) h1
    obtain ⟨xs, k1, k2, k3, k4⟩ := trodAll_args (fun t h => ht t (List.mem_cons_of_mem _ h)) (fun j t v a b => hv (j + 1) t v (by simpa using a) (by simpa using b)) h2
    refine ⟨x :: xs, by rw [List.length_cons, List.length_cons, k1], fun i a b ha hb => ?_, by rw [List.length_cons, List.length_cons, k3], fun i a b ha hb => ?_⟩
    · cases i with
      | zero => simp at ha hb; subst ha; subst hb; exact g1
      | succ i => exact k2 i a b (by simpa using ha) (by simpa using hb)
    · cases i with
      | zero => simp at ha hb; subst ha; subst hb; exact g2
      | succ i => exact k4 i a b (by simpa using ha) (by simpa using hb)

theorem door_met (os : Os) (args : Array Value) : laidMetH Tryd.prog YtemjmjacmokidaaDoor.Rows.searchLessRow.laid ((World.doorLaid Tryd.prog 400 os).forCall (fun _ _ => 0) ⟨#[], args, []⟩).memory :=
  laidMetH_of_parts3 (fuel := 8) (laidMet_of_run' 8 (by kernel_rfl) (by kernel_rfl)) (by kernel_rfl) (by kernel_rfl)
end D
end Go.HL
