import Derived.Test.YtemjmjacmokidaaDoorH2
import Derived.Deep.MidRow
import Derived.Below
set_option linter.all false
/-! HL, part 3: how HL's values and heaps stand to the model's. -/
namespace Go.HL
open Go Go.RowKit

structure Ghost where
  imm : Nat → Nat → Option Value
  blk : Nat → Option Nat
  slk : Nat → Option (Nat × Nat × Nat × Nat)

structure Ghost.le (G G' : Ghost) : Prop where
  imm : ∀ b o y, G.imm b o = some y → G'.imm b o = some y
  blk : ∀ l b, G.blk l = some b → G'.blk l = some b
  slk : ∀ t x, G.slk t = some x → G'.slk t = some x
theorem Ghost.le.refl (G : Ghost) : G.le G := ⟨fun _ _ _ h => h, fun _ _ h => h, fun _ _ h => h⟩
theorem Ghost.le.trans {A B D : Ghost} (h : A.le B) (k : B.le D) : A.le D :=
  ⟨fun _ _ _ x => k.imm _ _ _ (h.imm _ _ _ x), fun _ _ x => k.blk _ _ (h.blk _ _ x), fun _ _ x => k.slk _ _ (h.slk _ _ x)⟩

inductive V (G : Ghost) : HV → Value → Prop where
  | v {x} (h : plain x = true) : V G (.v x) x
  | agg {cs vs} (hl : cs.length = vs.size) (h : ∀ (i : Nat) (x : HV) (y : Value), cs[i]? = some x → vs[i]? = some y → V G x y)
      (h1 : ∀ (i : Nat) (y : Value), vs[i]? = some y → y.oneCell' = true) : V G (.agg cs) (.agg vs)
  | tup {cs vs} (hl : cs.length = vs.size) (h : ∀ (i : Nat) (x : HV) (y : Value), cs[i]? = some x → vs[i]? = some y → V G x y) : V G (.tup cs) (.tuple vs)
  | nil {z} : V G (.sl .full z []) (.slice none 0 0)
  | mt {k z a cap} (h0 : 0 < z) (hk : k = .none ∨ k = .full ∧ cap = 0) : V G (.sl k z []) (.slice a 0 cap)
  | sl {k z es b o cap} (ys : Nat → Nat → Value) (h0 : 0 < z) (hz : ∀ e ∈ es, e.length = z) (hc : es.length ≤ cap)
      (hi : ∀ (i : Nat) (e : List HV) (j : Nat) (x : HV), es[i]? = some e → e[j]? = some x → G.imm b (o + i * z + j) = some (ys i j))
      (hv : ∀ (i : Nat) (e : List HV) (j : Nat) (x : HV), es[i]? = some e → e[j]? = some x → V G x (ys i j))
      (hf : k = .full → cap = es.length) (ht : ∀ t, k = .live t → G.slk t = some (b, o + es.length * z, o + cap * z, z)) :
      V G (.sl k z es) (.slice (some ⟨b, o, none⟩) es.length cap)
  | ms {l o n c b} (hb : G.blk l = some b) (hn : n ≤ c) : V G (.ms l o n c) (.slice (some ⟨b, o, none⟩) n c)
  | ptr {l o b} (hb : G.blk l = some b) : V G (.ptr l o) (.pointer (some ⟨b, o, none⟩))
  | ep {cs o b p} (ys : Nat → Value) (hi : ∀ (j : Nat) (x : HV), cs[j]? = some x → G.imm b (p + j) = some (ys j)) (hv : ∀ (j : Nat) (x : HV), cs[j]? = some x → V G x (ys j)) :
      V G (.ep cs o) (.pointer (some ⟨b, p + o, none⟩))
  | mp {l b} (hb : G.blk l = some b) : V G (.mp l) (.map (some b))
  | fn {f fs cs fs' cs'} (hl : fs.length = fs'.size) (hl' : cs.length = cs'.size)
      (h : ∀ (i : Nat) (x : HV) (y : Value), fs[i]? = some x → fs'[i]? = some y → V G x y) (h' : ∀ (i : Nat) (x : HV) (y : Value), cs[i]? = some x → cs'[i]? = some y → V G x y) :
      V G (.fn f fs cs) (.func (.func f) fs' cs')
  | ifc {t x y} (h : V G x y) : V G (.ifc t x) (.iface t y)
  | dp {t z es b o f to} (ys : Nat → Nat → Value) (hs : G.slk t = some (b, f, to, z)) (hz : ∀ e ∈ es, e.length = z) (hf : o + es.length * z ≤ f)
      (hi : ∀ (i : Nat) (e : List HV) (j : Nat) (x : HV), es[i]? = some e → e[j]? = some x → G.imm b (o + i * z + j) = some (ys i j))
      (hv : ∀ (i : Nat) (e : List HV) (j : Nat) (x : HV), es[i]? = some e → e[j]? = some x → V G x (ys i j)) :
      V G (.dp t z es) (.pointer (some ⟨b, o, none⟩))

theorem V.mono {G G' : Ghost} (hg : G.le G') {x : HV} {y : Value} (h : V G x y) : V G' x y := by
  induction h with
  | v h => exact .v h
  | agg hl _ h1 ih => exact .agg hl ih h1
  | tup hl _ ih => exact .tup hl ih
  | nil => exact .nil
  | mt h0 hk => exact .mt h0 hk
  | sl ys h0 hz hc hi _ hf ht ih => exact .sl ys h0 hz hc (fun i e j x he hx => hg.imm _ _ _ (hi i e j x he hx)) ih hf (fun t hk => hg.slk _ _ (ht t hk))
  | ms hb hn => exact .ms (hg.blk _ _ hb) hn
  | ptr hb => exact .ptr (hg.blk _ _ hb)
  | ep ys hi _ ih => exact .ep ys (fun j x hx => hg.imm _ _ _ (hi j x hx)) ih
  | mp hb => exact .mp (hg.blk _ _ hb)
  | fn hl hl' _ _ ih ih' => exact .fn hl hl' ih ih'
  | ifc _ ih => exact .ifc ih
  | dp ys hs hz hf hi _ ih => exact .dp ys (hg.slk _ _ hs) hz hf (fun i e j x he hx => hg.imm _ _ _ (hi i e j x he hx)) ih

/-- Cells, one by one. -/
def VL (G : Ghost) (cs : List HV) (ys : List Value) : Prop :=
  cs.length = ys.length ∧ ∀ (j : Nat) (x : HV) (y : Value), cs[j]? = some x → ys[j]? = some y → V G x y ∧ y.oneCell' = true
theorem VL.mono {G G' : Ghost} (hg : G.le G') {cs : List HV} {ys : List Value} (h : VL G cs ys) : VL G' cs ys :=
  ⟨h.1, fun j x y hx hy => ⟨(h.2 j x y hx hy).1.mono hg, (h.2 j x y hx hy).2⟩⟩
theorem VL.nil {G : Ghost} : VL G [] [] := ⟨rfl, fun j x y hx _ => by simp at hx⟩
theorem VL.cons {G : Ghost} {x : HV} {y : Value} {cs : List HV} {ys : List Value} (h : V G x y) (h1 : y.oneCell' = true) (hs : VL G cs ys) : VL G (x :: cs) (y :: ys) := by
  refine ⟨by simp [hs.1], fun j a b ha hb => ?_⟩
  cases j with
  | zero => simp at ha hb; subst ha; subst hb; exact ⟨h, h1⟩
  | succ j => simp at ha hb; exact hs.2 j a b ha hb
theorem VL.uncons {G : Ghost} {x : HV} {y : Value} {cs : List HV} {ys : List Value} (h : VL G (x :: cs) (y :: ys)) : V G x y ∧ y.oneCell' = true ∧ VL G cs ys :=
  ⟨(h.2 0 x y rfl rfl).1, (h.2 0 x y rfl rfl).2, by have := h.1; simpa using this, fun j a b ha hb => h.2 (j + 1) a b (by simpa using ha) (by simpa using hb)⟩
theorem VL.append {G : Ghost} {cs ds : List HV} {ys zs : List Value} (h : VL G cs ys) (k : VL G ds zs) : VL G (cs ++ ds) (ys ++ zs) := by
  refine ⟨by simp [h.1, k.1], fun j x y hx hy => ?_⟩
  have hl := h.1
  rw [List.getElem?_append] at hx hy
  by_cases hj : j < cs.length
  · rw [if_pos hj] at hx; rw [if_pos (by omega)] at hy; exact h.2 j x y hx hy
  · rw [if_neg hj] at hx; rw [if_neg (by omega)] at hy; rw [← hl] at hy; exact k.2 _ x y hx hy
theorem VL.take {G : Ghost} {cs : List HV} {ys : List Value} (h : VL G cs ys) (n : Nat) : VL G (cs.take n) (ys.take n) := by
  refine ⟨by simp [h.1], fun j x y hx hy => ?_⟩
  rw [List.getElem?_take] at hx hy
  by_cases hj : j < n
  · rw [if_pos hj] at hx hy; exact h.2 j x y hx hy
  · rw [if_neg hj] at hx; cases hx
theorem VL.drop {G : Ghost} {cs : List HV} {ys : List Value} (h : VL G cs ys) (n : Nat) : VL G (cs.drop n) (ys.drop n) := by
  refine ⟨by simp [h.1], fun j x y hx hy => ?_⟩
  rw [List.getElem?_drop] at hx hy
  exact h.2 _ x y hx hy
theorem VL.splice {G : Ghost} {cs xs : List HV} {ys zs : List Value} (h : VL G cs ys) (k : VL G xs zs) (o : Nat) :
    VL G (splice cs o xs) (ys.take o ++ zs ++ ys.drop (o + zs.length)) := by
  unfold Go.HL.splice
  rw [k.1]
  exact ((h.take o).append k).append (h.drop _)
theorem VL.get {G : Ghost} {cs : List HV} {ys : List Value} (h : VL G cs ys) {j : Nat} {x : HV} (hx : cs[j]? = some x) : ∃ y, ys[j]? = some y ∧ V G x y ∧ y.oneCell' = true := by
  have hj : j < cs.length := (List.getElem?_eq_some_iff.1 hx).1
  have hj' : j < ys.length := h.1 ▸ hj
  exact ⟨ys[j], List.getElem?_eq_getElem hj', h.2 j x _ hx (List.getElem?_eq_getElem hj')⟩
theorem VL.one {G : Ghost} {cs : List HV} {ys : List Value} (h : VL G cs ys) {y : Value} (hy : y ∈ ys) : y.oneCell' = true := by
  obtain ⟨j, hj, rfl⟩ := List.mem_iff_getElem.1 hy
  have : j < cs.length := h.1 ▸ hj
  exact (h.2 j cs[j] ys[j] (List.getElem?_eq_getElem this) (List.getElem?_eq_getElem hj)).2
theorem VL.flat {G : Ghost} : ∀ {es : List (List HV)} {fs : List (List Value)}, es.length = fs.length → (∀ (i : Nat) e f, es[i]? = some e → fs[i]? = some f → VL G e f) → VL G es.flatten fs.flatten
  | [], [], _, _ => VL.nil
  | e :: es, f :: fs, hl, h => by
    simp only [List.flatten_cons]
    exact (h 0 e f rfl rfl).append (VL.flat (by simpa using hl) (fun i e' f' he hf => h (i + 1) e' f' (by simpa using he) (by simpa using hf)))
theorem VL.aggV {G : Ghost} {cs : List HV} {vs : Array Value} (h : VL G cs vs.toList) : V G (.agg cs) (.agg vs) :=
  .agg (by simpa using h.1) (fun i x y hx hy => (h.2 i x y hx (by simpa using hy)).1) (fun i y hy => h.one (List.mem_of_getElem? (by simpa using hy)))
theorem VL.ofAgg {G : Ghost} {cs : List HV} {vs : Array Value} (h : V G (.agg cs) (.agg vs)) : VL G cs vs.toList := by
  cases h with
  | agg hl h h1 => exact ⟨by simpa using hl, fun j x y hx hy => ⟨h j x y hx (by simpa using hy), h1 j y (by simpa using hy)⟩⟩

/-! ### what the heap is -/
structure RowAt (G : Ghost) (w : World) (b : Nat) (cs : List HV) : Prop where
  ex : ∃ (c : Array Value) (T : TypeId) (fz : Nat × Nat), w.heap[b]? = some (.cells c T fz) ∧ VL G cs c.toList
  unfrozen : ∀ j, j < cs.length → w.frozen? ⟨b, j, none⟩ = false
  free : ∀ o, G.imm b o = none
structure MapAt (G : Ghost) (w : World) (b : Nat) (es : List HEntry) (clock : Nat) : Prop where
  ex : ∃ es' : Array MapEntry, w.heap[b]? = some (.map es' clock) ∧ es.length = es'.size ∧
    ∀ (i : Nat) (e : HEntry) (e' : MapEntry), es[i]? = some e → es'[i]? = some e' → e'.key = e.key ∧ e'.born = e.born ∧ V G e.val e'.val ∧ okVal e.key = true
structure SlackAt (G : Ghost) (w : World) (b f to : Nat) : Prop where
  ex : ∃ (c : Array Value) (T : TypeId) (fz : Nat × Nat), w.heap[b]? = some (.cells c T fz) ∧ to ≤ c.size
  unfrozen : ∀ j, f ≤ j → j < to → w.frozen? ⟨b, j, none⟩ = false
  free : ∀ j, f ≤ j → j < to → G.imm b j = none

/-- A row of a type. -/
def Typed (w : World) (b : Nat) (T : TypeId) : Prop := ∃ (c : Array Value) (fz : Nat × Nat), w.heap[b]? = some (.cells c T fz)
/-- .. of which nothing is frozen from a place on. -/
def TypedTo (w : World) (b : Nat) (T : TypeId) (f : Nat) : Prop := ∃ (c : Array Value) (fz : Nat × Nat), w.heap[b]? = some (.cells c T fz) ∧ (fz.1 = fz.2 ∨ fz.2 ≤ f)
theorem Typed.keep {w w' : World} {b : Nat} {T : TypeId} (h : Typed w b T) (hb : w'.heap[b]? = w.heap[b]?) : Typed w' b T := by
  obtain ⟨c, fz, h⟩ := h
  exact ⟨c, fz, hb.trans h⟩
theorem TypedTo.keep {w w' : World} {b : Nat} {T : TypeId} {f : Nat} (h : TypedTo w b T f) (hb : w'.heap[b]? = w.heap[b]?) : TypedTo w' b T f := by
  obtain ⟨c, fz, h, k⟩ := h
  exact ⟨c, fz, hb.trans h, k⟩

/-- An object of the model's heap. -/
def HObj.heavy : HObj → Bool
  | .row _ | .map _ _ | .iter .. => true
  | _ => false

/-- An object, in its block. -/
def ObjAt (G : Ghost) (w : World) (b : Nat) : HObj → Prop
  | .row cs => RowAt G w b cs
  | .map es clock => MapAt G w b es clock
  | .iter m since seen last => ∃ bm, G.blk m = some bm ∧ w.heap[b]? = some (.mapIter (some bm) since seen.toArray last)
  | _ => True

structure Inv (C : Cfg) (W0 : World) (G : Ghost) (S : HS) (w : World) : Prop where
  below : Below W0.heap.size W0 w
  fin : ∃ N, ∀ l, N ≤ l → S l = none
  imm : ∀ b o y, G.imm b o = some y → w.cell? ⟨b, o, none⟩ = some y ∧ y.oneCell' = true
  obj : ∀ l x, S l = some x → x.heavy = true → ∃ b, G.blk l = some b ∧ ObjAt G w b x
  tok : ∀ t, S t = some .tok → ∃ b f to z, G.slk t = some (b, f, to, z) ∧ SlackAt G w b f to
  blkNone : ∀ l, S l = none → G.blk l = none
  slkNone : ∀ l, S l = none → G.slk l = none
  inj : ∀ l l' x x' b, S l = some x → S l' = some x' → x.heavy = true → x'.heavy = true → G.blk l = some b → G.blk l' = some b → l = l'
  tinj : ∀ t t' b f to z f' to' z', S t = some .tok → S t' = some .tok → G.slk t = some (b, f, to, z) → G.slk t' = some (b, f', to', z') → t = t'
  tb : ∀ t l x b f to z, S t = some .tok → S l = some x → x.heavy = true → G.slk t = some (b, f, to, z) → G.blk l = some b → False
  bnd : ∀ l b, G.blk l = some b → W0.heap.size ≤ b ∧ b < w.heap.size
  sbnd : ∀ t b f to z, G.slk t = some (b, f, to, z) → W0.heap.size ≤ b ∧ b < w.heap.size
  ibnd : ∀ b o y, G.imm b o = some y → b < w.heap.size
  gl : ∀ g, V G (.ep (C.gl g) 0) (.pointer (some ⟨g, 0, none⟩))
  btyp : ∀ l b T, G.blk l = some b → lt l = some T → Typed w b T
  styp : ∀ t b f to z T, S t = some .tok → G.slk t = some (b, f, to, z) → lt t = some T → TypedTo w b T f

/-- Temporaries. -/
def EnvR (G : Ghost) (n : Nat) (env : Env) (a : Act) : Prop := a.tmps.size = n ∧ a.defers = [] ∧ ∀ t, V G (env t) (a.tmps.getD t undef)
theorem EnvR.mono {G G' : Ghost} (hg : G.le G') {n : Nat} {env : Env} {a : Act} (h : EnvR G n env a) : EnvR G' n env a :=
  ⟨h.1, h.2.1, fun t => (h.2.2 t).mono hg⟩
theorem V.undef {G : Ghost} : V G .undef Go.undef := .tup rfl (fun i x y hx => by simp at hx)
theorem EnvR.put {G : Ghost} {n : Nat} {env : Env} {a : Act} (h : EnvR G n env a) {x : HV} {y : Value} (hx : V G x y) (d : Option Nat) : EnvR G n (env.put n d x) (a.put d y) := by
  cases d with
  | none => exact h
  | some d =>
    refine ⟨by simp [Act.put, h.1], h.2.1, fun t => ?_⟩
    have hs := h.1
    have ht := h.2.2 t
    simp only [Env.put, Act.put, Array.getD_eq_getD_getElem?]
    rw [Array.getElem?_setIfInBounds]
    by_cases hd : d = t
    · subst hd
      by_cases hdn : d < n
      · simp [hdn, hs, hx]
      · rw [if_neg (by omega)]
        have : ¬ d < a.tmps.size := by omega
        simp only [if_true, this, if_false]
        rw [Array.getD_eq_getD_getElem?, Array.getElem?_eq_none (by omega)] at ht
        simpa using ht
    · rw [if_neg (by rintro ⟨_, e⟩; exact hd e.symm), if_neg hd]
      rwa [Array.getD_eq_getD_getElem?] at ht

/-! ### small facts of 'V' -/
theorem V.leaf {G : Ghost} {x : Value} (h : okLeaf x = true) : V G (ofLeaf x) x := by
  unfold okLeaf at h
  split at h
  · exact .nil
  · cases h
  · rename_i x; exact .ifc (.v h)
  · rename_i f fs cs
    simp at h
    obtain ⟨rfl, rfl⟩ := h
    refine .fn rfl rfl ?_ ?_ <;> intro i x y hx <;> simp at hx
  · rename_i x h1 h2 h3 h4
    unfold ofLeaf
    split
    · exact absurd rfl (h2 _ _ _)
    · exact absurd rfl (h3 _ _)
    · exact absurd rfl (h4 _ _ _)
    · exact .v h
theorem okLeaf_one {x : Value} (h : okLeaf x = true) : x.oneCell' = true := by
  cases x <;> simp_all [okLeaf, plain, Value.oneCell']
theorem V.ofVal {G : Ghost} {x : Value} (h : okVal x = true) : V G (ofVal x) x := by
  unfold okVal at h
  split at h
  · rename_i vs
    refine .agg (by simp) (fun i x y hx hy => ?_) (fun i y hy => ?_)
    · simp at hx
      rw [hy] at hx
      simp at hx
      subst hx
      exact V.leaf (List.all_eq_true.1 h y (by simpa using Array.mem_of_getElem? hy))
    · exact okLeaf_one (List.all_eq_true.1 h y (by simpa using Array.mem_of_getElem? hy))
  · rename_i vs
    refine .tup (by simp) (fun i x y hx hy => ?_)
    simp at hx
    rw [hy] at hx
    simp at hx
    subst hx
    exact V.leaf (List.all_eq_true.1 h y (by simpa using Array.mem_of_getElem? hy))
  · rename_i h1 h2
    unfold Go.HL.ofVal
    split
    · exact absurd rfl (h1 _)
    · exact absurd rfl (h2 _)
    · exact V.leaf h
theorem V.oneCell {G : Ghost} {x : HV} {y : Value} (h : V G x y) (hc : x.cellOk = true) (ha : ∀ cs, x ≠ .agg cs) : y.oneCell' = true := by
  cases h with
  | v h => cases y <;> simp_all [plain, Value.oneCell']
  | agg hl h h1 => exact absurd rfl (ha _)
  | tup hl h => simp [HV.cellOk] at hc
  | _ => rfl
theorem V.cellsVL {G : Ghost} {x : HV} {y : Value} (h : V G x y) (hc : x.cellOk = true) : VL G x.cells y.cells.toList := by
  by_cases ha : ∃ cs, x = .agg cs
  · obtain ⟨cs, rfl⟩ := ha
    cases h with
    | agg hl h h1 => exact VL.ofAgg (.agg hl h h1)
  · have h1 := h.oneCell hc (fun cs e => ha ⟨cs, e⟩)
    have e1 : x.cells = [x] := by cases x <;> simp_all [HV.cells]
    have e2 : y.cells.toList = [y] := by cases y <;> simp_all [Value.cells, Value.oneCell']
    rw [e1, e2]
    exact VL.cons h h1 VL.nil
theorem V.leafVal {G : Ghost} {x : HV} {y z : Value} (h : V G x y) (hz : leafVal x = some z) : y = z := by
  cases h with
  | v h => simpa [Go.HL.leafVal] using hz
  | ifc h =>
    cases h with
    | v h => simpa [Go.HL.leafVal] using hz
    | _ => simp [Go.HL.leafVal] at hz
  | _ => simp [Go.HL.leafVal] at hz
theorem V.toVal {G : Ghost} {x : HV} {y z : Value} (h : V G x y) (hz : toVal x = some z) : y = z := by
  by_cases ha : ∃ cs, x = .agg cs
  · obtain ⟨cs, rfl⟩ := ha
    cases h with
    | @agg _ vs hl h h1 =>
      simp only [Go.HL.toVal, Option.map_eq_some_iff] at hz
      obtain ⟨l, hl', rfl⟩ := hz
      congr 1
      have key : ∀ (cs : List HV) (l ys : List Value), cs.length = ys.length → (∀ (i : Nat) x y, cs[i]? = some x → ys[i]? = some y → V G x y) → cs.mapM Go.HL.leafVal = some l → ys = l := by
        intro cs
        induction cs with
        | nil => intro l ys hl _ hm; simp at hm hl; subst hm; exact (List.eq_nil_of_length_eq_zero hl.symm)
        | cons c cs ih =>
          intro l ys hl hv hm
          cases ys with
          | nil => simp at hl
          | cons y ys =>
            rw [List.mapM_cons] at hm
            cases hc : Go.HL.leafVal c with
            | none => simp [hc] at hm
            | some c' =>
              cases hr : cs.mapM Go.HL.leafVal with
              | none => simp [hc, hr] at hm
              | some r =>
                simp [hc, hr] at hm
                subst hm
                rw [(hv 0 c y rfl rfl).leafVal hc, ih r ys (by simpa using hl) (fun i x z hx hz => hv (i + 1) x z (by simpa using hx) (by simpa using hz)) hr]
      have := key cs l vs.toList (by simpa using hl) (fun i x y hx hy => h i x y hx (by simpa using hy)) hl'
      rw [← this]
  · have e : Go.HL.toVal x = Go.HL.leafVal x := by
      cases x with
      | agg cs => exact absurd ⟨cs, rfl⟩ ha
      | ifc t x => cases x <;> rfl
      | _ => rfl
    rw [e] at hz
    exact h.leafVal hz

end Go.HL
