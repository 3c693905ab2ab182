import Derived.Test.YtemjmjacmokidaaDoorH13
import Derived.ScopeJumps
set_option linter.all false
/-! HL, part 14: what HL says of a call holds of the model's call, in every world that fits. -/
namespace Go.HL
open Go Go.RowKit
variable {P : Program} {C : Cfg} {W0 : World}

def operOk (o : Oper) : Bool := o.op.operands.all Operand.okc
def codeOk : Code → Bool
  | .region _ ops _ => ops.all operOk
  | .seq a b => codeOk a && codeOk b
  | .cond c a b => Operand.okc c && codeOk a && codeOk b
  | .block _ c => codeOk c
  | .loop c => codeOk c
  | .scope c => codeOk c
  | .rangeFunc .. => false
  | _ => true
def funcOk (fn : Func) : Bool := !(fn.name == "runtime.NumGoroutine") && match fn.body with | some c => codeOk c | none => true

theorem findLabel_ok : ∀ {c : Code} {l : Nat} {r : Code}, codeOk c = true → findLabel c l = some r → codeOk r = true := by
  intro c
  induction c with
  | seq a b iha ihb =>
    intro l r hc h
    simp only [codeOk, Bool.and_eq_true] at hc
    simp only [findLabel] at h
    split at h
    · rename_i rest hr
      cases h
      simp [codeOk, iha hc.1 hr, hc.2]
    · exact ihb hc.2 h
  | label l' =>
    intro l r hc h
    simp only [findLabel] at h
    split at h
    · cases h; rfl
    · cases h
  | _ => intro l r hc h; simp [findLabel] at h

/-! ### loops and scopes -/
def LoopWp (P : Program) (c : Code) (Q : Exit → Act → World → Prop) (a : Act) (w : World) : Prop :=
  ∀ (b : Frame) (k : List Item) (cs : List Frame), ∃ e a' w', Q e a' w' ∧ Arrives P (lone (b.at a (.code c :: .inLoop c :: k)) cs w) b k cs e a' w'
def thenLoop (P : Program) (c : Code) (Q : Exit → Act → World → Prop) : Exit → Act → World → Prop
  | .normal, a, w => LoopWp P c Q a w
  | e, a, w => Q e a w
theorem LoopWp.of {c : Code} {Q : Exit → Act → World → Prop} {a : Act} {w : World} (h : c.wp P (thenLoop P c Q) a w) : LoopWp P c Q a w := by
  intro b k cs
  obtain ⟨e, a₁, w₁, hq, harr⟩ := h b (.inLoop c :: k) cs
  cases e with
  | normal =>
    obtain ⟨e₂, a₂, w₂, hq₂, harr₂⟩ := hq b k cs
    exact ⟨e₂, a₂, w₂, hq₂, .of_steps (Steps.trans harr (.one step_inLoop)) harr₂⟩
  | exit id => exact ⟨_, a₁, w₁, hq, .pass (x := .inLoop c) rfl (fun _ _ => .inl (by simp)) harr⟩
  | goto l => exact ⟨_, a₁, w₁, hq, .pass (x := .inLoop c) rfl (fun _ _ => .inl (by simp)) harr⟩
  | ret => exact ⟨_, a₁, w₁, hq, .pass (x := .inLoop c) rfl (fun _ _ => .inl (by simp)) harr⟩
  | panic ch => exact ⟨_, a₁, w₁, hq, .pass (x := .inLoop c) rfl (fun _ _ => .inl (by simp)) harr⟩
  | outgrown => exact ⟨_, a₁, w₁, hq, .pass (x := .inLoop c) rfl (fun _ _ => .inl (by simp)) harr⟩
theorem LoopWp.wp {c : Code} {Q : Exit → Act → World → Prop} {a : Act} {w : World} (h : LoopWp P c Q a w) : (Code.loop c).wp P Q a w :=
  fun b k cs => let ⟨e, a', w', hq, harr⟩ := h b k cs; ⟨e, a', w', hq, .of_steps (.one step_loop) harr⟩

def JumpWp (P : Program) (body rest : Code) (Q : Exit → Act → World → Prop) (a : Act) (w : World) : Prop :=
  ∀ (b : Frame) (k : List Item) (cs : List Frame), ∃ e a' w', Q e a' w' ∧ Arrives P (lone (b.at a (.code rest :: .inScope body :: k)) cs w) b k cs e a' w'
def thenJump (P : Program) (body : Code) (Q : Exit → Act → World → Prop) : Exit → Act → World → Prop
  | .goto l, a, w => ∃ rest, findLabel body l = some rest ∧ JumpWp P body rest Q a w
  | e, a, w => Q e a w
theorem JumpWp.of {body rest : Code} {Q : Exit → Act → World → Prop} {a : Act} {w : World} (h : rest.wp P (thenJump P body Q) a w) : JumpWp P body rest Q a w := by
  intro b k cs
  obtain ⟨e, a₁, w₁, hq, harr⟩ := h b (.inScope body :: k) cs
  cases e with
  | normal => exact ⟨.normal, a₁, w₁, hq, Steps.trans harr (.one step_inScope)⟩
  | exit id => exact ⟨.exit id, a₁, w₁, hq, fun k' hk => harr k' (by simp [exitTo, hk])⟩
  | goto l =>
    obtain ⟨rest', hf, hj⟩ := hq
    obtain ⟨e₂, a₂, w₂, hq₂, harr₂⟩ := hj b k cs
    exact ⟨e₂, a₂, w₂, hq₂, .of_steps (harr _ (by simp [gotoIn, hf])) harr₂⟩
  | ret => exact ⟨_, a₁, w₁, hq, harr⟩
  | panic ch => exact ⟨_, a₁, w₁, hq, harr⟩
  | outgrown => exact ⟨_, a₁, w₁, hq, harr⟩
theorem wp_scope_of {c : Code} {Q : Exit → Act → World → Prop} {a : Act} {w : World} (h : c.wp P (thenJump P c Q) a w) : (Code.scope c).wp P Q a w := by
  intro b k cs
  obtain ⟨e, a', w', hq, harr⟩ := JumpWp.of h b k cs
  exact ⟨e, a', w', hq, .of_steps (.one step_scope) harr⟩

/-! ### what is said -/
def exOf : Ex → Exit
  | .normal => .normal
  | .exit id => .exit id
  | .goto l => .goto l
  | .ret => .ret

def CallPost (C : Cfg) (W0 : World) (G : Ghost) (Q : HV → HS → Prop) (e : Ending) (w' : World) : Prop :=
  ∃ v x G' S', e = .returned v ∧ Q x S' ∧ G.le G' ∧ Inv C W0 G' S' w' ∧ V G' x v
def CodePost (C : Cfg) (W0 : World) (G : Ghost) (n : Nat) (Q : Ex → Env → HS → Prop) (e : Exit) (a' : Act) (w' : World) : Prop :=
  ∃ hx env' S' G', exOf hx = e ∧ Q hx env' S' ∧ G.le G' ∧ Inv C W0 G' S' w' ∧ EnvR G' n env' a'

def ArgsR (G : Ghost) (args : List HV) (args' : Array Value) : Prop := args.length = args'.size ∧ ∀ (i : Nat) x y, args[i]? = some x → args'[i]? = some y → V G x y

def enters (P : Program) (f : FuncId) : Prop := ∃ fn, P.funcs[f]? = some fn ∧ fn.body.isSome = true ∧ (fn.name == "runtime.NumGoroutine") = false

def Meant (P : Program) (C : Cfg) (W0 : World) : J → Prop
  | .call f args S Q => enters P f ∧ ∀ G w args', Inv C W0 G S w → ArgsR G args args' → Calls P f args' w (CallPost C W0 G Q)
  | .code n c env S Q => codeOk c = true → ∀ G w a, Inv C W0 G S w → EnvR G n env a →
      c.wp P (CodePost C W0 G n Q) a w ∧ ∀ body, c = .loop body → LoopWp P body (CodePost C W0 G n Q) a w
  | .jump n body c env S Q => codeOk body = true → codeOk c = true → ∀ G w a, Inv C W0 G S w → EnvR G n env a → JumpWp P body c (CodePost C W0 G n Q) a w
  | .one n ops i env S R => (∀ o ∈ ops, operOk o = true) → ∀ G w a, Inv C W0 G S w → EnvR G n env a → ∀ (Qx : Exit → Act → World → Prop) (K : Act → World → Prop),
      (∀ x S' G' y w', R x S' → G.le G' → Inv C W0 G' S' w' → V G' x y → K (a.put (dstOf ops i) y) w') → wpOp P ops Qx i K a w
  | .ops n ops l env S Q => (∀ o ∈ ops, operOk o = true) → ∀ G w a, Inv C W0 G S w → EnvR G n env a → ∀ (Qx : Exit → Act → World → Prop),
      (∀ env' S' G' a' w', Q env' S' → G.le G' → Inv C W0 G' S' w' → EnvR G' n env' a' → Qx .normal a' w') → wpOps P ops Qx l a w
  | .any n ops fuel listed env S Q => (∀ o ∈ ops, operOk o = true) → ∀ G w a, Inv C W0 G S w → EnvR G n env a → ∀ (Qx : Exit → Act → World → Prop),
      (∀ env' S' G' a' w', Q env' S' → G.le G' → Inv C W0 G' S' w' → EnvR G' n env' a' → Qx .normal a' w') → wpAny P .any ops Qx fuel listed a w

theorem CodePost.mono {G G1 : Ghost} {n : Nat} {Q : Ex → Env → HS → Prop} {e : Exit} {a : Act} {w : World} (hG : G.le G1) (h : CodePost C W0 G1 n Q e a w) : CodePost C W0 G n Q e a w := by
  obtain ⟨hx, env', S', G', h1, h2, h3, h4, h5⟩ := h
  exact ⟨hx, env', S', G', h1, h2, hG.trans h3, h4, h5⟩
theorem LoopWp.mono {c : Code} {Q Q' : Exit → Act → World → Prop} {a : Act} {w : World} (h : LoopWp P c Q a w) (hq : ∀ e a w, Q e a w → Q' e a w) : LoopWp P c Q' a w :=
  fun b k cs => let ⟨e, a', w', q, r⟩ := h b k cs; ⟨e, a', w', hq _ _ _ q, r⟩
theorem JumpWp.mono {c d : Code} {Q Q' : Exit → Act → World → Prop} {a : Act} {w : World} (h : JumpWp P c d Q a w) (hq : ∀ e a w, Q e a w → Q' e a w) : JumpWp P c d Q' a w :=
  fun b k cs => let ⟨e, a', w', q, r⟩ := h b k cs; ⟨e, a', w', hq _ _ _ q, r⟩

/-! ### a function's results -/
theorem load_ptr {G : Ghost} {S : HS} {w : World} (hI : Inv C W0 G S w) {T : TypeId} {x v : HV} {y : Value} (h : hload P T S x = some v) (hx : V G x y) : ∃ ad y', y = .pointer (some ad) ∧ (loadVar T ad).run P w = .ok y' w ∧ V G v y' := by
  obtain ⟨y', h1, h2⟩ := load_ok (P := P) hI h hx
  have hc : ∃ p, hcells S x = some p := by
    unfold hload at h
    cases hi : tyI P T with
    | none => simp [hi] at h
    | some i => cases hc : hcells S x with
      | none => simp [hi, hc] at h
      | some p => exact ⟨p, rfl⟩
  obtain ⟨⟨cs, o⟩, hc⟩ := hc
  obtain ⟨b, p, ys, rfl, _, _⟩ := cells_at hI hx hc
  exact ⟨_, y', rfl, by simpa [Instr.loadAt, Instr.sureAddr] using h1, h2⟩

def resOne (tmps : Array Value) : ResultVar → Sem Value
  | .tmp t => pure (tmps.getD t undef)
  | .cell c t => do loadVar t (← asAddr (tmps.getD c undef))
theorem results_eq (fn : Func) (tmps : Array Value) : results fn tmps = (do let vs ← fn.results.mapM (resOne tmps); pure (if h : vs.size = 1 then vs[0] else .tuple vs)) := by
  unfold results
  congr 2

theorem res_run {G : Ghost} {S : HS} {w : World} {n : Nat} {env : Env} {a : Act} (hI : Inv C W0 G S w) (hE : EnvR G n env a) {fn : Func} {x : HV} (h : hres P fn env S = some x) : ∃ v, (results fn a.tmps).run P w = .ok v w ∧ V G x v := by
  unfold hres at h
  have key : ∀ (l : List ResultVar) (xs : List HV), l.mapM (hresOne P env S) = some xs →
      ∃ vs : List Value, (l.mapM (resOne a.tmps)).run P w = .ok vs w ∧ xs.length = vs.length ∧
        ∀ (i : Nat) x y, xs[i]? = some x → vs[i]? = some y → V G x y := by
    intro l
    induction l with
    | nil => intro xs h; simp at h; subst h; exact ⟨[], rfl, rfl, fun i x y hx => by simp at hx⟩
    | cons r l ih =>
      intro xs h
      rw [List.mapM_cons] at h
      cases hr : hresOne P env S r with
      | none => simp [hr] at h
      | some x0 =>
        cases hl : l.mapM (hresOne P env S) with
        | none => simp [hr, hl] at h
        | some xs' =>
          simp [hr, hl] at h
          subst h
          obtain ⟨vs, h1, h2, h3⟩ := ih xs' hl
          have h0 : ∃ v0, (resOne a.tmps r).run P w = .ok v0 w ∧ V G x0 v0 := by
            cases r with
            | tmp t => simp [hresOne] at hr; subst hr; exact ⟨_, rfl, hE.2.2 t⟩
            | cell c T =>
              simp only [hresOne] at hr
              obtain ⟨ad, y', e1, e2, e3⟩ := load_ptr hI hr (hE.2.2 c)
              exact ⟨y', by simp only [resOne]; rw [e1]; simp [asAddr, e2], e3⟩
          obtain ⟨v0, hv0, hV0⟩ := h0
          refine ⟨v0 :: vs, ?_, by simp [h2], fun i x y hx hy => ?_⟩
          · rw [List.mapM_cons]
            simp only [Sem.run_bind, hv0, Result.andThen_ok, h1, Sem.run_pure]
          · cases i with
            | zero => simp at hx hy; subst hx; subst hy; exact hV0
            | succ i => exact h3 i x y (by simpa using hx) (by simpa using hy)
  simp only [Option.map_eq_some_iff] at h
  obtain ⟨xs, hm, rfl⟩ := h
  obtain ⟨vs, h1, h2, h3⟩ := key _ _ hm
  have hrun : (results fn a.tmps).run P w = .ok (if h : vs.toArray.size = 1 then vs.toArray[0] else .tuple vs.toArray) w := by
    rw [results_eq, Array.mapM_eq_mapM_toList]
    simp only [Sem.run_bind, Sem.run_map, h1, Result.andThen_ok, Sem.run_pure]
  refine ⟨_, hrun, ?_⟩
  clear hrun h1 hm
  match xs, vs, h2, h3 with
  | [x0], [v0], _, h3 => exact h3 0 x0 v0 rfl rfl
  | [], [], _, _ => exact .tup rfl (fun i x y hx => by simp at hx)
  | x0 :: x1 :: xs, v0 :: v1 :: vs, h2, h3 =>
    have : ¬ (v0 :: v1 :: vs).toArray.size = 1 := by simp
    rw [dif_neg this]
    exact .tup (by simpa using h2) (fun i x y hx hy => h3 i x y hx (by simpa using hy))

theorem frzOne_ok {G : Ghost} {S S' : HS} {w : World} (hI : Inv C W0 G S w) {x x' : HV} {y : Value} {z : Nat} (h : frzOne x S z = some (x', S')) (hx : V G x y) : ∃ G', G.le G' ∧ V G' x' y ∧ Inv C W0 G' S' w := by
  cases hx with
  | @ms l o n c b hb hn =>
    simp only [frzOne] at h
    cases hl : S l with
    | none => simp [hl] at h
    | some q =>
      cases q with
      | row cs =>
        simp only [hl] at h
        split at h
        · rename_i hle
          cases h
          obtain ⟨cc, T, fz, he, hv, hr, hu, hf⟩ := hI.rowRange hl hb
          let G' : Ghost := { G with imm := fun b' q => if b' = b then cc.toList[q]? else G.imm b' q }
          have hG : G.le G' := by
            refine ⟨fun b' q y hy => ?_, fun _ _ h => h, fun _ _ h => h⟩
            show (if b' = b then _ else _) = _
            by_cases e : b' = b
            · subst e; rw [hf] at hy; cases hy
            · rw [if_neg e]; exact hy
          refine ⟨G', hG, ?_, ?_⟩
          · refine V.ofChunks (ys := cc.toList.drop o) hle.1 ((hv.mono hG).drop o) (by simp; omega) (fun j y hy hj => ?_) hn (by simp) (by simp)
            show (if b = b then _ else _) = _
            rw [if_pos rfl]
            rw [List.getElem?_drop] at hy
            exact hy
          · have hbd := hI.bnd l b hb
            refine hI.upd l _ b hG (Below.refl _ _) (fun _ _ _ => rfl) (fun b' q hb' => by show (if b' = b then _ else _) = _; rw [if_neg hb']) (fun q y hy => ?_) hb (fun _ _ => rfl) rfl ?_ ?_ (by simp) (by simp [HObj.heavy]) hbd (fun _ h => h) (fun T h _ => by rw [h] at hb; cases hb)
            · have hy' : (if b = b then cc.toList[q]? else G.imm b q) = some y := hy
              rw [if_pos rfl] at hy'
              have := hr q y hy'
              rw [Nat.zero_add] at this
              exact ⟨this, hv.one (List.mem_of_getElem? hy')⟩
            · intro k x hk hS hx hkb
              exact hk (hI.inj k l x _ b hS hl hx rfl hkb hb)
            · intro t f to z' _ ht hs
              exact hI.tb t l _ b f to z' ht hl rfl hs hb
        · cases h
      | _ => simp [hl] at h
  | v hp => simp [frzOne] at h; obtain ⟨rfl, rfl⟩ := h; exact ⟨G, .refl G, .v hp, hI⟩
  | agg a b c => simp [frzOne] at h; obtain ⟨rfl, rfl⟩ := h; exact ⟨G, .refl G, .agg a b c, hI⟩
  | tup a b => simp [frzOne] at h; obtain ⟨rfl, rfl⟩ := h; exact ⟨G, .refl G, .tup a b, hI⟩
  | nil => simp [frzOne] at h; obtain ⟨rfl, rfl⟩ := h; exact ⟨G, .refl G, .nil, hI⟩
  | mt h0 hk => simp [frzOne] at h; obtain ⟨rfl, rfl⟩ := h; exact ⟨G, .refl G, .mt h0 hk, hI⟩
  | sl a b c d e f g h0 => simp [frzOne] at h; obtain ⟨rfl, rfl⟩ := h; exact ⟨G, .refl G, .sl a b c d e f g h0, hI⟩
  | ptr a => simp [frzOne] at h; obtain ⟨rfl, rfl⟩ := h; exact ⟨G, .refl G, .ptr a, hI⟩
  | ep a b c => simp [frzOne] at h; obtain ⟨rfl, rfl⟩ := h; exact ⟨G, .refl G, .ep a b c, hI⟩
  | mp a => simp [frzOne] at h; obtain ⟨rfl, rfl⟩ := h; exact ⟨G, .refl G, .mp a, hI⟩
  | fn a b c d => simp [frzOne] at h; obtain ⟨rfl, rfl⟩ := h; exact ⟨G, .refl G, .fn a b c d, hI⟩
  | ifc a => simp [frzOne] at h; obtain ⟨rfl, rfl⟩ := h; exact ⟨G, .refl G, .ifc a, hI⟩
  | dp a b c d e f => simp [frzOne] at h; obtain ⟨rfl, rfl⟩ := h; exact ⟨G, .refl G, .dp a b c d e f, hI⟩

theorem frzList_ok {w : World} : ∀ {xs : List HV} {zs : List Nat} {ys : List Value} {G : Ghost} {S S' : HS} {xs' : List HV}, Inv C W0 G S w → frzList xs zs S = some (xs', S') → xs.length = ys.length → (∀ (i : Nat) x y, xs[i]? = some x → ys[i]? = some y → V G x y) →
    ∃ G', G.le G' ∧ xs'.length = ys.length ∧ (∀ (i : Nat) x y, xs'[i]? = some x → ys[i]? = some y → V G' x y) ∧ Inv C W0 G' S' w
  | [], zs, ys, G, S, S', xs', hI, h, hl, hv => by
    simp [frzList] at h
    obtain ⟨rfl, rfl⟩ := h
    exact ⟨G, .refl G, hl, fun i x y hx => by simp at hx, hI⟩
  | x :: xs, zs, ys, G, S, S', xs', hI, h, hl, hv => by
    cases ys with
    | nil => simp at hl
    | cons y ys =>
      simp only [frzList] at h
      cases h1 : frzOne x S (zs.headD 0) with
      | none => rw [h1] at h; cases h
      | some p =>
        obtain ⟨x1, S1⟩ := p
        rw [h1] at h
        simp only at h
        cases h2 : frzList xs zs.tail S1 with
        | none => rw [h2] at h; cases h
        | some q =>
          obtain ⟨xs1, S2⟩ := q
          rw [h2] at h
          cases h
          obtain ⟨G1, g1, v1, i1⟩ := frzOne_ok hI h1 (hv 0 x y rfl rfl)
          obtain ⟨G2, g2, l2, v2, i2⟩ := frzList_ok i1 h2 (by simpa using hl) (fun i a b ha hb => (hv (i + 1) a b (by simpa using ha) (by simpa using hb)).mono g1)
          refine ⟨G2, g1.trans g2, by simp [l2], fun i a b ha hb => ?_, i2⟩
          cases i with
          | zero => simp at ha hb; subst ha; subst hb; exact v1.mono g2
          | succ i => exact v2 i a b (by simpa using ha) (by simpa using hb)

theorem frzVal_ok {G : Ghost} {S S' : HS} {w : World} (hI : Inv C W0 G S w) {fn : Func} {x x' : HV} {y : Value} (h : frzVal P fn x S = some (x', S')) (hx : V G x y) : ∃ G', G.le G' ∧ V G' x' y ∧ Inv C W0 G' S' w := by
  unfold frzVal at h
  split at h
  · rename_i xs
    simp only [Option.map_eq_some_iff] at h
    obtain ⟨⟨xs', S1⟩, h, h'⟩ := h
    cases h'
    cases hx with
    | @tup _ vs hl hv =>
      obtain ⟨G', g1, g2, g3, g4⟩ := frzList_ok (ys := vs.toList) hI h (by simpa using hl) (fun i a b ha hb => hv i a b ha (by simpa using hb))
      exact ⟨G', g1, .tup (by simpa using g2) (fun i a b ha hb => g3 i a b ha (by simpa using hb)), g4⟩
  · exact frzOne_ok hI h hx

end Go.HL
