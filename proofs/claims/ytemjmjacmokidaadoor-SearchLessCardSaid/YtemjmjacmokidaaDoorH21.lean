import Derived.Test.YtemjmjacmokidaaDoorH20
set_option linter.all false
/-! HL, part 21: strings, slices, frames, regions that draw their order, results that lie in cells. -/
namespace Go.HL
open Go
variable {P : Program} {C : Cfg}

/-! ### strings as lists -/
def B (l : List UInt8) : ByteArray := ⟨l.toArray⟩
theorem B_toList (s : ByteArray) : B s.data.toList = s := rfl
theorem B_data (l : List UInt8) : (B l).data.toList = l := by simp [B]
theorem B_size (l : List UInt8) : (B l).size = l.length := by simp [B, ByteArray.size]
theorem B_get (l : List UInt8) (i : Nat) : (B l)[i]? = l[i]? := by
  by_cases h : i < l.length
  · have h' : i < (B l).size := by rw [B_size]; exact h
    rw [getElem?_pos (B l) i h', List.getElem?_eq_getElem h]
    rfl
  · have h' : ¬ i < (B l).size := by rw [B_size]; exact h
    rw [getElem?_neg (B l) i h', List.getElem?_eq_none (by omega)]
theorem B_inj {l m : List UInt8} : B l = B m ↔ l = m := by
  constructor
  · intro h
    have := congrArg (fun s : ByteArray => s.data.toList) h
    simpa [B] using this
  · rintro rfl; rfl
theorem B_extract (l : List UInt8) (a b : Nat) : (B l).extract a b = B ((l.take b).drop a) := by
  apply ByteArray.ext
  rw [ByteArray.data_extract]
  apply Array.ext'
  simp [B, Array.toList_extract, List.extract]
  rw [List.drop_take]
theorem B_nil : B [] = ⟨#[]⟩ := rfl

/-! ### slices' values -/
def slHV (P : Program) (T : TypeId) (x : HV) (lo hi mx : Option HV) : Option HV :=
  match P.underlying T with
  | some (.slice e) => match tyI P e, x with
    | some i, .sl k z es =>
      if (mx.isSome ∧ hi.isNone) ∨ ¬ (z = i.size ∨ es = []) then none else
      match bnd mx 0 es.length with
      | none => none
      | some m => match bnd hi es.length (if mx.isSome then m else es.length) with
        | none => none
        | some h => match bnd lo 0 h with
          | none => none
          | some l =>
            let es' := (es.take h).drop l
            let k' := if mx.isSome then (if m = h then .full else .none) else if k = .full then (if h = es.length then .full else .none) else if h = es.length ∧ l < h then k else .none
            some (.sl k' z es')
    | some i, .ms l0 o n c =>
      if mx.isSome ∧ hi.isNone then none else
      match bnd mx c c with
      | none => none
      | some m => match bnd hi n m with
        | none => none
        | some h => match bnd lo 0 h with
          | none => none
          | some l => some (.ms l0 (if m = l then o else o + l * i.size) (h - l) (m - l))
    | _, _ => none
  | _ => none
theorem hslice_eq {T : TypeId} {x : HV} {lo hi mx : Option Operand} {env : Env} : hslice P C T x lo hi mx env = slHV P T x (lo.map (hev C env)) (hi.map (hev C env)) (mx.map (hev C env)) := by
  unfold hslice slHV
  simp only [hbound_bnd, Option.isSome_map, Option.isNone_map]
  cases P.underlying T with
  | none => rfl
  | some d => cases d <;> first | rfl | (rename_i e; cases tyI P e <;> cases x <;> rfl)
def optVals (xs : List (Option HV)) : Bool := xs.all fun x => match x with | some x => (toVal x).isSome | none => true
def strSl (P : Program) (T : TypeId) (s : ByteArray) (lo hi mx : Option HV) : Option HV :=
  if optVals [lo, hi, mx] then hvOf P (Instr.sliceAt T (.string s) (lo.map fun x => (toVal x).getD Go.undef) (hi.map fun x => (toVal x).getD Go.undef) (mx.map fun x => (toVal x).getD Go.undef)) else none
def sliceV (P : Program) (T : TypeId) (x : HV) (lo hi mx : Option HV) : Option HV :=
  match x with
  | .v (.string s) => strSl P T s lo hi mx
  | h => slHV P T h lo hi mx
theorem hpure_slice {d : Option Nat} {ty : TypeId} {pos : String} {af : Array Edge} {g : Option (Nat × Bool)} {env : Env} {T : TypeId} {x : Operand} {lo hi mx : Option Operand} {s : ByteArray} (hx : hev C env x = .v (.string s)) :
    hpure P C ⟨d, .slice T x lo hi mx, ty, pos, af, g⟩ env = strSl P T s (lo.map (hev C env)) (hi.map (hev C env)) (mx.map (hev C env)) := by
  unfold hpure strSl
  have e1 : (Op.operands (.slice T x lo hi mx)).toList.all (fun x => (toVal (hev C env x)).isSome) = optVals [lo.map (hev C env), hi.map (hev C env), mx.map (hev C env)] := by
    cases lo <;> cases hi <;> cases mx <;> simp [Op.operands, optVals, hx, toVal]
  simp only [e1]
  split
  · simp only [execOp, hx, toVal, Option.getD_some, Option.map_map, hvOf, bind, Sem.val?_bind]
    cases lo <;> cases hi <;> cases mx <;> simp only [Option.map_some, Option.map_none, Function.comp] <;> (generalize Instr.sliceAt T _ _ _ _ = q; cases q.val? P <;> rfl)
  · rfl
theorem opK_slice {d : Option Nat} {ty : TypeId} {pos : String} {af : Array Edge} {g : Option (Nat × Bool)} {env : Env} {S : HS} {R : HV → HS → Prop} {T : TypeId} {x : Operand} {lo hi mx : Option Operand} :
    opK P C ⟨d, .slice T x lo hi mx, ty, pos, af, g⟩ env S R = someS (ev (sliceV P T (hev C env x) (lo.map (hev C env)) (hi.map (hev C env)) (mx.map (hev C env)))) R S := by
  simp only [ev_eq, opK, hop, sliceV]
  cases hx : hev C env x with
  | v y =>
    cases y with
    | string s => simp only [hpure_slice hx]; rfl
    | _ => simp only [hslice_eq]; rfl
  | _ => simp only [hslice_eq]; rfl

section
variable {T : TypeId} {l : List UInt8} {k k' : IntKind} {a b : Int}
theorem val_bound_ok {y : Nat} {code : BoundsCode} (h0 : 0 ≤ a) (h1 : a ≤ y) : (Instr.sliceBound (.int k a) y code).val? P = some a.toNat := by
  simp [Instr.sliceBound, asIntOf, h0, h1, bind, Sem.bind, pure, Sem.val?]
theorem str_from (hT : P.underlying T = some .string) (h0 : 0 ≤ a) (h1 : a ≤ l.length) : sliceV P T (.v (.string (B l))) (some (.v (.int k a))) none none = some (.v (.string (B (l.drop a.toNat)))) := by
  have hb : (Instr.sliceBounds false (B l).size (B l).size (some (.int k a)) none none).val? P = some (a.toNat, l.length, l.length) := by
    simp [Instr.sliceBounds, bind, Sem.bind, pure, Sem.val?, Sem.val?_bind, B_size, Instr.sliceBound, asIntOf, h0, h1]
  simp only [sliceV, strSl, optVals, toVal, List.all_cons, List.all_nil, Option.isSome_some, Bool.and_self, if_true, Option.map_some, Option.map_none, Option.getD_some, hvOf, Instr.sliceAt, Instr.slice, underlying, program, bind, Sem.bind, pure]
  simp only [Sem.val?, Option.bind, hT, Option.isSome_none, Bool.false_eq_true, if_false, Sem.val?_bind, hb, Option.bind_some, okVal, okLeaf, plain, ofVal, ofLeaf, if_true]
  rw [B_extract, List.take_length]
end

/-! ### frames -/
def Fr (S S' : HS) : Prop := ∀ l x, S l = some x → S' l = some x
theorem Fr.refl (S : HS) : Fr S S := fun _ _ h => h
theorem Fr.trans {A B D : HS} (h : Fr A B) (k : Fr B D) : Fr A D := fun l x hx => k l x (h l x hx)
theorem Fr.set {S S' : HS} (h : Fr S S') {l : Nat} (o : HObj) (hl : S l = none) : Fr S (S'.set l o) := by
  intro k x hx
  by_cases e : k = l
  · subst e; rw [hl] at hx; cases hx
  · rw [HS.set_ne _ _ e]; exact h k x hx
theorem Fr.new {S : HS} {l : Nat} (o : HObj) (hl : S l = none) : Fr S (S.set l o) := (Fr.refl S).set o hl
theorem Fr.none {S S' : HS} (h : Fr S S') {l : Nat} (hl : S' l = none) : S l = none := by
  cases e : S l with
  | none => rfl
  | some x => rw [h l x e] at hl; cases hl
theorem ne_of_some_none {S : HS} {l k : Nat} {x : HObj} (h : S l = some x) (hk : S k = none) : l ≠ k := by
  rintro rfl; rw [h] at hk; cases hk

/-! ### a region that draws its order, whose operations only reckon, load and allocate -/
def tmpL : List Operand → List Nat
  | [] => []
  | .tmp t :: xs => t :: tmpL xs
  | .const _ :: xs => tmpL xs
  | .global _ :: xs => tmpL xs
  | .func _ :: xs => tmpL xs
def optL : Option Operand → List Operand
  | none => []
  | some x => [x]
def opL : Op → List Operand
  | .move x | .assign x | .load _ x | .nilCheck x | .unOp _ _ x | .convert _ _ x | .fieldAddr _ x _ | .field _ x _ | .extract x _ | .box _ x | .makeInterface _ x => [x]
  | .pick c a b => [c, a, b]
  | .binOp _ _ a b _ | .store _ a b | .indexAddr _ a b | .index _ a b | .lookup _ a b _ | .makeSlice _ a b => [a, b]
  | .build _ ps => ps.toList.map (·.2)
  | .buildSlice _ _ ps => ps.toList.map (·.2)
  | .slice _ x l h m => x :: (optL l ++ (optL h ++ optL m))
  | .call ⟨.value f, args, _⟩ => f :: args.toList
  | .call ⟨.builtin _, args, _⟩ => args.toList
  | _ => []
def guardL (ops : Array Oper) : Option (Nat × Bool) → List Nat
  | some (j, _) => match (ops[j]?).bind (·.dst) with | some d => [d] | none => []
  | none => []
def readsOf (ops : Array Oper) (o : Oper) : List Nat := tmpL (opL o.op) ++ guardL ops o.guard
/-- Is operation i surely ahead of j? -/
def ahead (ops : Array Oper) : Nat → Nat → Nat → Bool
  | 0, _, _ => false
  | f + 1, i, j => match ops[j]? with
    | none => false
    | some o => o.after.toList.any fun e => Region.binds .any e && (e.on == i || ahead ops f i e.on)
def anyOk (n : Nat) (ops : Array Oper) (olds : List Nat) : Bool :=
  (List.range ops.size).all fun i => match ops[i]? with
    | none => false
    | some o =>
      (match o.dst with | some d => decide (d < n) && (List.range ops.size).all (fun j => j == i || (ops[j]?).bind (·.dst) != some d) | none => true) &&
      (o.after.toList.all fun e => !Region.binds .any e || decide (e.on < i)) &&
      (readsOf ops o).all fun t => (List.range ops.size).all fun j => (ops[j]?).bind (·.dst) != some t ||
        (if olds.contains t then ahead ops 6 i j else o.after.toList.any fun e => Region.binds .any e && e.on == j)
theorem ahead_listed {ops : Array Oper} {listed : Array Bool} (hd : ∀ (j : Nat) (o : Oper), ops[j]? = some o → listed[j]? = some true → ∀ e ∈ o.after.toList, Region.binds .any e = true → listed[e.on]? = some true) :
    ∀ (f i j : Nat), ahead ops f i j = true → listed[j]? = some true → listed[i]? = some true
  | 0, _, _, h, _ => by simp [ahead] at h
  | f + 1, i, j, h, hl => by
    unfold ahead at h
    split at h
    · cases h
    · rename_i o ho
      simp only [List.any_eq_true, Bool.and_eq_true, Bool.or_eq_true, beq_iff_eq] at h
      obtain ⟨e, he, hb, h | h⟩ := h
      · rw [← h]; exact hd j o ho hl e he hb
      · exact ahead_listed hd f i e.on h (hd j o ho hl e he hb)
def look (vals : List (Nat × HV)) (env0 : Env) (t : Nat) : HV :=
  match vals.find? (fun p => p.1 == t) with
  | some p => p.2
  | none => env0 t
def obls (P : Program) (C : Cfg) (ops : Array Oper) (RF F : Env) (J : HS → Prop) : List Oper → Prop
  | [] => True
  | o :: rest => (∀ env S, J S → (∀ t ∈ readsOf ops o, env t = RF t) → oneL P C ops o env S (fun x S' => (∀ d, o.dst = some d → x = F d) ∧ J S')) ∧ obls P C ops RF F J rest
theorem obls_mem {ops : Array Oper} {RF F : Env} {J : HS → Prop} : ∀ {l : List Oper}, obls P C ops RF F J l → ∀ o ∈ l, ∀ env S, J S → (∀ t ∈ readsOf ops o, env t = RF t) → oneL P C ops o env S (fun x S' => (∀ d, o.dst = some d → x = F d) ∧ J S')
  | [], _, o, ho => by cases ho
  | o' :: l, h, o, ho => by
    rcases List.mem_cons.1 ho with rfl | ho
    · exact h.1
    · exact obls_mem h.2 o ho

theorem count_set_true : ∀ (l : List Bool) (i : Nat), l[i]? = some false → (l.set i true).count false + 1 = l.count false
  | [], i, h => by simp at h
  | b :: l, 0, h => by simp at h; subst h; simp
  | b :: l, i + 1, h => by
    simp at h
    have := count_set_true l i h
    cases b <;> simp [List.count_cons] <;> omega

theorem mem_ready {ops : Array Oper} {listed : Array Bool} {i : Nat} (hs : listed.size = ops.size) : i ∈ Region.ready .any ops listed ↔ ∃ o, ops[i]? = some o ∧ listed[i]? = some false ∧ ∀ e ∈ o.after.toList, Region.binds .any e = true → listed[e.on]? = some true := by
  unfold Region.ready
  rw [List.mem_filter, List.mem_range]
  constructor
  · rintro ⟨h1, h2⟩
    have ho : ops[i]? = some ops[i] := Array.getElem?_eq_getElem h1
    have hl : listed[i]? = some (listed[i]'(by omega)) := Array.getElem?_eq_getElem _
    simp only [ho, Option.map_some, Option.getD_some, Bool.and_eq_true, Bool.not_eq_true', Array.getD_eq_getD_getElem?, hl] at h2
    refine ⟨_, ho, by rw [hl, h2.1], fun e he hb => ?_⟩
    have := h2.2
    rw [Array.all_eq_true_iff_forall_mem] at this
    have := this e (by simpa using he)
    rw [hb] at this
    simp only [Bool.not_true, Bool.false_or] at this
    cases hq : listed[e.on]? with
    | none => simp [hq] at this
    | some b => simp [hq] at this; rw [this]
  · rintro ⟨o, ho, hl, he⟩
    refine ⟨(Array.getElem?_eq_some_iff.1 ho).1, ?_⟩
    simp only [ho, Option.map_some, Option.getD_some, Bool.and_eq_true, Bool.not_eq_true', Array.getD_eq_getD_getElem?, hl]
    simp only [Bool.not_false, true_and]
    rw [Array.all_eq_true_iff_forall_mem]
    intro e hm
    by_cases hb : Region.binds .any e = true
    · simp [he e (by simpa using hm) hb]
    · simp [hb]

theorem any_listed {n : Nat} {ops : Array Oper} {env0 : Env} {S0 : HS} {Q : Env → HS → Prop} (RF F : Env) (J : Array Bool → HS → Prop) (hJ : J (Array.replicate ops.size false) S0) (olds : List Nat) (hok : anyOk n ops olds = true) (hR : ∀ t, RF t = if olds.contains t then env0 t else F t)
    (hF : ∀ t, (∀ (i : Nat) (o : Oper), ops[i]? = some o → o.dst ≠ some t) → F t = env0 t) (hobl : ∀ (i : Nat) (o : Oper), ops[i]? = some o → ∀ listed env S, J listed S → (∀ t ∈ readsOf ops o, env t = RF t) → oneL P C ops o env S (fun x S' => (∀ d, o.dst = some d → x = F d) ∧ J (listed.setIfInBounds i true) S'))
    (hQ : ∀ (listed : Array Bool) S, (∀ i, i < ops.size → listed[i]? = some true) → J listed S → Q F S) :
    Om P C (.any n ops ops.size (Array.replicate ops.size false) env0 S0 Q) := by
  have hst : ∀ (i : Nat) (o : Oper), ops[i]? = some o → (∀ d, o.dst = some d → d < n ∧ ∀ (j : Nat) (o' : Oper), ops[j]? = some o' → o'.dst = some d → j = i) ∧ (∀ e ∈ o.after.toList, Region.binds .any e = true → e.on < i) ∧
      ∀ t ∈ readsOf ops o, ∀ (j : Nat) (o' : Oper), ops[j]? = some o' → o'.dst = some t → if olds.contains t then ahead ops 6 i j = true else ∃ e ∈ o.after.toList, Region.binds .any e = true ∧ e.on = j := by
    intro i o ho
    have hi := (Array.getElem?_eq_some_iff.1 ho).1
    unfold anyOk at hok
    rw [List.all_eq_true] at hok
    have h := hok i (List.mem_range.2 hi)
    simp only [ho, Bool.and_eq_true, List.all_eq_true] at h
    obtain ⟨⟨h1, h2⟩, h3⟩ := h
    refine ⟨fun d hd => ?_, fun e he hb => ?_, fun t ht j o' hj hd => ?_⟩
    · simp only [hd, Bool.and_eq_true, decide_eq_true_eq, List.all_eq_true, List.mem_range, Bool.or_eq_true, beq_iff_eq, bne_iff_ne] at h1
      refine ⟨h1.1, fun j o' hj hd' => ?_⟩
      rcases h1.2 j (Array.getElem?_eq_some_iff.1 hj).1 with h | h
      · exact h
      · exact absurd (by simp [hj, hd']) h
    · have := h2 e he
      simpa [hb] using this
    · have := h3 t ht
      simp only [List.all_eq_true, List.mem_range, Bool.or_eq_true, bne_iff_ne] at this
      rcases this j (Array.getElem?_eq_some_iff.1 hj).1 with h | h
      · exact absurd (by simp [hj, hd]) h
      · split
        · rename_i hc; rw [if_pos hc] at h; exact h
        · rename_i hc
          rw [if_neg hc] at h
          simp only [List.any_eq_true, Bool.and_eq_true, beq_iff_eq] at h
          exact h
  have main : ∀ (fuel : Nat) (listed : Array Bool) (env : Env) (S : HS), listed.size = ops.size → listed.toList.count false ≤ fuel → J listed S →
      (∀ (i : Nat) (o : Oper), ops[i]? = some o → listed[i]? = some true → ∀ d, o.dst = some d → env d = F d) →
      (∀ t, (∀ (i : Nat) (o : Oper), ops[i]? = some o → o.dst = some t → listed[i]? ≠ some true) → env t = env0 t) →
      (∀ (j : Nat) (o : Oper), ops[j]? = some o → listed[j]? = some true → ∀ e ∈ o.after.toList, Region.binds .any e = true → listed[e.on]? = some true) → Om P C (.any n ops fuel listed env S Q) := by
    intro fuel
    induction fuel with
    | zero =>
      intro listed env S hs hc hfr h1 h2 hdn
      have hall : ∀ i, i < ops.size → listed[i]? = some true := by
        intro i hi
        have hl : listed[i]? = some (listed[i]'(by omega)) := Array.getElem?_eq_getElem _
        cases hb : listed[i]'(by omega) with
        | true => rw [hl, hb]
        | false =>
          exfalso
          have : false ∈ listed.toList := by rw [← hb]; simp
          have := List.count_pos_iff.2 this
          omega
      refine .anyDone ?_ ?_
      · apply List.eq_nil_iff_forall_not_mem.2
        intro i hi
        obtain ⟨o, ho, hl, _⟩ := (mem_ready hs).1 hi
        rw [hall i (Array.getElem?_eq_some_iff.1 ho).1] at hl
        cases hl
      · have : env = F := by
          funext t
          by_cases ht : ∃ (i : Nat) (o : Oper), ops[i]? = some o ∧ o.dst = some t
          · obtain ⟨i, o, ho, hd⟩ := ht
            exact h1 i o ho (hall i (Array.getElem?_eq_some_iff.1 ho).1) t hd
          · rw [h2 t (fun i o ho hd => absurd ⟨i, o, ho, hd⟩ ht), hF t (fun i o ho hd => ht ⟨i, o, ho, hd⟩)]
        rw [this]
        exact hQ listed S hall hfr
    | succ fuel ih =>
      intro listed env S hs hc hfr h1 h2 hdn
      by_cases hne : Region.ready .any ops listed = []
      · have hall : ∀ i, i < ops.size → listed[i]? = some true := by
          intro i
          induction i using Nat.strongRecOn with
          | ind i ihi =>
            intro hi
            have hl : listed[i]? = some (listed[i]'(by omega)) := Array.getElem?_eq_getElem _
            cases hb : listed[i]'(by omega) with
            | true => rw [hl, hb]
            | false =>
              exfalso
              have ho : ops[i]? = some ops[i] := Array.getElem?_eq_getElem hi
              have : i ∈ Region.ready .any ops listed := (mem_ready hs).2 ⟨_, ho, by rw [hl, hb], fun e he hbd => by
                have hlt := (hst i _ ho).2.1 e he hbd
                exact ihi e.on hlt (by omega)⟩
              rw [hne] at this
              cases this
        refine .anyDone hne ?_
        have : env = F := by
          funext t
          by_cases ht : ∃ (i : Nat) (o : Oper), ops[i]? = some o ∧ o.dst = some t
          · obtain ⟨i, o, ho, hd⟩ := ht
            exact h1 i o ho (hall i (Array.getElem?_eq_some_iff.1 ho).1) t hd
          · rw [h2 t (fun i o ho hd => absurd ⟨i, o, ho, hd⟩ ht), hF t (fun i o ho hd => ht ⟨i, o, ho, hd⟩)]
        rw [this]
        exact hQ listed S hall hfr
      · refine .anyStep (fun i x S' => (∀ o d, ops[i]? = some o → o.dst = some d → x = F d) ∧ J (listed.setIfInBounds i true) S') hne ?_ ?_
        · intro i hi
          obtain ⟨o, ho, hl, he⟩ := (mem_ready hs).1 hi
          have := hobl i o ho listed env S hfr (fun t ht => ?_)
          · refine oneL_sound ho ?_
            have e : (fun (x : HV) (S' : HS) => (∀ d, o.dst = some d → x = F d) ∧ J (listed.setIfInBounds i true) S') = fun x S' => (∀ o' d, ops[i]? = some o' → o'.dst = some d → x = F d) ∧ J (listed.setIfInBounds i true) S' := by
              funext x S'
              apply propext
              constructor
              · rintro ⟨a, b⟩
                exact ⟨fun o' d h h' => by rw [ho] at h; cases h; exact a d h', b⟩
              · rintro ⟨a, b⟩
                exact ⟨fun d h => a o d ho h, b⟩
            rw [← e]
            exact this
          · rw [hR t]
            by_cases hx : ∃ (j : Nat) (o' : Oper), ops[j]? = some o' ∧ o'.dst = some t
            · obtain ⟨j, o', hj, hd⟩ := hx
              have hstep := (hst i o ho).2.2 t ht j o' hj hd
              by_cases hc : olds.contains t = true
              · rw [if_pos hc] at hstep ⊢
                refine h2 t (fun j2 o2 hj2 hd2 hl2 => ?_)
                have e2 : j2 = j := ((hst j o' hj).1 t hd).2 j2 o2 hj2 hd2
                subst e2
                have := ahead_listed hdn 6 i j2 hstep hl2
                rw [hl] at this; cases this
              · rw [if_neg hc] at hstep ⊢
                obtain ⟨e, hm, hb, hon⟩ := hstep
                exact h1 j o' hj (hon ▸ he e hm hb) t hd
            · have e1 : env t = env0 t := h2 t (fun j o' hj hd => absurd ⟨j, o', hj, hd⟩ hx)
              split
              · exact e1
              · rw [e1, hF t (fun j o' hj hd => hx ⟨j, o', hj, hd⟩)]
        · intro i x S' hi hRx
          obtain ⟨o, ho, hl, hpre⟩ := (mem_ready hs).1 hi
          have hi' := (Array.getElem?_eq_some_iff.1 ho).1
          have hset : ∀ j, (listed.setIfInBounds i true)[j]? = some true ↔ j = i ∨ listed[j]? = some true := by
            intro j
            rw [Array.getElem?_setIfInBounds]
            by_cases e : i = j
            · subst e; simp [hs, hi']
            · rw [if_neg e]
              constructor
              · exact .inr
              · rintro (h | h)
                · exact absurd h.symm e
                · exact h
          refine ih _ _ _ (by simpa using hs) ?_ hRx.2 ?_ ?_ ?_
          · have := count_set_true listed.toList i (by simpa using hl)
            rw [Array.toList_setIfInBounds]
            omega
          · intro j o' hj hlj d hd
            unfold dstOf Env.put
            simp only [ho, Option.bind_some]
            cases hod : o.dst with
            | none =>
              rcases (hset j).1 hlj with e | h
              · subst e; rw [ho] at hj; cases hj; rw [hod] at hd; cases hd
              · exact h1 j o' hj h d hd
            | some d0 =>
              simp only
              have hlt := ((hst i o ho).1 d0 hod).1
              by_cases e : d = d0
              · subst e
                rw [if_pos ⟨hlt, rfl⟩]
                exact hRx.1 o d ho hod
              · rw [if_neg (fun h => e h.2)]
                rcases (hset j).1 hlj with e' | h
                · subst e'; rw [ho] at hj; cases hj; rw [hod] at hd; cases hd; exact absurd rfl e
                · exact h1 j o' hj h d hd
          · intro t ht
            have hti : o.dst ≠ some t := fun e => ht i o ho e ((hset i).2 (.inl rfl))
            have hold : env t = env0 t := h2 t (fun j o' hj hd h => ht j o' hj hd ((hset j).2 (.inr h)))
            unfold dstOf Env.put
            simp only [ho, Option.bind_some]
            cases hod : o.dst with
            | none => exact hold
            | some d0 =>
              simp only
              rw [if_neg (fun h => hti (by rw [hod, h.2]))]
              exact hold
          · intro j o' hj hlj e he hb
            rcases (hset j).1 hlj with e' | h
            · subst e'; rw [ho] at hj; cases hj; exact (hset _).2 (.inr (hpre e he hb))
            · exact (hset _).2 (.inr (hdn j o' hj h e he hb))
  have hno : ∀ i : Nat, (Array.replicate ops.size false)[i]? ≠ some true := by
    intro i hl
    rw [Array.getElem?_replicate] at hl
    split at hl <;> cases hl
  exact main ops.size _ env0 S0 (by simp) (by simp) hJ (fun i o ho hl => absurd hl (hno i)) (fun t _ => rfl) (fun j o ho hl => absurd hl (hno j))

theorem any_pure {n : Nat} {ops : Array Oper} {env0 : Env} {S0 : HS} {Q : Env → HS → Prop} (RF F : Env) (J : HS → Prop) (hJ : J S0) (olds : List Nat) (hok : anyOk n ops olds = true) (hR : ∀ t, RF t = if olds.contains t then env0 t else F t)
    (hF : ∀ t, (∀ (i : Nat) (o : Oper), ops[i]? = some o → o.dst ≠ some t) → F t = env0 t) (hobl : obls P C ops RF F J ops.toList) (hQ : ∀ S, J S → Q F S) :
    Om P C (.any n ops ops.size (Array.replicate ops.size false) env0 S0 Q) :=
  any_listed RF F (fun _ => J) hJ olds hok hR hF (fun i o ho _ env S hS ht => obls_mem hobl o (by simpa using Array.mem_of_getElem? ho) env S hS ht) (fun _ S _ hS => hQ S hS)

/-- What operations leave in the heap: each its own, and no other one takes it away. -/
def presL (i : Nat) (S S' : HS) : List (Nat × (HS → Prop)) → Prop
  | [] => True
  | p :: rest => ((p.1 = i → p.2 S') ∧ (p.1 ≠ i → p.2 S → p.2 S')) ∧ presL i S S' rest
def oblsP (P : Program) (C : Cfg) (ops : Array Oper) (RF F : Env) (J : HS → Prop) (post : List (Nat × (HS → Prop))) : Nat → List Oper → Prop
  | _, [] => True
  | i, o :: rest => (∀ env S, J S → (∀ t ∈ readsOf ops o, env t = RF t) → oneL P C ops o env S (fun x S' => (∀ d, o.dst = some d → x = F d) ∧ J S' ∧ presL i S S' post)) ∧ oblsP P C ops RF F J post (i + 1) rest
theorem oblsP_get {ops : Array Oper} {RF F : Env} {J : HS → Prop} {post : List (Nat × (HS → Prop))} : ∀ {l : List Oper} {k : Nat}, oblsP P C ops RF F J post k l → ∀ (i : Nat) o, l[i]? = some o → ∀ env S, J S → (∀ t ∈ readsOf ops o, env t = RF t) →
    oneL P C ops o env S (fun x S' => (∀ d, o.dst = some d → x = F d) ∧ J S' ∧ presL (k + i) S S' post)
  | [], _, _, i, o, ho => by simp at ho
  | o' :: l, k, h, 0, o, ho => by
    simp at ho
    subst ho
    exact h.1
  | o' :: l, k, h, i + 1, o, ho => by
    have := oblsP_get h.2 i o (by simpa using ho)
    rwa [show k + 1 + i = k + (i + 1) by omega] at this
theorem presL_mem {i : Nat} {S S' : HS} : ∀ {post : List (Nat × (HS → Prop))}, presL i S S' post → ∀ p ∈ post, (p.1 = i → p.2 S') ∧ (p.1 ≠ i → p.2 S → p.2 S')
  | [], _, p, hp => by cases hp
  | q :: post, h, p, hp => by
    rcases List.mem_cons.1 hp with rfl | hp
    · exact h.1
    · exact presL_mem h.2 p hp
theorem oneL_mono (hC : C.extMono) {ops : Array Oper} {o : Oper} {env : Env} {S : HS} {R R' : HV → HS → Prop} (h : oneL P C ops o env S R) (hr : ∀ x S', R x S' → R' x S') : oneL P C ops o env S R' := by
  unfold oneL at *
  split
  · rename_i hw
    rw [if_pos hw] at h
    cases hop : o.op with
    | call c =>
      simp only [hop] at h ⊢
      cases hcal : c.callee with
      | value f =>
        simp only [hcal] at h ⊢
        cases hf : hev C env f with
        | fn g a b =>
          simp only [hf] at h ⊢
          rcases h with h | ⟨x, h1, h2⟩
          · exact .inl (call_mono hC h hr)
          · exact .inr ⟨x, h1, hr _ _ h2⟩
        | _ => simp only [hf] at h
      | _ => simp only [hcal] at h ⊢; exact hop_mono hr h
    | _ => simp only [hop] at h ⊢; exact hop_mono hr h
  · rename_i hw
    rw [if_neg hw] at h
    exact hr _ _ h
theorem any_post (hC : C.extMono) {n : Nat} {ops : Array Oper} {env0 : Env} {S0 : HS} {Q : Env → HS → Prop} (RF F : Env) (J : HS → Prop) (post : List (Nat × (HS → Prop))) (hJ : J S0) (olds : List Nat) (hok : anyOk n ops olds = true) (hR : ∀ t, RF t = if olds.contains t then env0 t else F t)
    (hF : ∀ t, (∀ (i : Nat) (o : Oper), ops[i]? = some o → o.dst ≠ some t) → F t = env0 t) (hpost : post.all (fun p => decide (p.1 < ops.size)) = true) (hobl : oblsP P C ops RF F J post 0 ops.toList) (hQ : ∀ S, J S → (∀ p ∈ post, p.2 S) → Q F S) :
    Om P C (.any n ops ops.size (Array.replicate ops.size false) env0 S0 Q) := by
  refine any_listed RF F (fun listed S => J S ∧ ∀ p ∈ post, listed[p.1]? = some true → p.2 S) ⟨hJ, fun p _ h => ?_⟩ olds hok hR hF ?_ ?_
  · rw [Array.getElem?_replicate] at h
    split at h <;> cases h
  · intro i o ho listed env S hS ht
    have h := oblsP_get hobl i o (by simpa using ho) env S hS.1 ht
    refine oneL_mono hC h fun x S' hx => ⟨hx.1, hx.2.1, fun p hp hl => ?_⟩
    have h3 := presL_mem hx.2.2 p hp
    rw [Nat.zero_add] at h3
    by_cases e : p.1 = i
    · exact h3.1 e
    · rw [Array.getElem?_setIfInBounds, if_neg (Ne.symm e)] at hl
      exact h3.2 e (hS.2 p hp hl)
  · intro listed S hall hS
    refine hQ S hS.1 fun p hp => hS.2 p hp (hall _ ?_)
    rw [List.all_eq_true] at hpost
    simpa using hpost p hp

/-- .. with the values of its temporaries written out; 'over': those that overwrite what is read ahead of it. -/
theorem drawK' {n id : Nat} {ops : List Oper} {env0 : Env} {S0 : HS} {Q : Ex → Env → HS → Prop} (J : HS → Prop) (vals over : List (Nat × HV)) (hJ : J S0) (hok : anyOk n ops.toArray (over.map (·.1)) = true)
    (hk : (ops.filterMap (·.dst)).all (fun t => ((over ++ vals).map (·.1)).contains t) = true) (hk2 : ((over ++ vals).map (·.1)).all (fun t => (ops.filterMap (·.dst)).contains t) = true) (hk3 : (vals.map (·.1)).all (fun t => !(over.map (·.1)).contains t) = true)
    (hobl : obls P C ops.toArray (look vals env0) (look (over ++ vals) env0) J ops) (hQ : ∀ S, J S → Q .normal (look (over ++ vals) env0) S) : codeK P C n (.region id ops.toArray true) env0 S0 Q := by
  have hfind : ∀ (l : List (Nat × HV)) t, l.find? (fun p => p.1 == t) = none ↔ t ∉ l.map (·.1) := by
    intro l t
    rw [List.find?_eq_none]
    constructor
    · intro h hm
      obtain ⟨p, hp, rfl⟩ := List.mem_map.1 hm
      exact h p hp (by simp)
    · intro h p hp hpt
      exact h (List.mem_map.2 ⟨p, hp, by simpa using hpt⟩)
  refine .draw ?_
  refine any_pure (look vals env0) (look (over ++ vals) env0) J hJ (over.map (·.1)) hok (fun t => ?_) (fun t ht => ?_) hobl hQ
  · split
    · rename_i hc
      have hc' : t ∈ over.map (·.1) := by simpa using hc
      have : t ∉ vals.map (·.1) := by
        intro hv
        rw [List.all_eq_true] at hk3
        have := hk3 t hv
        rw [hc] at this
        cases this
      unfold look
      rw [(hfind vals t).2 this]
    · rename_i hc
      have hc' : t ∉ over.map (·.1) := by simpa using hc
      unfold look
      rw [List.find?_append, (hfind over t).2 hc']
      rfl
  · have hno : t ∉ (over ++ vals).map (·.1) := by
      intro hm
      rw [List.all_eq_true] at hk2
      have h3 := hk2 t hm
      rw [List.contains_iff_mem, List.mem_filterMap] at h3
      obtain ⟨o, ho, hd⟩ := h3
      obtain ⟨i, hi, rfl⟩ := List.mem_iff_getElem.1 ho
      exact ht i _ (by simp [hi]) hd
    unfold look
    rw [(hfind _ t).2 hno]
theorem drawP (hC : C.extMono) {n id : Nat} {ops : List Oper} {env0 : Env} {S0 : HS} {Q : Ex → Env → HS → Prop} (J : HS → Prop) (post : List (Nat × (HS → Prop))) (vals over : List (Nat × HV)) (hJ : J S0) (hok : anyOk n ops.toArray (over.map (·.1)) = true)
    (hk : (ops.filterMap (·.dst)).all (fun t => ((over ++ vals).map (·.1)).contains t) = true) (hk2 : ((over ++ vals).map (·.1)).all (fun t => (ops.filterMap (·.dst)).contains t) = true) (hk3 : (vals.map (·.1)).all (fun t => !(over.map (·.1)).contains t) = true)
    (hpost : post.all (fun p => decide (p.1 < ops.length)) = true)
    (hobl : oblsP P C ops.toArray (look vals env0) (look (over ++ vals) env0) J post 0 ops) (hQ : ∀ S, J S → (∀ p ∈ post, p.2 S) → Q .normal (look (over ++ vals) env0) S) : codeK P C n (.region id ops.toArray true) env0 S0 Q := by
  have hfind : ∀ (l : List (Nat × HV)) t, l.find? (fun p => p.1 == t) = none ↔ t ∉ l.map (·.1) := by
    intro l t
    rw [List.find?_eq_none]
    constructor
    · intro h hm
      obtain ⟨p, hp, rfl⟩ := List.mem_map.1 hm
      exact h p hp (by simp)
    · intro h p hp hpt
      exact h (List.mem_map.2 ⟨p, hp, by simpa using hpt⟩)
  refine .draw ?_
  refine any_post hC (look vals env0) (look (over ++ vals) env0) J post hJ (over.map (·.1)) hok (fun t => ?_) (fun t ht => ?_) (by simpa using hpost) hobl hQ
  · split
    · rename_i hc
      have hc' : t ∈ over.map (·.1) := by simpa using hc
      have : t ∉ vals.map (·.1) := by
        intro hv
        rw [List.all_eq_true] at hk3
        have := hk3 t hv
        rw [hc] at this
        cases this
      unfold look
      rw [(hfind vals t).2 this]
    · rename_i hc
      have hc' : t ∉ over.map (·.1) := by simpa using hc
      unfold look
      rw [List.find?_append, (hfind over t).2 hc']
      rfl
  · have hno : t ∉ (over ++ vals).map (·.1) := by
      intro hm
      rw [List.all_eq_true] at hk2
      have h3 := hk2 t hm
      rw [List.contains_iff_mem, List.mem_filterMap] at h3
      obtain ⟨o, ho, hd⟩ := h3
      obtain ⟨i, hi, rfl⟩ := List.mem_iff_getElem.1 ho
      exact ht i _ (by simp [hi]) hd
    unfold look
    rw [(hfind _ t).2 hno]
theorem drawK {n id : Nat} {ops : List Oper} {env0 : Env} {S0 : HS} {Q : Ex → Env → HS → Prop} (J : HS → Prop) (vals : List (Nat × HV)) (hJ : J S0) (hok : anyOk n ops.toArray [] = true)
    (hk : (ops.filterMap (·.dst)).all (fun t => (vals.map (·.1)).contains t) = true) (hk2 : (vals.map (·.1)).all (fun t => (ops.filterMap (·.dst)).contains t) = true)
    (hobl : obls P C ops.toArray (look vals env0) (look vals env0) J ops) (hQ : ∀ S, J S → Q .normal (look vals env0) S) : codeK P C n (.region id ops.toArray true) env0 S0 Q :=
  drawK' J vals [] hJ hok hk hk2 (by rw [List.all_eq_true]; intro t _; simp) hobl hQ

theorem oneL_free {ops : Array Oper} {env : Env} {S : HS} {R : HV → HS → Prop} {d : Option Nat} {op : Op} {ty : TypeId} {pos : String} {af : Array Edge} :
    oneL P C ops ⟨d, op, ty, pos, af, none⟩ env S R = opK P C ⟨d, op, ty, pos, af, none⟩ env S R := oneL_opK (o := ⟨d, op, ty, pos, af, none⟩) rfl
theorem oneL_guard {ops : List Oper} {env : Env} {S : HS} {R : HV → HS → Prop} {d : Option Nat} {op : Op} {ty : TypeId} {pos : String} {af : Array Edge} {j : Nat} {t : Bool} (hg : ((ops[j]?).bind (·.dst)).isSome = true) :
    oneL P C ops.toArray ⟨d, op, ty, pos, af, some (j, t)⟩ env S R = guardK (ev (env (guardTmp ops j))) t (opK P C ⟨d, op, ty, pos, af, some (j, t)⟩ env S R) (R .undef S) := by
  have := opsL_guard' (P := P) (C := C) (n := 0) (rest := []) (env := env) (S := S) (Q := fun env S => True) (d := d) (op := op) (ty := ty) (pos := pos) (af := af) (t := t) hg
  obtain ⟨g, h⟩ := Option.isSome_iff_exists.1 hg
  have hgt : guardTmp ops j = g := by unfold guardTmp; rw [h]; rfl
  rw [ev_eq, hgt]
  have hy : hyield ops.toArray env j = match env g with | .v (.bool b) => some b | _ => none := by
    unfold hyield
    simp only [List.getElem?_toArray, h]
    cases env g with
    | v x => cases x <;> rfl
    | _ => rfl
  apply propext
  by_cases e : env g = .bool t
  · have hw : Region.wanted ⟨d, op, ty, pos, af, some (j, t)⟩ (hyield ops.toArray env) = true := by simp [Region.wanted, hy, e]
    rw [oneL_opK hw]
    constructor
    · exact fun h => ⟨fun _ => h, fun h' => absurd e h'⟩
    · exact fun h => h.1 e
  · have hw : ¬ Region.wanted ⟨d, op, ty, pos, af, some (j, t)⟩ (hyield ops.toArray env) = true := by
      simp only [Region.wanted, hy]
      intro hh
      apply e
      revert hh
      cases env g with
      | v x => cases x <;> simp
      | _ => simp
    unfold oneL
    rw [if_neg hw]
    constructor
    · exact fun h => ⟨fun h' => absurd h' e, fun _ => h⟩
    · exact fun h => h.2 e

/-! ### results that lie in cells -/
def resL (P : Program) (env : Env) (S : HS) : List ResultVar → (List HV → Prop) → Prop
  | [], K => K []
  | .tmp t :: rs, K => resL P env S rs fun vs => K (env t :: vs)
  | .cell a T :: rs, K => some? (ev (hload P T S (env a))) fun v => resL P env S rs fun vs => K (v :: vs)
theorem resL_iff {env : Env} {S : HS} : ∀ {rs : List ResultVar} {K : List HV → Prop}, resL P env S rs K ↔ ∃ vs, rs.mapM (hresOne P env S) = some vs ∧ K vs
  | [], K => ⟨fun h => ⟨[], rfl, h⟩, fun ⟨vs, h, hk⟩ => by simp at h; subst h; exact hk⟩
  | .tmp t :: rs, K => by
    unfold resL
    rw [resL_iff (rs := rs)]
    constructor
    · rintro ⟨vs, h1, h2⟩
      exact ⟨_, by simp [hresOne, h1], h2⟩
    · rintro ⟨vs, h1, h2⟩
      rw [List.mapM_cons] at h1
      simp only [hresOne, Option.bind_eq_bind, Option.bind_some] at h1
      cases hm : rs.mapM (hresOne P env S) with
      | none => rw [hm] at h1; cases h1
      | some us =>
        rw [hm] at h1
        simp at h1
        subst h1
        exact ⟨us, rfl, h2⟩
  | .cell a T :: rs, K => by
    unfold resL
    rw [ev_eq]
    cases hl : hload P T S (env a) with
    | none =>
      constructor
      · intro h; exact h.elim
      · rintro ⟨vs, h1, h2⟩
        rw [List.mapM_cons] at h1
        simp [hresOne, hl] at h1
    | some v =>
      simp only [some?]
      rw [resL_iff (rs := rs)]
      constructor
      · rintro ⟨vs, h1, h2⟩
        exact ⟨_, by simp [hresOne, hl, h1], h2⟩
      · rintro ⟨vs, h1, h2⟩
        rw [List.mapM_cons] at h1
        simp only [hresOne, hl, Option.bind_eq_bind, Option.bind_some] at h1
        cases hm : rs.mapM (hresOne P env S) with
        | none => rw [hm] at h1; cases h1
        | some us =>
          rw [hm] at h1
          simp at h1
          subst h1
          exact ⟨us, rfl, h2⟩
def resK (P : Program) (rs : List ResultVar) (R : HV → HS → Prop) (ex : Ex) (env : Env) (S : HS) : Prop := (ex = .normal ∨ ex = .ret) ∧ resL P env S rs fun vs => R (packRes vs) S
theorem resK_normal {rs : List ResultVar} {R : HV → HS → Prop} {env : Env} {S : HS} : resK P rs R .normal env S = resL P env S rs fun vs => R (packRes vs) S := by simp [resK]
theorem resK_ret {rs : List ResultVar} {R : HV → HS → Prop} {env : Env} {S : HS} : resK P rs R .ret env S = resL P env S rs fun vs => R (packRes vs) S := by simp [resK]
theorem call_res {f : FuncId} {fn : Func} {body : Code} {args : List HV} {S : HS} {R : HV → HS → Prop} (rs : List ResultVar) (m : Nat) (hf : P.funcs[f]? = some fn) (hb : fn.body = some body)
    (hm : args.length + (fn.ntmps - args.length) = m) (hr : fn.results = rs.toArray) (hz : C.frz f = false)
    (h : wpc P C m body (Env.enter args) S (resK P rs R)) : Om P C (.call f args S R) := by
  subst hm
  refine call_intro hf hb ?_
  have e : retTo P C f fn R = resK P rs R := by
    funext ex env S
    unfold retTo resK hres
    rw [hr]
    simp only [hz, Bool.false_eq_true, if_false, resL_iff]
    apply propext
    constructor
    · rintro ⟨h1, x, h2, h3⟩
      rw [Option.map_eq_some_iff] at h2
      obtain ⟨vs, h2, rfl⟩ := h2
      exact ⟨h1, vs, h2, h3⟩
    · rintro ⟨h1, vs, h2, h3⟩
      exact ⟨h1, packRes vs, by simp [h2], h3⟩
  rw [e]
  exact h
end Go.HL
