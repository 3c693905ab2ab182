import Derived.Test.YtemjmjacmokidaaDoorH12
set_option linter.all false
/-! HL, part 13: an operation that is no call of a function does in the model what HL says. -/
namespace Go.HL
open Go Go.RowKit
variable {P : Program} {C : Cfg} {W0 : World} {G : Ghost} {S : HS} {w : World}

theorem some?_elim {α : Type} {o : Option α} {K : α → Prop} (h : some? o K) : ∃ x, o = some x ∧ K x := by
  cases o with
  | none => exact h.elim
  | some x => exact ⟨x, rfl, h⟩

theorem OpOk.val {e : Sem Value} {K : HV → HS → Prop} {x : HV} {y : Value} {w' : World} {G' : Ghost} {S' : HS} (hr : e.run P w = .ok y w') (hv : V G' x y) (hG : G.le G') (hI : Inv C W0 G' S' w') (hK : K x S') :
    OpOk P C W0 G (do pure (.value (← e))) w K :=
  ⟨.value y, w', G', x, S', by simp [hr], hv, hK, hG, hI⟩
theorem OpOk.unit {e : Sem Unit} {K : HV → HS → Prop} {w' : World} {S' : HS} (hr : e.run P w = .ok () w') (hI : Inv C W0 G S' w') (hK : K .undef S') :
    OpOk P C W0 G (do e; pure .skip) w K :=
  ⟨.skip, w', G, .undef, S', by simp [hr], rfl, hK, .refl G, hI⟩

theorem map_V {n : Nat} {env : Env} {a : Act} (hI : Inv C W0 G S w) (hE : EnvR G n env a) (xs : Array Operand) (hc : ∀ x ∈ xs, Operand.okc x = true) (i : Nat) (x : HV) (y : Value) (h : (xs.toList.map (hev C env))[i]? = some x) (h' : (xs.map a.eval)[i]? = some y) : V G x y := by
  simp at h h'
  obtain ⟨q, hq, rfl⟩ := h
  obtain ⟨q', hq', rfl⟩ := h'
  rw [hq] at hq'; cases hq'
  exact hev_V hI hE (hc q (Array.mem_of_getElem? hq))

theorem builtin_sound {n : Nat} {env : Env} {a : Act} (hI : Inv C W0 G S w) (hE : EnvR G n env a) (o : Oper) (c : Call) (b : Builtin) (ho : o.op = .call c) (hb : c.callee = .builtin b) (hc : ∀ x ∈ o.op.operands, Operand.okc x = true) {K : HV → HS → Prop}
    (h : hbuiltin P C o b c.argTypes (c.args.toList.map (hev C env)) env S K) : OpOk P C W0 G (execOp a.eval o) w K := by
  have hpure : ∀ v, hpure P C o env = some v → K v S → OpOk P C W0 G (execOp a.eval o) w K := fun v hv hK => pure_ok hI hE (by intro cs b e; rw [ho] at e; cases e) hc hv hK
  have hex : execOp a.eval o = (do let d ← (pure { target := .builtin b c.argTypes o.type (c.args.map fun | .const _ => true | _ => false), args := c.args.map a.eval } : Sem Deferred); invoke d.target d.args) := by
    unfold execOp
    rw [ho]
    unfold resolve
    simp only [hb]
    rfl
  have hargs : ∀ x ∈ c.args, Operand.okc x = true := fun x hx => hc x (by rw [ho]; simp [Op.operands, Call.operands, hb, hx])
  have hV := map_V hI hE c.args hargs
  have hlen : (c.args.toList.map (hev C env)).length = (c.args.map a.eval).size := by simp
  generalize hA : c.args.toList.map (hev C env) = A at h hV hlen
  generalize hB : c.args.map a.eval = B at hV hlen hex
  generalize (c.args.map fun | .const _ => true | _ => false) = consts at hex
  generalize hT : c.argTypes = ts at h hex
  have hts : ts = ts.toList.toArray := by simp
  have two : ∀ x y, A = [x, y] → ∃ x' y', B = #[x', y'] ∧ V G x x' ∧ V G y y' := by
    rintro x y rfl
    obtain ⟨l⟩ := B
    match l, hlen with
    | [x', y'], _ => exact ⟨x', y', rfl, hV 0 _ _ rfl rfl, hV 1 _ _ rfl rfl⟩
  have one : ∀ x, A = [x] → ∃ x', B = #[x'] ∧ V G x x' := by
    rintro x rfl
    obtain ⟨l⟩ := B
    match l, hlen with
    | [x'], _ => exact ⟨x', rfl, hV 0 _ _ rfl rfl⟩
  unfold hbuiltin at h
  split at h
  · -- len
    rename_i T x heq
    obtain ⟨hf, h⟩ := h
    obtain ⟨k, hk, hK⟩ := some?_elim h
    obtain ⟨x', rfl, hx⟩ := one _ rfl
    rw [hts, heq] at hex
    rw [hex]
    exact OpOk.val (e := Builtin.len_ #[T] o.type #[x']) (len_ok hI hf hk hx) (.v rfl) (.refl G) hI hK
  · -- cap
    rename_i T l p n' c' heq
    obtain ⟨hs, hK⟩ := h
    obtain ⟨x', rfl, hx⟩ := one _ rfl
    rw [hts, heq] at hex
    rw [hex]
    cases hx with
    | ms hb hn =>
      obtain ⟨i, hi⟩ := Option.isSome_iff_exists.1 hs
      unfold sliceElem at hi
      split at hi
      · rename_i e hu
        exact OpOk.val (e := Builtin.cap_ #[T] o.type _) (y := .int .i64 c') (by simp [Builtin.cap_, run_underlying hu, goInt]) (.v rfl) (.refl G) hI hK
      · cases hi
  · -- append
    rename_i T T' x y heq
    obtain ⟨i, hi, hk, h⟩ := some?_elim h
    obtain ⟨ys, hr, hys, h⟩ := some?_elim h
    obtain ⟨x', y', rfl, hx, hy⟩ := two _ _ rfl
    rw [hts, heq] at hex
    rw [hex]
    unfold sliceElem at hi
    split at hi
    · rename_i e hu
      rw [show elemTy P T = e by simp [elemTy, hu]] at h
      obtain ⟨v, w', G', r, S', k1, k2, k3, k4, k5⟩ := append_ok (ty := o.type) hI hu hi hk hx hy hr hys h
      exact OpOk.val (e := Builtin.append_ #[T, T'] o.type #[x', y']) k1 k2 k4 k5 k3
    · cases hi
  · -- copy
    rename_i T T' l p n' c' y heq
    obtain ⟨i, hi, h⟩ := some?_elim h
    obtain ⟨ys, hr, h⟩ := some?_elim h
    obtain ⟨x', y', rfl, hx, hy⟩ := two _ _ rfl
    rw [hts, heq] at hex
    rw [hex]
    unfold sliceElem at hi
    split at hi
    · rename_i e hu
      split at h
      · rename_i cs hl
        obtain ⟨_, hle, hys, hK⟩ := h
        obtain ⟨w', k1, k2⟩ := copy_ok (ty := o.type) (T' := T') hI hu hi hx hy hr hys hl hle
        exact OpOk.val (e := Builtin.copy_ #[T, T'] o.type #[x', y']) k1 (.v rfl) (.refl G) k2 hK
      · exact h.elim
    · cases hi
  · -- clear
    rename_i T l p n' c' heq
    obtain ⟨i, hi, h⟩ := some?_elim h
    obtain ⟨x', rfl, hx⟩ := one _ rfl
    rw [hts, heq] at hex
    rw [hex]
    unfold sliceElem at hi
    split at hi
    · rename_i e hu
      split at h
      · rename_i cs hl
        obtain ⟨_, hle, hK⟩ := h
        obtain ⟨w', k1, k2⟩ := clear_ok (ty := o.type) hI hu hi hx hl hle
        exact OpOk.val (e := Builtin.clear_ #[T] o.type #[x']) k1 V.undef (.refl G) k2 hK
      · exact h.elim
    · cases hi
  · -- delete
    rename_i T T' m k heq
    obtain ⟨S', hd, hK⟩ := some?_elim h
    obtain ⟨x', y', rfl, hx, hy⟩ := two _ _ rfl
    rw [hts, heq] at hex
    rw [hex]
    obtain ⟨w', k1, k2⟩ := delete_ok (T' := T') (ty := o.type) hI hd hx hy
    exact OpOk.val (e := Builtin.delete_ #[T, T'] o.type #[x', y']) k1 V.undef (.refl G) k2 hK
  · -- unsafe.SliceData
    rename_i T k z es heq
    obtain ⟨x', rfl, hx⟩ := one _ rfl
    rw [hts, heq] at hex
    rw [hex]
    split at h
    · rename_i he
      subst he
      obtain ⟨rfl, rfl, hK⟩ := h
      exact OpOk.val (e := Builtin.unsafeSliceData_ #[T] o.type #[x']) (sliceData_nil hx) (.v rfl) (.refl G) hI hK
    · rename_i he
      split at h
      · obtain ⟨v, k1, k2⟩ := sliceData_ok (P := P) (w := w) (ts := #[T]) (ty := o.type) hx he
        exact OpOk.val (e := Builtin.unsafeSliceData_ #[T] o.type #[x']) k1 k2 (.refl G) hI h
      · exact h.elim
  · -- unsafe.String
    rename_i T T' t z es n heq
    obtain ⟨hne, rfl, rfl, hroom, ht, hT, h⟩ := h
    obtain ⟨bs, hbs, hK⟩ := some?_elim h
    obtain ⟨x', y', rfl, hx, hy⟩ := two _ _ rfl
    rw [hts, heq] at hex
    rw [hex]
    split at hT
    · rename_i e hu
      obtain ⟨hT, h1⟩ := hT
      split at h1
      · rename_i i hi
        cases hy with
        | v hp =>
          obtain ⟨w', k1, k2⟩ := unsafeString_ok (ty := o.type) (it := T') hI hu hi h1 ht hT hne hbs hx (by unfold roomy at hroom; omega)
          exact OpOk.val (e := Builtin.unsafeString_ #[T, T'] o.type #[x', .int .i64 es.length]) k1 (.v rfl) (.refl G) k2 hK
      · exact h1.elim
    · exact hT.elim
  · -- unsafe.String of nothing
    rename_i T T' n heq
    obtain ⟨rfl, hK⟩ := h
    obtain ⟨x', y', rfl, hx, hy⟩ := two _ _ rfl
    rw [hts, heq] at hex
    rw [hex]
    cases hx with
    | v hp => cases hy with
      | v hp' => exact OpOk.val (e := Builtin.unsafeString_ #[T, T'] o.type #[.pointer none, .int .i64 0]) (Lib.run_unsafeString_none w T T' o.type none) (.v rfl) (.refl G) hI hK
  · obtain ⟨v, hv, hK⟩ := some?_elim h; exact hpure v hv hK
  · obtain ⟨v, hv, hK⟩ := some?_elim h; exact hpure v hv hK
  · obtain ⟨v, hv, hK⟩ := some?_elim h; exact hpure v hv hK
  · obtain ⟨v, hv, hK⟩ := some?_elim h; exact hpure v hv hK
  · obtain ⟨v, hv, hK⟩ := some?_elim h; exact hpure v hv hK
  · exact h.elim

theorem parts_V {n : Nat} {env : Env} {a : Act} (hI : Inv C W0 G S w) (hE : EnvR G n env a) (ps : Array (Nat × Operand)) (hc : ∀ p ∈ ps, Operand.okc p.2 = true) :
    (ps.toList.map fun (i, x) => (i, hev C env x)).length = (ps.map fun (i, x) => (i, a.eval x)).size ∧
    ∀ (i : Nat) p p', (ps.toList.map fun (i, x) => (i, hev C env x))[i]? = some p → (ps.map fun (i, x) => (i, a.eval x))[i]? = some p' → p.1 = p'.1 ∧ V G p.2 p'.2 := by
  refine ⟨by simp, fun i p p' h h' => ?_⟩
  simp at h h'
  obtain ⟨k, q, hq, rfl⟩ := h
  obtain ⟨k', q', hq', rfl⟩ := h'
  rw [hq] at hq'; cases hq'
  exact ⟨rfl, hev_V hI hE (hc (k, q) (Array.mem_of_getElem? hq))⟩

theorem hop_sound {n : Nat} {env : Env} {a : Act} (hI : Inv C W0 G S w) (hE : EnvR G n env a) (o : Oper) (hc : ∀ x ∈ o.op.operands, Operand.okc x = true) {K : HV → HS → Prop} (h : hop P C o env S K) :
    OpOk P C W0 G (execOp a.eval o) w K := by
  have hpure : (∀ cs b, o.op ≠ .select cs b) → some? (hpure P C o env) (fun v => K v S) → OpOk P C W0 G (execOp a.eval o) w K := fun hs hv => by
    obtain ⟨v, hv, hK⟩ := some?_elim hv
    exact pure_ok hI hE hs hc hv hK
  have hev : ∀ x, x ∈ o.op.operands → V G (hev C env x) (a.eval x) := fun x hx => hev_V hI hE (hc x hx)
  obtain ⟨dst, op, type, pos, after, guard⟩ := o
  unfold hop at h
  cases op with
  | move x => exact OpOk.val (e := pure (a.eval x)) rfl (hev x (by simp [Op.operands])) (.refl G) hI h
  | assign x => exact OpOk.val (e := pure (a.eval x)) rfl (hev x (by simp [Op.operands])) (.refl G) hI h
  | pick c x y =>
    simp only at h
    split at h
    · rename_i t ht
      have h1 := hev c (by simp [Op.operands])
      rw [ht] at h1
      have h2 := hev x (by simp [Op.operands])
      have h3 := hev y (by simp [Op.operands])
      generalize hec : a.eval c = ec at h1
      cases h1
      refine ⟨.value (if t then a.eval x else a.eval y), w, G, _, S, ?_, ?_, h, .refl G, hI⟩
      · simp [execOp, hec, asBool]
      · cases t
        · exact h3
        · exact h2
    · exact h.elim
  | alloc T =>
    obtain ⟨i, hi, h⟩ := some?_elim h
    obtain ⟨inf, d, z, h1, h2, h3, h4, h5, h6, h7, h8, h9⟩ := tyI_spec hi
    obtain ⟨l, hl, hln⟩ := hI.some_fresh (some T)
    obtain ⟨G', hG, hb, hI'⟩ := hI.newRow hl (cs := i.zero) (c := z.cells) T (by rw [h9]; exact zero_VL h4) (lt_some hln rfl)
    exact OpOk.val (e := Instr.alloc T true (.tuple #[])) (y := .pointer (some ⟨w.heap.size, 0, none⟩)) (by simp [Instr.alloc, zeroValue, typeInfo, h1, h3, newVar, newRow]) (.ptr hb) hG hI' (h l hl hln)
  | box T x =>
    obtain ⟨hco, h⟩ := h
    obtain ⟨l, hl, hln⟩ := hI.some_fresh none
    have hx := hev x (by simp [Op.operands])
    obtain ⟨G', hG, hb, hI'⟩ := hI.newRow hl (c := (a.eval x).cells) T (hx.cellsVL hco) (lt_none hln)
    exact OpOk.val (e := Instr.box T (a.eval x)) (y := .pointer (some ⟨w.heap.size, 0, none⟩)) (by simp [Instr.box, newVar, newRow]) (.ptr hb) hG hI' (h l hl)
  | build T parts =>
    obtain ⟨v, hv, hK⟩ := some?_elim h
    have hp := parts_V hI hE parts (fun p hp => hc p.2 (by simp [Op.operands]; exact ⟨p.1, hp⟩))
    obtain ⟨y, hy, hV⟩ := build_ok hI hv hp.1 hp.2
    exact OpOk.val (e := Instr.build T _) hy hV (.refl G) hI hK
  | buildSlice T len parts =>
    obtain ⟨⟨j, cs⟩, hv, hK⟩ := some?_elim h
    have hp := parts_V hI hE parts (fun p hp => hc p.2 (by simp [Op.operands]; exact ⟨p.1, hp⟩))
    obtain ⟨e, c, k1, k2, k3, k4, k5, k6⟩ := buildSlice_cells hv hp.1 hp.2
    simp only at hK
    split at hK
    · obtain ⟨l, hl, hln⟩ := hI.some_fresh none
      obtain ⟨G', hG, hb, hI'⟩ := hI.newRow hl (c := c) e k5 (lt_none hln)
      exact OpOk.val (e := Instr.buildSlice T len _) (k6 w) (.ms hb (Nat.le_refl _)) hG hI' (hK l hl)
    · have hcl : c.toList.length = len * j.size := by rw [← k5.1, k4]
      obtain ⟨hG, hI'⟩ := hI.newImm c e (len * j.size) (fun y hy => k5.one hy)
      refine OpOk.val (e := Instr.buildSlice T len _) (k6 w) ?_ hG hI' hK
      refine V.ofChunks (ys := c.toList) (by assumption) (k5.mono hG) (by omega) (fun q y hq hlt => ?_) (Nat.le_refl _) (fun _ => rfl) (fun t ht => by cases ht)
      show (if w.heap.size = w.heap.size then _ else _) = _
      rw [if_pos rfl, Nat.zero_add, if_pos hlt]
      exact hq
  | load T x =>
    obtain ⟨v, hv, hK⟩ := some?_elim h
    obtain ⟨y, hy, hV⟩ := load_ok hI hv (hev x (by simp [Op.operands]))
    exact OpOk.val (e := Instr.loadAt T _) hy hV (.refl G) hI hK
  | store T x y =>
    obtain ⟨S', hv, hK⟩ := some?_elim h
    obtain ⟨w', hr, hI'⟩ := store_ok hI hv (hev x (by simp [Op.operands])) (hev y (by simp [Op.operands]))
    exact OpOk.unit (e := Instr.storeAt T _ _) hr hI' hK
  | nilCheck x =>
    have hx := hev x (by simp [Op.operands])
    simp only at h
    split at h
    · rename_i l o heq
      rw [heq] at h hx
      generalize hex : a.eval x = y at hx
      cases hx with
      | ptr hb => exact ⟨.value _, w, G, _, S, by simp [execOp, hex], .ptr hb, h, .refl G, hI⟩
    · rename_i cs o heq
      rw [heq] at h hx
      generalize hex : a.eval x = y at hx
      cases hx with
      | ep ys hi hv => exact ⟨.value _, w, G, _, S, by simp [execOp, hex], .ep ys hi hv, h, .refl G, hI⟩
    · rename_i f fs cs heq
      rw [heq] at h hx
      generalize hex : a.eval x = y at hx
      cases hx with
      | fn h1 h2 h3 h4 => exact ⟨.value _, w, G, _, S, by simp [execOp, hex], .fn h1 h2 h3 h4, h, .refl G, hI⟩
    · exact h.elim
  | binOp bo T x y T' =>
    have hx := hev x (by simp [Op.operands])
    have hy := hev y (by simp [Op.operands])
    cases bo with
    | eql =>
      simp only at h
      split at h
      · rename_i r hr
        obtain ⟨g1, g2, g3⟩ := eqNil_run (P := P) (w := w) hr hx hy
        exact OpOk.val (e := do eqGuard .eql T x y (a.eval x) (a.eval y); binOp .eql T (a.eval x) (a.eval y)) (y := .bool r) (by rw [Sem.run_bind, g1 x y .eql (.inl rfl)]; exact g2) (.v rfl) (.refl G) hI h
      · exact hpure (by simp) h
    | neq =>
      simp only at h
      split at h
      · rename_i r hr
        obtain ⟨g1, g2, g3⟩ := eqNil_run (P := P) (w := w) hr hx hy
        exact OpOk.val (e := do eqGuard .neq T x y (a.eval x) (a.eval y); binOp .neq T (a.eval x) (a.eval y)) (y := .bool !r) (by rw [Sem.run_bind, g1 x y .neq (.inr rfl)]; exact g3) (.v rfl) (.refl G) hI h
      · exact hpure (by simp) h
    | _ => exact hpure (by simp) h
  | unOp u T x => exact hpure (by simp) h
  | convert src dst x =>
    have hx := hev x (by simp [Op.operands])
    simp only at h
    split at h
    · rename_i e s hd hs
      obtain ⟨hsrc, he, h⟩ := h
      obtain ⟨u, hu⟩ := Option.isSome_iff_exists.1 hsrc
      have he' : P.underlying e = some (.int .u8) := by split at he; assumption; exact he.elim
      rw [hs] at hx
      generalize hex : a.eval x = y at hx
      cases hx with
      | v hp =>
        split at h
        · obtain ⟨l, hl, hln⟩ := hI.some_fresh none
          obtain ⟨G', c, k0, k1, k2, k3, k4⟩ := stringToBytes_mut (P := P) hI hu hd he' s hl hln
          exact OpOk.val (e := convert src dst (a.eval x)) (by rw [hex]; exact k1) k2 k3 k4 (h l c hl k0)
        · obtain ⟨t, ht, hln⟩ := hI.some_fresh none
          obtain ⟨G', c, k1, k2, k2', k3, k4⟩ := stringToBytes_imm (P := P) hI hu hd he' s ht hln
          exact OpOk.val (e := convert src dst (a.eval x)) (by rw [hex]; exact k1) k2 k3 k4 (h t ht)
    · exact hpure (by simp) h
    · rename_i l q hd hs
      rw [hs] at hx
      split at h
      · rename_i t cs hsrc hl
        obtain ⟨hq, h1, hK⟩ := h
        split at h1
        · rename_i i hi
          exact OpOk.val (e := convert src dst (a.eval x)) (toUnsafe_ok hI hsrc hd hi h1 hl hq hx) hx (.refl G) hI hK
        · exact h1.elim
      · exact h.elim
    · rename_i u l q hd hs
      rw [hs] at hx
      obtain ⟨hsrc, rfl, hlt, h1, hK⟩ := h
      split at h1
      · rename_i cs i hl hi
        exact OpOk.val (e := convert src dst (a.eval x)) (fromUnsafe_ok hI hsrc hd hi h1.2 hl h1.1 hlt hx) hx (.refl G) hI hK
      · exact h1.elim
    · exact hpure (by simp) h
    · rename_i x' hd h1 h2
      obtain ⟨hsrc, h⟩ := h
      split at hsrc
      · rename_i e hs
        have he' : P.underlying e = some (.int .u8) := by split at hsrc; assumption; exact hsrc.elim
        have main : (∀ s, HL.hev C env x ≠ .v s) → some? (hrow 1 S (HL.hev C env x)) (fun es => some? (hbytes es) fun bs => K (.str ⟨bs.toArray⟩) S) → OpOk P C W0 G (do pure (.value (← convert src dst (a.eval x)))) w K := by
          intro hxs h
          obtain ⟨es, hes, h⟩ := some?_elim h
          obtain ⟨bs, hbs, hK⟩ := some?_elim h
          exact OpOk.val (e := convert src dst (a.eval x)) (bytesToString_ok hI hs he' hd hx hxs hes hbs) (.v rfl) (.refl G) hI hK
        split at h
        · rename_i heq; exact main (by rw [heq]; simp) h
        · rename_i heq; exact main (by rw [heq]; simp) h
        · exact h.elim
      · exact hsrc.elim
    · exact hpure (by simp) h
  | makeInterface T x =>
    obtain ⟨hd, h⟩ := h
    have hx := hev x (by simp [Op.operands])
    refine OpOk.val (e := Instr.makeInterface T (a.eval x)) (y := .iface T (a.eval x)) ?_ (.ifc hx) (.refl G) hI h
    cases hu : P.underlying T with
    | none => simp [hu] at hd
    | some d => cases d <;> first | (simp [hu] at hd; done) | (simp [Instr.makeInterface, run_underlying hu])
  | makeFunc fn first captured =>
    cases fn with
    | func f =>
      have h1 := map_V hI hE first (fun x hx => hc x (by simp [Op.operands, hx]))
      have h2 := map_V hI hE captured (fun x hx => hc x (by simp [Op.operands, hx]))
      exact OpOk.val (e := Instr.makeFunc (.func f) _ _) rfl (.fn (by simp) (by simp) h1 h2) (.refl G) hI h
    | _ => exact h.elim
  | makeMap T r =>
    cases r with
    | none =>
      obtain ⟨l, hl, hln⟩ := hI.some_fresh none
      obtain ⟨G', hG, hb, hI'⟩ := hI.newObj hl (.map [] 0) (by simp) (.map #[] 0) (lt_none hln) (fun G' _ _ _ => ⟨#[], heap_alloc_new _ _, rfl, fun i e e' he => by simp at he⟩)
      exact OpOk.val (e := Instr.makeMap T none) (y := .map (some w.heap.size)) (by simp [Instr.makeMap]) (.mp hb) hG hI' (h l hl)
    | some r => exact h.elim
  | makeSlice T lx cx =>
    obtain ⟨i, hi, h⟩ := some?_elim h
    obtain ⟨l, hl, h⟩ := some?_elim h
    obtain ⟨c, hcx, h0, hlc, hb, h62, h⟩ := some?_elim h
    unfold sliceElem at hi
    split at hi
    · rename_i e hu
      obtain ⟨r, hr, hln⟩ := hI.some_fresh none
      obtain ⟨y, w', G', k1, k2, k3, k4⟩ := makeSlice_ok hI hu hi (hev lx (by simp [Op.operands])) (hev cx (by simp [Op.operands])) hl hcx h0 hlc hb h62 hr hln
      exact OpOk.val (e := Instr.makeSlice T _ _) k1 k2 k3 k4 (h r hr)
    · cases hi
  | slice T x lo hi mx =>
    have hx := hev x (by simp [Op.operands])
    have main : some? (hslice P C T (HL.hev C env x) lo hi mx env) (fun v => K v S) → OpOk P C W0 G (do pure (.value (← Instr.sliceAt T (a.eval x) (lo.map a.eval) (hi.map a.eval) (mx.map a.eval)))) w K := by
      intro h
      obtain ⟨v, hv, hK⟩ := some?_elim h
      obtain ⟨y, hy, hV⟩ := slice_ok hI hE (fun q hq => hc q (by subst hq; simp [Op.operands])) (fun q hq => hc q (by subst hq; simp [Op.operands])) (fun q hq => hc q (by subst hq; simp [Op.operands])) hv hx
      exact OpOk.val (e := Instr.sliceAt T _ _ _ _) hy hV (.refl G) hI hK
    simp only at h
    split at h
    · exact hpure (by simp) h
    · exact main h
  | fieldAddr T x f =>
    obtain ⟨v, hv, hK⟩ := some?_elim h
    obtain ⟨y, hy, hV⟩ := fieldAddr_ok (w := w) hv (hev x (by simp [Op.operands]))
    exact OpOk.val (e := Instr.fieldAt T _ _) hy hV (.refl G) hI hK
  | field T x f =>
    obtain ⟨v, hv, hK⟩ := some?_elim h
    obtain ⟨y, hy, hV⟩ := field_ok (w := w) hv (hev x (by simp [Op.operands]))
    exact OpOk.val (e := Instr.field T _ _) hy hV (.refl G) hI hK
  | indexAddr T x i =>
    obtain ⟨v, hv, hK⟩ := some?_elim h
    obtain ⟨y, hy, hV⟩ := indexAddr_ok hI hv (hev x (by simp [Op.operands])) (hev i (by simp [Op.operands]))
    exact OpOk.val (e := Instr.indexAt T _ _) hy hV (.refl G) hI hK
  | index T x i =>
    obtain ⟨v, hv, hK⟩ := some?_elim h
    obtain ⟨y, hy, hV⟩ := index_ok (w := w) hv (hev x (by simp [Op.operands])) (hev i (by simp [Op.operands]))
    exact OpOk.val (e := Instr.index T _ _) hy hV (.refl G) hI hK
  | lookup T x k ok =>
    obtain ⟨v, hv, hK⟩ := some?_elim h
    obtain ⟨y, hy, hV⟩ := lookup_ok hI hv (hev x (by simp [Op.operands])) (hev k (by simp [Op.operands]))
    exact OpOk.val (e := Instr.lookup T _ _ _) hy hV (.refl G) hI hK
  | mapUpdate T m k x =>
    obtain ⟨S', hv, hK⟩ := some?_elim h
    obtain ⟨w', hr, hI'⟩ := mapUpdate_ok hI hv (hev m (by simp [Op.operands])) (hev k (by simp [Op.operands])) (hev x (by simp [Op.operands]))
    exact OpOk.unit (e := Instr.mapUpdate T _ _ _) hr hI' hK
  | insert T m k x =>
    obtain ⟨S', hv, hK⟩ := some?_elim h
    obtain ⟨w', hr, hI'⟩ := mapUpdate_ok hI hv (hev m (by simp [Op.operands])) (hev k (by simp [Op.operands])) (hev x (by simp [Op.operands]))
    exact OpOk.unit (e := Instr.mapUpdate T _ _ _) hr hI' hK
  | range T x =>
    have hx := hev x (by simp [Op.operands])
    simp only at h
    split at h
    · rename_i m hm
      rw [hm] at hx
      generalize hex : a.eval x = y at hx
      cases hx with
      | @mp _ bm hbm =>
        split at h
        · rename_i kt es clock hmt hS
          have hu : ∃ p q, P.underlying T = some (.map p q) := by
            unfold mapTypes at hmt
            split at hmt
            · rename_i k e hd; exact ⟨k, e, hd⟩
            · cases hmt
          obtain ⟨p, q, hu⟩ := hu
          obtain ⟨es', g1, g2⟩ := hI.mapAt hS hbm
          obtain ⟨r, hr, hln⟩ := hI.some_fresh none
          obtain ⟨G', hG, hb, hI'⟩ := hI.newObj hr (.iter m clock [] clock) (by simp) (.mapIter (some bm) clock #[] clock) (lt_none hln) (fun G' hG' _ _ => ⟨bm, hG'.blk _ _ hbm, by simpa using heap_alloc_new _ _⟩)
          exact OpOk.val (e := Instr.range T (a.eval x)) (y := .pointer (some ⟨w.heap.size, 0, none⟩)) (by rw [hex]; simp [Instr.range, run_underlying hu, getObj_run (P := P) g1 (by simp)]) (.ptr hb) hG hI' (h r hr)
        · exact h.elim
    · exact h.elim
  | next it isString =>
    cases isString with
    | true => exact h.elim
    | false =>
      obtain ⟨v, w', r, S', k1, k2, k3, k4⟩ := next_ok (T := type) hI h (hev it (by simp [Op.operands]))
      exact OpOk.val (e := Instr.next _ false type) k1 k2 (.refl G) k4 k3
  | entry it =>
    obtain ⟨v, hv, hK⟩ := some?_elim h
    obtain ⟨y, hy, hV⟩ := entry_ok hI hv (hev it (by simp [Op.operands]))
    exact OpOk.val (e := Instr.entry _) hy hV (.refl G) hI hK
  | extract t i =>
    have hx := hev t (by simp [Op.operands])
    simp only at h
    split at h
    · rename_i vs hvs
      obtain ⟨v, hv, hK⟩ := some?_elim h
      rw [hvs] at hx
      generalize hex : a.eval t = y at hx
      cases hx with
      | @tup _ ys hl hV =>
        have hi : i < vs.length := (List.getElem?_eq_some_iff.1 hv).1
        have hy : ys[i]? = some ys[i] := Array.getElem?_eq_getElem (by omega)
        exact OpOk.val (e := Instr.extract (a.eval t) i) (y := ys[i]) (by rw [hex]; simp [Instr.extract, hy]) (hV i v _ hv hy) (.refl G) hI hK
    · exact h.elim
  | call c =>
    simp only at h
    split at h
    · rename_i b hb
      exact builtin_sound hI hE ⟨dst, .call c, type, pos, after, guard⟩ c b rfl hb hc h
    · exact h.elim
  | _ => exact h.elim

end Go.HL
