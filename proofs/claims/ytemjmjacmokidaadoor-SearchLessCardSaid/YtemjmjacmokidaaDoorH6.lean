import Derived.Test.YtemjmjacmokidaaDoorH5
set_option linter.all false
/-! HL, part 6: each operation does in the model what HL says (2). -/
namespace Go.HL
open Go Go.RowKit
variable {P : Program} {C : Cfg} {W0 : World} {G : Ghost} {S : HS} {w : World}

theorem pure_ok (hI : Inv C W0 G S w) {n : Nat} {env : Env} {a : Act} (hE : EnvR G n env a) {o : Oper} (hs : ∀ cs b, o.op ≠ .select cs b) (hc : ∀ x ∈ o.op.operands, Operand.okc x = true)
    {v : HV} (h : hpure P C o env = some v) {K : HV → HS → Prop} (hK : K v S) : OpOk P C W0 G (execOp a.eval o) w K := by
  unfold hpure at h
  split at h
  · rename_i hall
    have he : execOp a.eval o = execOp (fun x => (toVal (hev C env x)).getD Go.undef) o := by
      refine execOp_congr o hs fun x hx => ?_
      have h1 := List.all_eq_true.1 hall x (by simpa using hx)
      obtain ⟨z, hz⟩ := Option.isSome_iff_exists.1 h1
      rw [hz, (hev_V hI hE (hc x hx)).toVal hz]
      rfl
    split at h
    · rename_i x hx
      split at h
      · rename_i hok
        injection h with h
        subst h
        refine ⟨.value x, w, G, _, S, ?_, V.ofVal hok, hK, .refl G, hI⟩
        rw [he]
        exact Sem.val?_run hx w
      · cases h
    · cases h
  · cases h

/-! ### a composite -/
theorem foldl_set (off : Nat) : ∀ (vs : List Value) (k : Nat) (cells : Array Value), off + k + vs.length ≤ cells.size →
    ((vs.zipIdx k).foldl (fun (cs : Array Value) (p : Value × Nat) => cs.setIfInBounds (off + p.2) p.1) cells).toList = cells.toList.take (off + k) ++ vs ++ cells.toList.drop (off + k + vs.length) := by
  intro vs
  induction vs with
  | nil => intro k cells h; simp
  | cons v vs ih =>
    intro k cells h
    simp only [List.length_cons] at h
    simp only [List.zipIdx_cons, List.foldl_cons]
    rw [ih (k + 1) _ (by simp; omega)]
    have hlt : off + k < cells.toList.length := by simp; omega
    simp only [Array.toList_setIfInBounds]
    rw [List.take_set, List.drop_set_of_lt (by omega), ← Nat.add_assoc, List.take_succ_eq_append_getElem (by simpa using hlt), List.set_append]
    simp
    rw [if_neg (by omega)]
    have : off + k - min (off + k) cells.size = 0 := by omega
    simp [this]
    congr 1
    omega

theorem fill_ok {place : Nat → Option (Nat × Nat)} : ∀ {parts : List (Nat × HV)} {parts' : List (Nat × Value)} {cells : List HV} {cells' : Array Value} {r : List HV},
    hfill place cells parts = some r → VL G cells cells'.toList → parts.length = parts'.length →
    (∀ (i : Nat) p p', parts[i]? = some p → parts'[i]? = some p' → p.1 = p'.1 ∧ V G p.2 p'.2) →
    ∃ r', Instr.fill place cells' parts' = some r' ∧ VL G r r'.toList := by
  intro parts
  induction parts with
  | nil =>
    intro parts' cells cells' r h hv hl _
    simp [hfill] at h
    subst h
    have : parts' = [] := List.eq_nil_of_length_eq_zero (by simpa using hl.symm)
    subst this
    exact ⟨cells', rfl, hv⟩
  | cons p parts ih =>
    intro parts' cells cells' r h hv hl hp
    cases parts' with
    | nil => simp at hl
    | cons p' parts' =>
      obtain ⟨i, x⟩ := p
      obtain ⟨i', y⟩ := p'
      have h0 := hp 0 _ _ rfl rfl
      obtain ⟨rfl, hxy⟩ := h0
      simp only at hxy
      simp only [hfill] at h
      cases hpl : place i with
      | none => simp [hpl] at h
      | some q =>
        obtain ⟨off, size⟩ := q
        simp only [hpl] at h
        split at h
        · rename_i hc
          obtain ⟨hco, hsz, hle⟩ := hc
          have hvl := hxy.cellsVL hco
          have e1 : y.cells.size = size := by have := hvl.1; simp at this; omega
          have e2 : cells.length = cells'.size := by have := hv.1; simpa using this
          have hf := foldl_set off y.cells.toList 0 cells' (by simp; omega)
          have hfold : (y.cells.zipIdx.foldl (fun cs (c, j) => cs.setIfInBounds (off + j) c) cells').toList = cells'.toList.take off ++ y.cells.toList ++ cells'.toList.drop (off + y.cells.toList.length) := by
            simp only [Nat.add_zero] at hf
            rw [← hf]
            congr 1
            rw [← Array.foldl_toList]
            simp
          obtain ⟨r', hr', hvr⟩ := ih (parts' := parts') (cells' := y.cells.zipIdx.foldl (fun cs (c, j) => cs.setIfInBounds (off + j) c) cells') h
            (by rw [hfold]; exact hv.splice hvl off) (by simpa using hl) (fun k p p' h1 h2 => hp (k + 1) p p' (by simpa using h1) (by simpa using h2))
          refine ⟨r', ?_, hvr⟩
          simp only [Instr.fill, hpl]
          rw [if_neg (by simp; omega)]
          exact hr'
        · cases h

theorem places_run {T : TypeId} {ps : List (Nat × Nat)} {fs : Array Field} (hu : P.underlying T = some (.struct fs)) (h : structPlaces P T = some ps) (w : World) :
    (fs.mapM fun f => do pure (f.offset, ← sizeOf f.type) : Sem (Array (Nat × Nat))).run P w = .ok ps.toArray w := by
  unfold structPlaces at h
  simp only [hu] at h
  rw [Array.mapM_eq_mapM_toList]
  simp only [Sem.run_map]
  have key : ∀ (l : List Field) (ps : List (Nat × Nat)), l.mapM (fun f => (P.info? f.type).map fun i => (f.offset, i.size)) = some ps →
      (l.mapM fun f => do pure (f.offset, ← sizeOf f.type) : Sem (List (Nat × Nat))).run P w = .ok ps w := by
    intro l
    induction l with
    | nil => intro ps h; simp at h; subst h; simp
    | cons f l ih =>
      intro ps h
      rw [List.mapM_cons] at h
      cases hi : P.info? f.type with
      | none => simp [hi] at h
      | some inf =>
        cases hr : l.mapM (fun f => (P.info? f.type).map fun i => (f.offset, i.size)) with
        | none => simp [hi, hr] at h
        | some r =>
          simp [hi, hr] at h
          subst h
          simp [List.mapM_cons, sizeOf, typeInfo, hi]
          have := ih r hr
          simp [sizeOf, typeInfo] at this
          rw [this]
          simp
  rw [key fs.toList ps h]
  rfl

theorem build_ok (hI : Inv C W0 G S w) {T : TypeId} {parts : List (Nat × HV)} {parts' : Array (Nat × Value)} {v : HV} (h : hbuild P T parts = some v) (hl : parts.length = parts'.size)
    (hp : ∀ (i : Nat) p p', parts[i]? = some p → parts'[i]? = some p' → p.1 = p'.1 ∧ V G p.2 p'.2) : ∃ y, (Instr.build T parts').run P w = .ok y w ∧ V G v y := by
  unfold hbuild at h
  cases hi : tyI P T with
  | none => simp [hi] at h
  | some i =>
    simp only [hi] at h
    obtain ⟨inf, d, z, h1, h2, h3, h4, h5, h6, h7, h8, h9⟩ := tyI_spec hi
    have hz : VL G i.zero z.cells.toList := by rw [h9]; exact zero_VL h4
    rw [h2] at h
    cases d with
    | struct fs =>
      simp only at h
      cases hps : structPlaces P T with
      | none => simp [hps] at h
      | some ps =>
        simp only [hps, Option.map_eq_some_iff] at h
        obtain ⟨r, hr, rfl⟩ := h
        obtain ⟨r', hr', hv⟩ := fill_ok (parts' := parts'.toList) hr hz (by simpa using hl) (fun i p p' h1 h2 => hp i p p' h1 (by simpa using h2))
        refine ⟨.agg r', ?_, VL.aggV hv⟩
        have hplaces := places_run h2 hps w
        have hr2 : Instr.fill (fun x => ps.toArray[x]?) z.cells parts'.toList = some r' := by
          rw [← hr']; congr 1; funext x; simp
        simp [Instr.build, zeroValue, typeInfo, h1, h3, run_underlying h2] at hplaces ⊢
        rw [hplaces]
        simp at hr2
        simp [hr2]
    | array len e =>
      simp only at h
      cases hj : tyI P e with
      | none => simp [hj] at h
      | some j =>
        simp only [hj, Option.map_eq_some_iff] at h
        obtain ⟨r, hr, rfl⟩ := h
        obtain ⟨r', hr', hv⟩ := fill_ok (parts' := parts'.toList) hr hz (by simpa using hl) (fun i p p' h1 h2 => hp i p p' h1 (by simpa using h2))
        refine ⟨.agg r', ?_, VL.aggV hv⟩
        obtain ⟨inf', d', z', k1, k2, k3, k4, k5, k6, k7, k8, k9⟩ := tyI_spec hj
        rw [k7] at hr'
        simp [Instr.build, zeroValue, typeInfo, sizeOf, h1, h3, run_underlying h2, k1, hr']
    | _ => simp at h

/-! ### zeros -/
theorem zeros_get (z : List Value) : ∀ (n i : Nat), i < n * z.length → ((List.replicate n z).flatten)[i]? = z[i % z.length]? := by
  intro n
  induction n with
  | zero => intro i h; omega
  | succ n ih =>
    intro i h
    have hz : 0 < z.length := by
      rcases Nat.eq_zero_or_pos z.length with e | e
      · rw [e] at h; omega
      · exact e
    simp only [List.replicate_succ, List.flatten_cons]
    rw [List.getElem?_append]
    split
    · rename_i hi; rw [Nat.mod_eq_of_lt hi]
    · rename_i hi
      rw [ih (i - z.length) (by rw [Nat.add_mul] at h; omega)]
      rw [Nat.mod_eq_sub_mod (show z.length ≤ i by omega)]
theorem zeros_length (z : List Value) (n : Nat) : ((List.replicate n z).flatten).length = n * z.length := by simp
theorem rangeZero (z : Array Value) (n s : Nat) (hs : z.size = s) : ((Array.range (n * s)).map (fun i => z[i % z.size]!)).toList = (List.replicate n z.toList).flatten := by
  apply List.ext_getElem?
  intro i
  by_cases h : i < n * s
  · have h' := zeros_get z.toList n i (by simpa [hs] using h)
    rw [h']
    have hz : 0 < s := by
      rcases Nat.eq_zero_or_pos s with e | e
      · rw [e] at h; omega
      · exact e
    have hm : i % s < z.size := by rw [hs]; exact Nat.mod_lt _ hz
    simp only [Array.toList_map, Array.toList_range, List.getElem?_map, List.getElem?_range h, Option.map_some, Array.length_toList, hs, Array.getElem?_toList]
    rw [getElem!_pos z _ hm, Array.getElem?_eq_getElem hm]
  · rw [List.getElem?_eq_none (by simpa using Nat.le_of_not_lt h), List.getElem?_eq_none (by simp [hs]; omega)]
theorem zeros_VL {zs : List HV} {z : Array Value} (h : VL G zs z.toList) (n : Nat) : VL G (zeros n zs) (List.replicate n z.toList).flatten := by
  unfold zeros
  refine VL.flat (by simp) (fun i e f he hf => ?_)
  rw [List.getElem?_replicate] at he hf
  split at he
  · rename_i hi; rw [if_pos hi] at hf; cases he; cases hf; exact h
  · cases he

theorem buildSlice_cells {T : TypeId} {len : Nat} {parts : List (Nat × HV)} {parts' : Array (Nat × Value)} {j : TyI} {cs : List HV} (h : hbuildSlice P T len parts = some (j, cs)) (hl : parts.length = parts'.size)
    (hp : ∀ (i : Nat) p p', parts[i]? = some p → parts'[i]? = some p' → p.1 = p'.1 ∧ V G p.2 p'.2) :
    ∃ e c, P.underlying T = some (.slice e) ∧ tyI P e = some j ∧ 0 < j.size ∧ cs.length = len * j.size ∧ VL G cs c.toList ∧
      ∀ w, (Instr.buildSlice T len parts').run P w = .ok (.slice (some ⟨w.heap.size, 0, none⟩) len len) (w.alloc (.cells c e)) := by
  unfold hbuildSlice at h
  cases hu : P.underlying T with
  | none => simp [hu] at h
  | some d =>
    cases d with
    | slice e =>
      simp only [hu] at h
      cases hj : tyI P e with
      | none => simp [hj] at h
      | some j' =>
        simp only [hj] at h
        split at h
        · rename_i hc
          obtain ⟨h24, hpos⟩ := hc
          simp only [Option.map_eq_some_iff, Prod.mk.injEq] at h
          obtain ⟨r, hr, rfl, rfl⟩ := h
          obtain ⟨inf, d, z, h1, h2, h3, h4, h5, h6, h7, h8, h9⟩ := tyI_spec hj
          have hz : VL G j'.zero z.cells.toList := by rw [h9]; exact zero_VL h4
          have hz0 : VL G (zeros len j'.zero) ((Array.range (len * inf.size)).map (fun i => z.cells[i % z.cells.size]!)).toList := by
            rw [rangeZero z.cells len inf.size h5]; exact zeros_VL hz len
          obtain ⟨r', hr', hv⟩ := fill_ok (parts' := parts'.toList) hr hz0 (by simpa using hl) (fun i p p' h1 h2 => hp i p p' h1 (by simpa using h2))
          have hlen : r.length = len * j'.size := by
            have key : ∀ (place : Nat → Option (Nat × Nat)) (parts : List (Nat × HV)) (cells r : List HV), hfill place cells parts = some r → r.length = cells.length := by
              intro place parts
              induction parts with
              | nil => intro cells r h; simp [hfill] at h; rw [h]
              | cons p parts ih =>
                intro cells r h
                obtain ⟨i, x⟩ := p
                simp only [hfill] at h
                split at h
                · cases h
                · split at h
                  · rename_i hc
                    rw [ih _ _ h]
                    simp [splice]
                    omega
                  · cases h
            rw [key _ _ _ _ hr]
            simp [zeros, h9, h5, h7]
          refine ⟨e, r', rfl, hj, hpos, hlen, hv, fun w => ?_⟩
          rw [h7] at hr' h24 hpos
          by_cases h0 : len * inf.size = 0
          · have hl0 : len = 0 := by
              rcases Nat.mul_eq_zero.1 h0 with h | h
              · exact h
              · omega
            subst hl0
            have hr'' : Instr.fill (fun k => some (k * inf.size, inf.size)) #[] parts'.toList = some r' := by
              rw [← hr']; congr 1; simp
            simp [Instr.buildSlice, run_underlying hu, sizeOf, typeInfo, h1, show Array.range 0 = #[] from rfl, hr'', newRow]
          · have hn : ¬ (16777216 < len * inf.size) := by omega
            simp [Instr.buildSlice, run_underlying hu, sizeOf, typeInfo, zeroValue, h1, h3, hn, hr', newRow]
            exact fun h => absurd h h0
        · cases h
    | _ => simp [hu] at h

theorem chunks_length (z : Nat) : ∀ (n : Nat) (cs : List HV), (chunks z n cs).length = n
  | 0, _ => rfl
  | n + 1, cs => by simp [chunks, chunks_length z n]
theorem chunks_get (z : Nat) : ∀ (n : Nat) (cs : List HV) (i : Nat), i < n → (chunks z n cs)[i]? = some ((cs.drop (i * z)).take z)
  | 0, _, _, h => by omega
  | n + 1, cs, 0, _ => by simp [chunks]
  | n + 1, cs, i + 1, h => by
    simp only [chunks, List.getElem?_cons_succ]
    rw [chunks_get z n (cs.drop z) i (by omega)]
    simp [List.drop_drop, Nat.add_mul, Nat.add_comm]
theorem chunks_mem (z n : Nat) (cs : List HV) (h : n * z ≤ cs.length) : ∀ e ∈ chunks z n cs, e.length = z := by
  intro e he
  obtain ⟨i, hi, rfl⟩ := List.mem_iff_getElem.1 he
  have hin : i < n := by rw [chunks_length] at hi; exact hi
  have := chunks_get z n cs i hin
  rw [List.getElem?_eq_getElem hi] at this
  injection this with this
  rw [this]
  simp
  have : (i + 1) * z ≤ n * z := Nat.mul_le_mul_right z hin
  rw [Nat.add_mul] at this
  omega
theorem chunks_flatten (z : Nat) : ∀ (n : Nat) (cs : List HV), (chunks z n cs).flatten = cs.take (n * z)
  | 0, _ => by simp [chunks]
  | n + 1, cs => by
    simp only [chunks, List.flatten_cons, chunks_flatten z n]
    rw [show (n + 1) * z = z + n * z by rw [Nat.add_mul]; omega]
    rw [List.take_add]

/-- A row that becomes immutable: where its cells lie. -/
theorem V.ofChunks {G : Ghost} {cs : List HV} {ys : List Value} {b o z n cap : Nat} {k : Tok} (h0 : 0 < z) (hv : VL G cs ys) (hle : n * z ≤ cs.length) (hi : ∀ (j : Nat) y, ys[j]? = some y → j < n * z → G.imm b (o + j) = some y) (hc : n ≤ cap)
    (hf : k = .full → cap = n) (ht : ∀ t, k = .live t → G.slk t = some (b, o + n * z, o + cap * z, z)) : V G (.sl k z (chunks z n cs)) (.slice (some ⟨b, o, none⟩) n cap) := by
  have hlen := chunks_length z n cs
  have key : ∀ (i : Nat) (e : List HV) (j : Nat) (x : HV), (chunks z n cs)[i]? = some e → e[j]? = some x → i * z + j < n * z ∧ cs[i * z + j]? = some x := by
    intro i e j x he hx
    have hin : i < n := by have := (List.getElem?_eq_some_iff.1 he).1; rw [hlen] at this; exact this
    rw [chunks_get z n cs i hin] at he
    injection he with he
    subst he
    rw [List.getElem?_take] at hx
    split at hx
    · rename_i hj
      rw [List.getElem?_drop] at hx
      have : (i + 1) * z ≤ n * z := Nat.mul_le_mul_right z hin
      rw [Nat.add_mul] at this
      exact ⟨by omega, hx⟩
    · cases hx
  have := V.sl (G := G) (k := k) (z := z) (es := chunks z n cs) (b := b) (o := o) (cap := cap) (fun i j => ys.getD (i * z + j) Go.undef) h0 (chunks_mem z n cs hle) (by rw [hlen]; exact hc) ?_ ?_ (by rw [hlen]; exact hf) (by rw [hlen]; exact ht)
  · rw [hlen] at this; exact this
  · intro i e j x he hx
    obtain ⟨h1, h2⟩ := key i e j x he hx
    obtain ⟨y, hy, _⟩ := hv.get h2
    rw [Nat.add_assoc]
    rw [hi _ y hy h1]
    simp [List.getD, hy]
  · intro i e j x he hx
    obtain ⟨h1, h2⟩ := key i e j x he hx
    obtain ⟨y, hy, hV, _⟩ := hv.get h2
    simp [List.getD, hy, hV]

/-- A new block whose cells are immutable from the first on. -/
def Ghost.immRow (G : Ghost) (b n : Nat) (c : List Value) : Ghost := { G with imm := fun b' o => if b' = b then (if o < n then c[o]? else G.imm b' o) else G.imm b' o }
theorem Inv.newImm (hI : Inv C W0 G S w) (c : Array Value) (T : TypeId) (n : Nat) (h1 : ∀ y ∈ c.toList, y.oneCell' = true) :
    G.le (G.immRow w.heap.size n c.toList) ∧ Inv C W0 (G.immRow w.heap.size n c.toList) S (w.alloc (.cells c T)) := by
  have hin : ∀ j, G.imm w.heap.size j = none := fun j => by
    cases h : G.imm w.heap.size j with
    | none => rfl
    | some y => exact absurd (hI.ibnd _ _ _ h) (Nat.lt_irrefl _)
  have hG : G.le (G.immRow w.heap.size n c.toList) := ⟨fun b o y h => by
    show (if b = w.heap.size then _ else G.imm b o) = some y
    by_cases e : b = w.heap.size
    · subst e; rw [hin] at h; cases h
    · rw [if_neg e]; exact h, fun _ _ h => h, fun _ _ h => h⟩
  have hsame : ∀ b', b' ≠ w.heap.size → (w.alloc (.cells c T)).heap[b']? = w.heap[b']? := fun b' hb => by
    show (w.heap.push _)[b']? = _
    rw [Array.getElem?_push, if_neg hb]
  have himm : ∀ b o, b ≠ w.heap.size → (G.immRow w.heap.size n c.toList).imm b o = G.imm b o := fun b o hb => by
    show (if b = w.heap.size then _ else _) = _; rw [if_neg hb]
  refine ⟨hG, hI.below.trans ((Below.refl _ _).alloc hI.below.size _), hI.fin, ?_, ?_, ?_, hI.blkNone, hI.slkNone, hI.inj, hI.tinj, hI.tb, fun l b h => ⟨(hI.bnd l b h).1, by have := (hI.bnd l b h).2; simp; omega⟩,
    fun t b f to z h => ⟨(hI.sbnd t b f to z h).1, by have := (hI.sbnd t b f to z h).2; simp; omega⟩, ?_, fun g => (hI.gl g).mono hG,
    fun l b T hb hT => (hI.btyp l b T hb hT).keep (hsame b (by have := (hI.bnd l b hb).2; omega)), fun t b f to z T h1 h2 h3 => (hI.styp t b f to z T h1 h2 h3).keep (hsame b (by have := (hI.sbnd t b f to z h2).2; omega))⟩
  · intro b o y hy
    by_cases e : b = w.heap.size
    · subst e
      have hy' : (if o < n then c.toList[o]? else G.imm w.heap.size o) = some y := by
        have : (if w.heap.size = w.heap.size then (if o < n then c.toList[o]? else G.imm w.heap.size o) else G.imm w.heap.size o) = some y := hy
        rwa [if_pos rfl] at this
      split at hy'
      · refine ⟨?_, h1 y (List.mem_of_getElem? hy')⟩
        rw [World.cell?_alloc_new]
        simpa using hy'
      · rw [hin] at hy'; cases hy'
    · rw [himm b o e] at hy
      rw [cell?_same (hsame b e)]
      exact hI.imm b o y hy
  · intro l x hl hx
    obtain ⟨b, hb, ho⟩ := hI.obj l x hl hx
    have : b ≠ w.heap.size := by have := (hI.bnd l b hb).2; omega
    exact ⟨b, hb, ho.keep hG (hsame b this) (fun o => himm b o this)⟩
  · intro t ht
    obtain ⟨b, f, to, z, h2, h3⟩ := hI.tok t ht
    have : b ≠ w.heap.size := by have := (hI.sbnd t b f to z h2).2; omega
    exact ⟨b, f, to, z, h2, h3.keep (hsame b this) (fun o => himm b o this)⟩
  · intro b o y hy
    by_cases e : b = w.heap.size
    · subst e; simp
    · rw [himm b o e] at hy
      have := hI.ibnd b o y hy
      simp; omega

end Go.HL
