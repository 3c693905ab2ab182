import Derived.Test.YtemjmjacmokidaaDoorH4
import Derived.Deep.AppendSrc
import Derived.Laws.AppendOwn
set_option linter.all false
/-! HL, part 5: each operation does in the model what HL says (1). -/
namespace Go.HL
open Go Go.RowKit

def Out (G : Ghost) : Next → HV → Prop
  | .value y, x => V G x y
  | .skip, x => x = .undef
  | _, _ => False

def OpOk (P : Program) (C : Cfg) (W0 : World) (G : Ghost) (e : Sem Next) (w : World) (K : HV → HS → Prop) : Prop :=
  ∃ nx w' G' x S', e.run P w = .ok nx w' ∧ Out G' nx x ∧ K x S' ∧ G.le G' ∧ Inv C W0 G' S' w'

def Operand.okc : Operand → Bool
  | .const x => okVal x
  | _ => true

variable {P : Program} {C : Cfg} {W0 : World} {G : Ghost} {S : HS} {w : World}

theorem hev_V {n : Nat} {env : Env} {a : Act} (hI : Inv C W0 G S w) (hE : EnvR G n env a) {x : Operand} (hx : Operand.okc x = true) : V G (hev C env x) (a.eval x) := by
  cases x with
  | tmp t => exact hE.2.2 t
  | const v => exact V.ofVal hx
  | global g => exact hI.gl g
  | func f => exact .fn rfl rfl (fun i x y h => by simp at h) (fun i x y h => by simp at h)

theorem OpOk.value {e : Sem Value} {K : HV → HS → Prop} {x : HV} {y : Value} (hr : e.run P w = .ok y w) (hv : V G x y) (hI : Inv C W0 G S w) (hK : K x S) :
    OpOk P C W0 G (do pure (.value (← e))) w K :=
  ⟨.value y, w, G, x, S, by simp [hr], hv, hK, .refl G, hI⟩

theorem tyI_spec' {T : TypeId} {i : TyI} (h : tyI P T = some i) : ∃ inf d z, P.info? T = some inf ∧ P.underlying T = some d ∧ inf.zero = some z ∧ z.cells.toList.all okLeaf = true ∧
    z.cells.size = inf.size ∧ i.agg = d.isRow ∧ i.size = inf.size ∧ i.bytes = inf.bytes ∧ i.zero = z.cells.toList.map ofLeaf ∧ isAggV z = i.agg := by
  unfold tyI at h
  cases hi : P.info? T with
  | none => simp [hi] at h
  | some inf =>
    cases hd : P.underlying T with
    | none => simp [hi, hd] at h
    | some d =>
      cases hz : inf.zero with
      | none => simp [hi, hd, hz] at h
      | some z =>
        simp only [hi, hd, hz] at h
        split at h
        · rename_i hc
          injection h with h
          subst h
          refine ⟨inf, d, z, rfl, rfl, hz, hc.1, hc.2.1, ?_, rfl, rfl, rfl, hc.2.2.symm⟩
          cases d <;> rfl
        · cases h
theorem tyI_spec {T : TypeId} {i : TyI} (h : tyI P T = some i) : ∃ inf d z, P.info? T = some inf ∧ P.underlying T = some d ∧ inf.zero = some z ∧ z.cells.toList.all okLeaf = true ∧
    z.cells.size = inf.size ∧ i.agg = d.isRow ∧ i.size = inf.size ∧ i.bytes = inf.bytes ∧ i.zero = z.cells.toList.map ofLeaf := by
  obtain ⟨inf, d, z, h1, h2, h3, h4, h5, h6, h7, h8, h9, _⟩ := tyI_spec' h
  exact ⟨inf, d, z, h1, h2, h3, h4, h5, h6, h7, h8, h9⟩

theorem zero_VL {cs : List Value} (h : cs.all okLeaf = true) : VL G (cs.map ofLeaf) cs := by
  refine ⟨by simp, fun j x y hx hy => ?_⟩
  simp [hy] at hx
  subst hx
  have := List.all_eq_true.1 h y (List.mem_of_getElem? hy)
  exact ⟨V.leaf this, okLeaf_one this⟩

theorem add_plain' (b o j : Nat) : (⟨b, o, none⟩ : Addr).add j = ⟨b, o + j, none⟩ := Addr.add_mid b o j

/-! ### memory that is read -/
theorem Inv.rowRange (hI : Inv C W0 G S w) {l : Nat} {cs : List HV} {b : Nat} (hl : S l = some (.row cs)) (hb : G.blk l = some b) :
    ∃ c T fz, w.heap[b]? = some (.cells c T fz) ∧ VL G cs c.toList ∧ w.rangeAt b 0 c.toList ∧ (∀ j, j < cs.length → w.frozen? ⟨b, j, none⟩ = false) ∧ ∀ o, G.imm b o = none := by
  obtain ⟨b', hb', hr⟩ := hI.obj l _ hl rfl
  rw [hb] at hb'; cases hb'
  obtain ⟨⟨c, T, fz, he, hv⟩, hu, hf⟩ := hr
  refine ⟨c, T, fz, he, hv, fun j v hv' => ?_, hu, hf⟩
  simp [World.cell?, he]
  simpa using hv'

theorem rangeAt_drop {b o : Nat} {cs : List Value} (h : w.rangeAt b o cs) (k : Nat) : w.rangeAt b (o + k) (cs.drop k) := fun j v hv => by
  rw [List.getElem?_drop] at hv
  have := h _ _ hv
  rwa [show o + k + j = o + (k + j) by omega]
theorem rangeAt_take {b o : Nat} {cs : List Value} (h : w.rangeAt b o cs) (k : Nat) : w.rangeAt b o (cs.take k) := fun j v hv => by
  rw [List.getElem?_take] at hv
  split at hv
  · exact h _ _ hv
  · cases hv

theorem cells_at (hI : Inv C W0 G S w) {x : HV} {y : Value} (hx : V G x y) {cs : List HV} {o : Nat} (h : hcells S x = some (cs, o)) :
    ∃ b p ys, y = .pointer (some ⟨b, p + o, none⟩) ∧ VL G cs ys ∧ w.rangeAt b p ys := by
  cases hx with
  | @ptr l o' b hb =>
    simp only [hcells] at h
    cases hl : S l with
    | none => simp [hl] at h
    | some x =>
      cases x with
      | row cs' =>
        simp [hl] at h
        obtain ⟨rfl, rfl⟩ := h
        obtain ⟨c, T, fz, _, hv, hr, _⟩ := hI.rowRange hl hb
        exact ⟨b, 0, c.toList, by simp, hv, hr⟩
      | _ => simp [hl] at h
  | @ep cs' o' b p ys hi hv =>
    simp only [hcells, Option.some.injEq, Prod.mk.injEq] at h
    obtain ⟨rfl, rfl⟩ := h
    refine ⟨b, p, (List.range cs'.length).map ys, rfl, ⟨by simp, fun j x y hx hy => ?_⟩, fun j v hv' => ?_⟩
    · have hj : j < cs'.length := (List.getElem?_eq_some_iff.1 hx).1
      simp [hj] at hy
      subst hy
      exact ⟨hv j x hx, (hI.imm _ _ _ (hi j x hx)).2⟩
    · have hj : j < cs'.length := by have := (List.getElem?_eq_some_iff.1 hv').1; simpa using this
      simp [hj] at hv'
      subst hv'
      exact (hI.imm _ _ _ (hi j _ (List.getElem?_eq_getElem hj))).1
  | _ => simp [hcells] at h

theorem isAgg_run {T : TypeId} {d : TypeDesc} (h : P.underlying T = some d) (w : World) : (isAgg T).run P w = .ok d.isRow w := by
  unfold isAgg
  rw [Sem.run_bind, run_underlying h w]
  cases d <;> rfl

theorem load_ok (hI : Inv C W0 G S w) {T : TypeId} {x v : HV} {y : Value} (h : hload P T S x = some v) (hx : V G x y) :
    ∃ y', (Instr.loadAt T y).run P w = .ok y' w ∧ V G v y' := by
  unfold hload at h
  cases hi : tyI P T with
  | none => simp [hi] at h
  | some i =>
    cases hc : hcells S x with
    | none => simp [hi, hc] at h
    | some p =>
      obtain ⟨cs, o⟩ := p
      simp only [hi, hc] at h
      obtain ⟨b, p, ys, rfl, hv, hr⟩ := cells_at hI hx hc
      obtain ⟨inf, d, z, h1, h2, h3, h4, h5, h6, h7, h8, h9⟩ := tyI_spec hi
      by_cases ha : i.agg = true
      · rw [if_pos ha] at h
        split at h
        · rename_i hle
          injection h with h
          subst h
          have hl := hv.1
          refine ⟨.agg ((ys.drop o).take i.size).toArray, ?_, VL.aggV (by simpa using (hv.drop o).take i.size)⟩
          refine run_loadAt_mid w b (p + o) T _ d (rangeAt_take (rangeAt_drop hr o) _) h2 (by rw [← h6]; exact ha) ?_
          simp [h1]
          omega
        · cases h
      · rw [if_neg ha] at h
        obtain ⟨y', hy', hV, _⟩ := hv.get h
        refine ⟨y', ?_, hV⟩
        have hcell := hr o y' hy'
        have hagg := isAgg_run h2 w
        rw [← h6] at hagg
        simp only [Bool.not_eq_true] at ha
        rw [ha] at hagg
        simp [Instr.loadAt, Instr.sureAddr, loadVar, hagg, hcell]

/-! ### memory that is written -/
theorem setCells_at (b : Nat) {T : TypeId} {fz : Nat × Nat} : ∀ (vs : List Value) (o : Nat) (w : World) (c : Array Value), w.heap[b]? = some (.cells c T fz) → o + vs.length ≤ c.size →
    ∃ c', (w.setCells b o vs).heap[b]? = some (.cells c' T fz) ∧ c'.toList = c.toList.take o ++ vs ++ c.toList.drop (o + vs.length) := by
  intro vs
  induction vs with
  | nil =>
    intro o w c h _
    exact ⟨c, by simpa [World.setCells] using h, by simp⟩
  | cons v vs ih =>
    intro o w c h hl
    simp only [List.length_cons] at hl
    have h' : (w.setCell ⟨b, o, none⟩ v).heap[b]? = some (.cells (c.setIfInBounds o v) T fz) := by
      simp [World.setCell, Array.getElem?_modify, h]
    obtain ⟨c', hc', he⟩ := ih (o + 1) _ _ h' (by simp; omega)
    refine ⟨c', by simpa [World.setCells] using hc', ?_⟩
    rw [he]
    have hlt : o < c.toList.length := by simp; omega
    simp only [Array.toList_setIfInBounds]
    rw [List.take_set, List.drop_set_of_lt (by omega), List.take_succ_eq_append_getElem (by simpa using hlt), List.set_append]
    simp
    rw [if_neg (by omega)]
    have : o - min o c.size = 0 := by omega
    simp [this]
    congr 1
    omega

theorem setCells_other (b : Nat) : ∀ (vs : List Value) (o : Nat) (w : World) (b' : Nat), b' ≠ b → (w.setCells b o vs).heap[b']? = w.heap[b']? := by
  intro vs
  induction vs with
  | nil => intro o w b' _; rfl
  | cons v vs ih =>
    intro o w b' hb
    simp only [World.setCells]
    rw [ih _ _ _ hb]
    simp [World.setCell, Array.getElem?_modify, hb.symm]
theorem setCells_size (b : Nat) : ∀ (vs : List Value) (o : Nat) (w : World), (w.setCells b o vs).heap.size = w.heap.size := by
  intro vs
  induction vs with
  | nil => intro o w; rfl
  | cons v vs ih => intro o w; simp [World.setCells, ih]
theorem setCells_rest (b : Nat) : ∀ (vs : List Value) (o : Nat) (w : World), (w.setCells b o vs).os = w.os ∧ (w.setCells b o vs).tape = w.tape ∧ (w.setCells b o vs).output = w.output := by
  intro vs
  induction vs with
  | nil => intro o w; exact ⟨rfl, rfl, rfl⟩
  | cons v vs ih => intro o w; simp only [World.setCells]; exact ih _ _
theorem Below.setCells {B : Nat} (b : Nat) (vs : List Value) (o : Nat) (w : World) (h : B ≤ b) : Below B w (w.setCells b o vs) :=
  ⟨(setCells_rest b vs o w).1, (setCells_rest b vs o w).2.1, (setCells_rest b vs o w).2.2, by rw [setCells_size]; exact Nat.le_refl _, fun k hk => setCells_other b vs o w k (by omega)⟩

theorem there_row {b : Nat} {c : Array Value} {T : TypeId} {fz : Nat × Nat} (he : w.heap[b]? = some (.cells c T fz)) {o n : Nat} (hl : o + n ≤ c.size) (hu : ∀ j, o ≤ j → j < o + n → w.frozen? ⟨b, j, none⟩ = false) : w.there b o n :=
  fun j hj => ⟨by simp [World.cell?, he]; omega, hu _ (by omega) (by omega)⟩

/-- A store into a row. -/
theorem Inv.storeRow (hI : Inv C W0 G S w) {l : Nat} {cs xs : List HV} {b o : Nat} {vs : List Value} (hl : S l = some (.row cs)) (hb : G.blk l = some b) (hx : VL G xs vs) (hle : o + xs.length ≤ cs.length) :
    w.there b o vs.length ∧ Inv C W0 G (S.set l (.row (splice cs o xs))) (w.setCells b o vs) := by
  obtain ⟨c, T, fz, he, hv, hr, hu, hf⟩ := hI.rowRange hl hb
  have hcl : c.size = cs.length := by have := hv.1; simpa using this.symm
  have hxl := hx.1
  have hth : w.there b o vs.length := there_row he (by omega) (fun j h1 h2 => hu j (by omega))
  refine ⟨hth, ?_⟩
  obtain ⟨c', hc', he'⟩ := setCells_at b vs o w c he (by omega)
  have hbd := hI.bnd l b hb
  refine hI.upd l _ b (.refl G) (Below.setCells b vs o w hbd.1) (fun b' hb' _ => setCells_other b vs o w b' hb') (fun _ _ _ => rfl) (fun o y hy => ?_) hb (fun _ _ => rfl) rfl ?_ ?_ (by simp) ?_ ⟨hbd.1, by rw [setCells_size]; exact hbd.2⟩ ?_ (fun T h _ => by rw [h] at hb; cases hb)
  · rw [hf o] at hy; cases hy
  · intro k x hk hS hx hkb
    exact hk (hI.inj k l x _ b hS hl hx rfl hkb hb)
  · intro t f to z _ ht hs
    exact hI.tb t l _ b f to z ht hl rfl hs hb
  · intro _
    refine ⟨⟨c', T, fz, hc', ?_⟩, fun j hj => ?_, hf⟩
    · rw [he']
      exact hv.splice hx o
    · rw [World.frozen?_setCells]
      refine hu j ?_
      simp [splice] at hj
      omega
  · rintro T' ⟨c2, fz2, h2⟩
    rw [he] at h2
    cases h2
    exact ⟨c', fz, hc'⟩

theorem storeVar_run {T : TypeId} {b o : Nat} {v : Value} {inf : TypeInfo} (hi : P.info? T = some inf) (hs : v.cells.size = inf.size) (ht : w.there b o v.cells.size) (h1 : ∀ u ∈ v.cells.toList, u.oneCell' = true) :
    (Instr.storeAt T (.pointer (some ⟨b, o, none⟩)) v).run P w = .ok () (w.setCells b o v.cells.toList) := by
  have := run_storeCells_cells (P := P) b o v.cells.toList 0 w (fun j hj => by simpa using (ht j (by simpa using hj)).1) (fun j hj => by simpa using (ht j (by simpa using hj)).2) h1
  simp only [Nat.add_zero] at this
  simp [Instr.storeAt, Instr.sureAddr, storeVar, sizeOf, typeInfo, hi, hs, this]

theorem store_ok (hI : Inv C W0 G S w) {T : TypeId} {x v : HV} {y u : Value} {S' : HS} (h : hstore P T S x v = some S') (hx : V G x y) (hv : V G v u) :
    ∃ w', (Instr.storeAt T y u).run P w = .ok () w' ∧ Inv C W0 G S' w' := by
  unfold hstore at h
  cases hi : tyI P T with
  | none => simp [hi] at h
  | some i =>
    cases hx with
    | @ptr l o b hb =>
      simp only [hi] at h
      cases hl : S l with
      | none => simp [hl] at h
      | some x =>
        cases x with
        | row cs =>
          simp only [hl] at h
          split at h
          · rename_i hc
            obtain ⟨hco, hlen, hle⟩ := hc
            injection h with h
            subst h
            obtain ⟨inf, d, z, h1, h2, h3, h4, h5, h6, h7, h8, h9⟩ := tyI_spec hi
            have hvl := hv.cellsVL hco
            obtain ⟨hth, hI'⟩ := hI.storeRow hl hb (o := o) hvl (by omega)
            have hsz : u.cells.size = inf.size := by have := hvl.1; simp at this; omega
            refine ⟨_, storeVar_run h1 hsz (by simpa using hth) (fun y hy => hvl.one hy), hI'⟩
          · cases h
        | _ => simp [hl] at h
    | _ => simp [hi] at h

/-! ### a new object -/
theorem Inv.newObj (hI : Inv C W0 G S w) {l : Nat} (hl : S l = none) (x : HObj) (hx : x ≠ .tok) (o : Obj) (hlt : ∀ T, lt l = some T → Typed (w.alloc o) w.heap.size T)
    (hobj : ∀ G' : Ghost, G.le G' → G'.blk l = some w.heap.size → (∀ j, G'.imm w.heap.size j = none) → ObjAt G' (w.alloc o) w.heap.size x) :
    ∃ G', G.le G' ∧ G'.blk l = some w.heap.size ∧ Inv C W0 G' (S.set l x) (w.alloc o) := by
  let G' : Ghost := { G with blk := fun k => if k = l then some w.heap.size else G.blk k }
  have hG : G.le G' := ⟨fun _ _ _ h => h, fun k b h => by
    show (if k = l then some w.heap.size else G.blk k) = some b
    by_cases e : k = l
    · subst e; rw [hI.blkNone k hl] at h; cases h
    · rw [if_neg e]; exact h, fun _ _ h => h⟩
  have hGl : G'.blk l = some w.heap.size := by show (if l = l then _ else _) = _; rw [if_pos rfl]
  have hin : ∀ j, G'.imm w.heap.size j = none := fun j => by
    show G.imm w.heap.size j = none
    cases h : G.imm w.heap.size j with
    | none => rfl
    | some y => exact absurd (hI.ibnd _ _ _ h) (Nat.lt_irrefl _)
  refine ⟨G', hG, hGl, hI.upd l x w.heap.size hG ((Below.refl _ _).alloc hI.below.size o) (fun b' _ hb' => Below.heap_alloc w o b' hb') (fun _ _ _ => rfl) (fun j y hy => ?_) hGl
    (fun k hk => by show (if k = l then _ else _) = _; rw [if_neg hk]) rfl ?_ ?_ hx (fun _ => hobj G' hG hGl hin) ⟨hI.below.size, by simp⟩ (fun T h => h.fresh) (fun T _ h => hlt T h)⟩
  · rw [hin j] at hy; cases hy
  · intro k y _ _ _ hk
    exact absurd (hI.bnd k _ hk).2 (Nat.lt_irrefl _)
  · intro t f to z _ _ hs
    exact absurd (hI.sbnd t _ f to z hs).2 (Nat.lt_irrefl _)

theorem heap_alloc_new (w : World) (o : Obj) : (w.alloc o).heap[w.heap.size]? = some o := by
  show (w.heap.push o)[w.heap.size]? = _
  simp

theorem Inv.newRow (hI : Inv C W0 G S w) {l : Nat} (hl : S l = none) {cs : List HV} {c : Array Value} (T : TypeId) (hv : VL G cs c.toList) (hlt : ∀ T', lt l = some T' → T' = T) :
    ∃ G', G.le G' ∧ G'.blk l = some w.heap.size ∧ Inv C W0 G' (S.set l (.row cs)) (w.alloc (.cells c T)) :=
  hI.newObj hl _ (by simp) _ (fun T' h => by rw [hlt T' h]; exact ⟨c, _, heap_alloc_new _ _⟩) fun G' hG _ hin => ⟨⟨c, T, _, heap_alloc_new _ _, hv.mono hG⟩, fun j _ => by simp, hin⟩

theorem Inv.some_fresh (hI : Inv C W0 G S w) (T : Option TypeId) : ∃ l, S l = none ∧ lt l = T := by
  obtain ⟨N, hN⟩ := hI.fin
  obtain ⟨l, h1, h2⟩ := lt_fresh N T
  exact ⟨l, hN l h1, h2⟩

end Go.HL
