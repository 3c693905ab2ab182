import Derived.Test.YtemjmjacmokidaaDoorH19
import Derived.ChangeFn
set_option linter.all false
/-! HL, part 20: the start of a call: all that is there is immutable; what comes in reads as HL values of a shape. -/
namespace Go.HL
open Go Go.RowKit
variable {P : Program} {C : Cfg}

/-- All cells that are there. -/
def G0 (W : World) : Ghost where
  imm b o := match W.cell? ⟨b, o, none⟩ with
    | some y => if y.oneCell' = true then some y else none
    | none => none
  blk _ := none
  slk _ := none
theorem G0_imm {W : World} {b o : Nat} {y : Value} : (G0 W).imm b o = some y ↔ W.cell? ⟨b, o, none⟩ = some y ∧ y.oneCell' = true := by
  unfold G0
  simp only
  cases h : W.cell? ⟨b, o, none⟩ with
  | none => simp
  | some x =>
    by_cases hx : x.oneCell' = true
    · simp only [hx, if_true, Option.some.injEq]
      constructor
      · rintro rfl; exact ⟨rfl, hx⟩
      · rintro ⟨h, _⟩; exact h
    · simp only [hx, Option.some.injEq]
      constructor
      · intro h; cases h
      · rintro ⟨rfl, h⟩; exact absurd h hx

def emptyS : HS := fun _ => none

theorem cell?_lt {W : World} {b o : Nat} {y : Value} (h : W.cell? ⟨b, o, none⟩ = some y) : b < W.heap.size := by
  rcases Nat.lt_or_ge b W.heap.size with h' | h'
  · exact h'
  · simp [World.cell?, Array.getElem?_eq_none h'] at h

theorem Inv.start {W : World} (hgl : ∀ g, V (G0 W) (.ep (C.gl g) 0) (.pointer (some ⟨g, 0, none⟩))) : Inv C W (G0 W) emptyS W where
  below := Below.refl _ _
  fin := ⟨0, fun _ _ => rfl⟩
  imm b o y h := G0_imm.1 h
  obj l x h := by cases h
  tok t h := by cases h
  blkNone _ _ := rfl
  slkNone _ _ := rfl
  inj l l' x x' b h := by cases h
  tinj t t' b f to z f' to' z' h := by cases h
  tb t l x b f to z h := by cases h
  bnd l b h := by cases h
  sbnd t b f to z h := by cases h
  ibnd b o y h := cell?_lt (G0_imm.1 h).1
  gl := hgl
  btyp l b T h := by cases h
  styp t b f to z T h := by cases h

theorem gl_nil {G : Ghost} {g : Nat} : V G (.ep [] 0) (.pointer (some ⟨g, 0, none⟩)) := by
  have := V.ep (G := G) (cs := []) (o := 0) (b := g) (p := 0) (fun _ => Go.undef) (by simp) (by simp)
  simpa using this

/-! ### shapes -/
def ShapeL (Sh : TypeId → List HV → Prop) : List TypeId → List HV → Prop
  | [], hs => hs = []
  | t :: ts, hs => ∃ h1 h2, hs = h1 ++ h2 ∧ Sh t h1 ∧ ShapeL Sh ts h2
def Shape (P : Program) : Nat → TypeId → List HV → Prop
  | 0, _, _ => False
  | k + 1, t, hs =>
    match P.underlying t with
    | some .bool => ∃ b, hs = [.bool b]
    | some (.int k) => ∃ n, hs = [.int k n] ∧ k.min ≤ n ∧ n ≤ k.max
    | some .string => ∃ s : ByteArray, hs = [.str s] ∧ s.size ≤ maxLen
    | some (.slice e) => ∃ tk z es, hs = [.sl tk z es] ∧ (tk = .full ∨ tk = .none) ∧ (z = P.cellsOf e ∨ es = []) ∧ es.length ≤ maxLen ∧ ∀ x ∈ es, Shape P k e x
    | some (.struct fs) => ShapeL (Shape P k) (fs.toList.map (·.type)) hs
    | _ => False
/-- Types that are read so. -/
def plainTy (P : Program) : Nat → TypeId → Bool
  | 0, _ => false
  | k + 1, t =>
    match P.underlying t with
    | some .bool | some (.int _) | some .string => true
    | some (.slice e) => decide (0 < P.cellsOf e) && plainTy P k e
    | some (.struct fs) => decide (fs.toList.foldl (fun o f => o.bind fun o => if f.offset = o then some (o + P.cellsOf f.type) else none) (some 0) = some (P.cellsOf t)) && fs.toList.all fun f => plainTy P k f.type
    | _ => false

theorem cellAt_spot {W : World} {a : Addr} {y : Value} (h : W.cell? a = some y) : a.spot = none := by
  unfold World.cell? at h
  split at h
  · split at h
    · cases h
    · rename_i hs; simpa using hs
  · cases h

section
variable {H : Type} {enc : TypeId × Value → H} {W : World}

theorem mapM_some_get {α β : Type} {f : α → Option β} : ∀ {l : List α} {r : List β}, l.mapM f = some r → l.length = r.length ∧ ∀ (i : Nat) x y, l[i]? = some x → r[i]? = some y → f x = some y
  | [], r, h => by simp at h; subst h; simp
  | a :: l, r, h => by
    rw [List.mapM_cons] at h
    cases ha : f a with
    | none => simp [ha] at h
    | some b =>
      cases hl : l.mapM f with
      | none => simp [ha, hl] at h
      | some bs =>
        simp [ha, hl] at h
        subst h
        obtain ⟨h1, h2⟩ := mapM_some_get hl
        refine ⟨by simp [h1], fun i x y hx hy => ?_⟩
        cases i with
        | zero => simp at hx hy; subst hx; subst hy; exact ha
        | succ i => exact h2 i x y (by simpa using hx) (by simpa using hy)

theorem cells?_spec {base : Nat} {a : Addr} {n : Nat} {cs : List Value} (h : W.cells? base a n = some cs) : cs.length = n ∧ ∀ (j : Nat) y, cs[j]? = some y → W.cell? (a.add j) = some y := by
  unfold World.cells? at h
  split at h
  · obtain ⟨h1, h2⟩ := mapM_some_get h
    simp at h1
    refine ⟨h1.symm, fun j y hy => ?_⟩
    have hj : j < n := by have := (List.getElem?_eq_some_iff.1 hy).1; omega
    exact h2 j j y (by simp [hj]) hy
  · cases h

theorem foldl_none {fs : List Field} {g : Nat → Field → Option Nat} : fs.foldl (fun o f => o.bind fun o => g o f) none = none := by
  induction fs with
  | nil => rfl
  | cons f fs ih => simpa using ih

theorem trod_fields {Sh : TypeId → List HV → Prop} {cs : List Value} {tot : Nat} (hl : cs.length = tot) : ∀ (fs : List Field) (o : Nat),
    fs.foldl (fun o f => o.bind fun o => if f.offset = o then some (o + P.cellsOf f.type) else none) (some o) = some tot →
    (∀ f ∈ fs, ∃ hs, VL (G0 W) hs ((cs.drop f.offset).take (P.cellsOf f.type)) ∧ Sh f.type hs) → ∃ hs, VL (G0 W) hs (cs.drop o) ∧ ShapeL Sh (fs.map (·.type)) hs
  | [], o, h, _ => by
    simp at h
    subst h
    exact ⟨[], by rw [List.drop_of_length_le (by omega)]; exact .nil, rfl⟩
  | f :: fs, o, h, hf => by
    simp only [List.foldl_cons, Option.bind_some] at h
    split at h
    · rename_i ho
      subst ho
      obtain ⟨h1, v1, s1⟩ := hf f (by simp)
      obtain ⟨h2, v2, s2⟩ := trod_fields hl fs _ h (fun f' hf' => hf f' (by simp [hf']))
      refine ⟨h1 ++ h2, ?_, h1, h2, rfl, s1, s2⟩
      have := v1.append v2
      rwa [← List.drop_drop, List.take_append_drop] at this
    · rw [foldl_none] at h; cases h

theorem trod_shape {base : Nat} {spare : Nat → Bool} {held : Bool} : ∀ (fuel k : Nat) (t : TypeId) (cs : List Value) (x : DataW H × List MemPlace), plainTy P k t = true →
    DataW.trod enc P W base spare held fuel t cs = some x → ∃ hs, VL (G0 W) hs cs ∧ Shape P k t hs
  | 0, _, _, _, _, _, h => by simp [DataW.trod] at h
  | _, 0, _, _, _, h, _ => by simp [plainTy] at h
  | fuel + 1, k + 1, t, cs, x, hp, h => by
    unfold plainTy at hp
    unfold Shape
    cases hu : P.underlying t with
    | none => simp [hu] at hp
    | some td =>
      cases td with
      | bool =>
        obtain ⟨b, rfl, _⟩ := DataW.trod_bool hu h
        exact ⟨[.bool b], VL.cons (.v rfl) rfl .nil, b, rfl⟩
      | int ki =>
        obtain ⟨n, rfl, _, hw⟩ := DataW.trod_int hu h
        simp only [Lit.wf, Bool.and_eq_true, decide_eq_true_eq] at hw
        exact ⟨[.int ki n], VL.cons (.v rfl) rfl .nil, n, rfl, hw.1, hw.2⟩
      | string =>
        obtain ⟨s, rfl, _, hs⟩ := DataW.trod_string hu h
        exact ⟨[.str s], VL.cons (.v rfl) rfl .nil, s, rfl, hs⟩
      | slice e =>
        simp only [hu, Bool.and_eq_true, decide_eq_true_eq] at hp
        obtain ⟨h0, hp⟩ := hp
        rcases DataW.trod_slice hu h with ⟨rfl, _⟩ | ⟨a, len, cap, elems, rest, n, hn, rfl, hx, hb, hlc, hcm, hel, hget, _⟩
        · exact ⟨[.sl .full 0 []], VL.cons .nil rfl .nil, .full, 0, [], rfl, .inl rfl, .inr rfl, by simp, by simp⟩
        · obtain rfl : fuel = n := by omega
          by_cases hl0 : len = 0
          · subst hl0
            exact ⟨[.sl .none (P.cellsOf e) []], VL.cons (.mt h0 (.inl rfl)) rfl .nil, .none, _, [], rfl, .inr rfl, .inl rfl, by simp, by simp⟩
          have key : ∀ i, i < len → ∃ hs, ∃ ci, W.cells? base (a.add (i * P.cellsOf e)) (P.cellsOf e) = some ci ∧ VL (G0 W) hs ci ∧ Shape P k e hs := by
            intro i hi
            have h1 := hget i hi
            have h2 : elems[i]? = some (elems[i]'(by omega)) := List.getElem?_eq_getElem _
            rw [h2] at h1
            cases hc : W.cells? base (a.add (i * P.cellsOf e)) (P.cellsOf e) with
            | none => simp [hc] at h1
            | some ci =>
              simp only [hc, Option.bind_some] at h1
              obtain ⟨hs, hv, hsh⟩ := trod_shape fuel k e ci _ hp h1
              exact ⟨hs, ci, rfl, hv, hsh⟩
          have hspot : a.spot = none := by
            obtain ⟨hs, ci, h1, _, _⟩ := key 0 (by omega)
            obtain ⟨h2, h3⟩ := cells?_spec h1
            have h4 : ci[0]? = some (ci[0]'(by omega)) := List.getElem?_eq_getElem _
            have := cellAt_spot (h3 0 _ h4)
            simpa [Addr.add] using this
          obtain ⟨b, o, sp⟩ := a
          simp only at hspot
          subst hspot
          let f : Nat → List HV := fun i => if hi : i < len then Classical.choose (key i hi) else []
          have hf : ∀ i, (hi : i < len) → ∃ ci, W.cells? base (Addr.add ⟨b, o, none⟩ (i * P.cellsOf e)) (P.cellsOf e) = some ci ∧ VL (G0 W) (f i) ci ∧ Shape P k e (f i) := by
            intro i hi
            have := Classical.choose_spec (key i hi)
            simpa [f, hi] using this
          let g : Nat → List Value := fun i => if hi : i < len then Classical.choose (hf i hi) else []
          have hg : ∀ i, (hi : i < len) → W.cells? base (Addr.add ⟨b, o, none⟩ (i * P.cellsOf e)) (P.cellsOf e) = some (g i) ∧ VL (G0 W) (f i) (g i) ∧ Shape P k e (f i) := by
            intro i hi
            have := Classical.choose_spec (hf i hi)
            simpa [g, hi] using this
          have hes : ∀ (i : Nat) x, ((List.range len).map f)[i]? = some x → i < len ∧ x = f i := by
            intro i x hx
            have hi : i < len := by have := (List.getElem?_eq_some_iff.1 hx).1; simpa using this
            rw [List.getElem?_map, List.getElem?_range hi] at hx
            simp only [Option.map_some, Option.some.injEq] at hx
            exact ⟨hi, hx.symm⟩
          have hlen : ∀ i, (hi : i < len) → (f i).length = P.cellsOf e := fun i hi => by
            rw [(hg i hi).2.1.1, (cells?_spec (hg i hi).1).1]
          have cell : ∀ (i : Nat) (x : List HV) (j : Nat) (y : HV), ((List.range len).map f)[i]? = some x → x[j]? = some y →
              W.cell? ⟨b, o + i * P.cellsOf e + j, none⟩ = some ((g i).getD j Go.undef) ∧ V (G0 W) y ((g i).getD j Go.undef) ∧ ((g i).getD j Go.undef).oneCell' = true := by
            intro i x j y hx hy
            obtain ⟨hi, rfl⟩ := hes i x hx
            obtain ⟨v, hv, hV, h1⟩ := (hg i hi).2.1.get hy
            have e1 : (g i).getD j Go.undef = v := by simp [List.getD, hv]
            rw [e1]
            have := (cells?_spec (hg i hi).1).2 j v hv
            rw [add_plain', add_plain'] at this
            exact ⟨this, hV, h1⟩
          refine ⟨[.sl .none (P.cellsOf e) ((List.range len).map f)], VL.cons ?_ rfl .nil, .none, _, _, rfl, .inr rfl, .inl rfl, by simp; omega, ?_⟩
          · have := V.sl (G := G0 W) (k := .none) (z := P.cellsOf e) (es := (List.range len).map f) (b := b) (o := o) (cap := cap) (fun i j => (g i).getD j Go.undef) h0 ?_ (by simpa using hlc)
              (fun i x j y hx hy => G0_imm.2 ⟨(cell i x j y hx hy).1, (cell i x j y hx hy).2.2⟩) (fun i x j y hx hy => (cell i x j y hx hy).2.1) (by simp) (by simp)
            · simpa using this
            · intro x hx
              obtain ⟨i, hi, rfl⟩ := List.mem_map.1 hx
              exact hlen i (by simpa using hi)
          · intro x hx
            obtain ⟨i, hi, rfl⟩ := List.mem_map.1 hx
            exact (hg i (by simpa using hi)).2.2
      | struct fs =>
        simp only [hu, Bool.and_eq_true, decide_eq_true_eq, List.all_eq_true] at hp
        obtain ⟨hc, hp⟩ := hp
        obtain ⟨xs, n, hn, _, hl, hxl, hget⟩ := DataW.trod_struct hu h
        obtain rfl : fuel = n := by omega
        have := trod_fields (P := P) (W := W) (Sh := Shape P k) hl fs.toList 0 hc (fun f hf => by
          obtain ⟨i, hi, rfl⟩ := List.mem_iff_getElem.1 hf
          have h1 := hget i fs[i] (by simp at hi; simp [hi])
          have h2 : xs[i]? = some (xs[i]'(by simp at hi; omega)) := List.getElem?_eq_getElem _
          rw [h2] at h1
          exact trod_shape fuel k _ _ _ (hp _ hf) (by simpa using h1))
        simpa using this
      | _ => simp [hu] at hp

/-- An argument, as an HL value of a shape. -/
def ShapeV (P : Program) (k : Nat) (t : TypeId) (x : HV) : Prop :=
  match P.underlying t with
  | some (.struct _) => ∃ hs, x = .agg hs ∧ Shape P k t hs
  | _ => Shape P k t [x]
theorem arg_shape {base : Nat} {sp : Nat → Bool} {held : Bool} {k : Nat} {t : TypeId} {v : Value} {d : DataW H} {p : List MemPlace} {b2 : Nat} (hp : plainTy P k t = true) (hok : Value.okWide P W .any b2 t v)
    (h : DataW.Trod enc P W base sp held t v d p) : ∃ x, V (G0 W) x v ∧ ShapeV P k t x := by
  obtain ⟨fuel, h⟩ := h
  obtain ⟨hs, hv, hsh⟩ := trod_shape fuel k t _ _ hp h
  unfold ShapeV
  cases k with
  | zero => simp [plainTy] at hp
  | succ k =>
    unfold plainTy at hp
    have single : (∀ fs, P.underlying t ≠ some (.struct fs)) → ∃ x, V (G0 W) x v ∧ Shape P (k + 1) t [x] := by
      intro hns
      have hone : ∃ x, hs = [x] := by
        unfold Shape at hsh
        split at hsh
        · obtain ⟨b, rfl⟩ := hsh; exact ⟨_, rfl⟩
        · obtain ⟨b, rfl, _⟩ := hsh; exact ⟨_, rfl⟩
        · obtain ⟨b, rfl, _⟩ := hsh; exact ⟨_, rfl⟩
        · obtain ⟨_, _, _, rfl, _⟩ := hsh; exact ⟨_, rfl⟩
        · rename_i fs hu; exact absurd hu (hns fs)
        · exact hsh.elim
      obtain ⟨x, rfl⟩ := hone
      refine ⟨x, ?_, hsh⟩
      have hl := hv.1
      have hagg : ∀ cs, v ≠ .agg cs := by
        rintro cs rfl
        unfold Value.okWide at hok
        split at hok
        · rename_i fs hu; exact hns fs hu
        · rename_i hu; simp [hu] at hp
        · simp [Cell.okWide, Cell.ok] at hok
      have hc : v.cells.toList = [v] := by
        cases v <;> first | rfl | exact absurd rfl (hagg _)
      rw [hc] at hv
      exact hv.uncons.1
    cases hu : P.underlying t with
    | none => simp [hu] at hp
    | some td =>
      cases td with
      | struct fs =>
        unfold Value.okWide at hok
        simp only [hu] at hok
        obtain ⟨cs, rfl, _, _⟩ := hok
        exact ⟨.agg hs, hv.aggV, hs, rfl, hsh⟩
      | _ => exact single (by simp [hu])
end
end Go.HL
