import Derived.Test.YtemjmjacmokidaaDoorH7
import Derived.Lib.ConvBytes
import Derived.Laws.BytesArg
import Derived.Deep.Upon
set_option linter.all false
/-! HL, part 8: each operation does in the model what HL says (4): what is compared with nil, converted, made, appended, copied. -/
namespace Go.HL
open Go Go.RowKit
variable {P : Program} {C : Cfg} {W0 : World} {G : Ghost} {S : HS} {w : World}

/-! ### '==' with nil -/
/-- '==' and '!=' on two values of which neither is a number, a string or a struct: by 'equal'. -/
theorem eq_run {T : TypeId} {a b : Value} {r : Bool} (ha : match a with | .pointer _ | .map _ | .func .. | .iface .. | .nilIface | .nilFunc => True | _ => False)
    (hb : match b with | .pointer _ | .map _ | .func .. | .iface .. | .nilIface | .nilFunc => True | _ => False) (hn : a ≠ .nilIface ∨ b ≠ .nilIface) (h : (Op.equal T a b).run P w = .ok r w) :
    (∀ (o p : Operand) (op : BinOp), op = .eql ∨ op = .neq → (eqGuard op T o p a b).run P w = .ok () w) ∧ (binOp .eql T a b).run P w = .ok (.bool r) w ∧ (binOp .neq T a b).run P w = .ok (.bool !r) w := by
  refine ⟨fun o p op hop => ?_, ?_, ?_⟩
  · unfold eqGuard
    rcases hop with rfl | rfl <;> cases a <;> first | exact ha.elim | (cases b <;> first | exact hb.elim | (simp at hn; done) | rfl)
  · cases a <;> first | exact ha.elim | (cases b <;> first | exact hb.elim | (simp only [binOp, Sem.run_bind, h]; rfl))
  · cases a <;> first | exact ha.elim | (cases b <;> first | exact hb.elim | (simp only [binOp, Sem.run_bind, h]; rfl))

section
variable {T e : TypeId} (d : Nat)
theorem eqIn_ptr_nil (hu : P.underlying T = some (.pointer e)) (a : Addr) : (Op.equalIn (d + 1) T (.pointer (some a)) (.pointer none)).run P w = .ok false w := by simp [Op.equalIn, run_underlying hu]
theorem eqIn_nil_ptr (hu : P.underlying T = some (.pointer e)) (a : Addr) : (Op.equalIn (d + 1) T (.pointer none) (.pointer (some a))).run P w = .ok false w := by simp [Op.equalIn, run_underlying hu]
theorem eqIn_map_nil {k : TypeId} (hu : P.underlying T = some (.map k e)) (a : Nat) : (Op.equalIn (d + 1) T (.map (some a)) (.map none)).run P w = .ok false w := by simp [Op.equalIn, run_underlying hu]
theorem eqIn_nil_map {k : TypeId} (hu : P.underlying T = some (.map k e)) (a : Nat) : (Op.equalIn (d + 1) T (.map none) (.map (some a))).run P w = .ok false w := by simp [Op.equalIn, run_underlying hu]
theorem eqIn_fn_nil {x y : Array TypeId} {v : Bool} (hu : P.underlying T = some (.func x y v)) (f fs cs) : (Op.equalIn (d + 1) T (.func f fs cs) .nilFunc).run P w = .ok false w := by simp [Op.equalIn, run_underlying hu]
theorem eqIn_nil_fn {x y : Array TypeId} {v : Bool} (hu : P.underlying T = some (.func x y v)) (f fs cs) : (Op.equalIn (d + 1) T .nilFunc (.func f fs cs)).run P w = .ok false w := by simp [Op.equalIn, run_underlying hu]
theorem eqIn_iface_nil {ms : Array (String × TypeId)} (hu : P.underlying T = some (.interface ms)) (t x) : (Op.equalIn (d + 1) T (.iface t x) .nilIface).run P w = .ok false w := by simp [Op.equalIn, run_underlying hu]
theorem eqIn_nil_iface {ms : Array (String × TypeId)} (hu : P.underlying T = some (.interface ms)) (t x) : (Op.equalIn (d + 1) T .nilIface (.iface t x)).run P w = .ok false w := by simp [Op.equalIn, run_underlying hu]
theorem eqIn_same {i : TypeInfo} (hu : P.underlying T = some (.pointer e)) (hi : P.info? e = some i) (hs : i.size ≠ 0) (b o o' : Nat) :
    (Op.equalIn (d + 1) T (.pointer (some ⟨b, o, none⟩)) (.pointer (some ⟨b, o', none⟩))).run P w = .ok (o == o') w := by
  have heq : (({ block := b, off := o, spot := none } : Addr) == { block := b, off := o', spot := none }) = (o == o') := by
    by_cases e : o = o'
    · subst e; simp
    · have : ({ block := b, off := o, spot := none } : Addr) ≠ { block := b, off := o', spot := none } := by simp [e]
      simp [beq_eq_false_iff_ne.2 this, e]
  simp [Op.equalIn, run_underlying hu, sizeOf, typeInfo, hi, hs, sameAddr, heq]
end

theorem eqNil_run {T : TypeId} {x y : HV} {a b : Value} {r : Bool} (h : heqNil P T x y = some r) (hx : V G x a) (hy : V G y b) :
    (∀ (o p : Operand) (op : BinOp), op = .eql ∨ op = .neq → (eqGuard op T o p a b).run P w = .ok () w) ∧ (binOp .eql T a b).run P w = .ok (.bool r) w ∧ (binOp .neq T a b).run P w = .ok (.bool !r) w := by
  unfold heqNil at h
  split at h
  · split at h
    · rename_i hu; injection h with h; subst h; cases hx; cases hy
      exact eq_run trivial trivial (.inl (by simp)) (eqIn_ptr_nil 9999 hu _)
    · cases h
  · split at h
    · rename_i hu; injection h with h; subst h; cases hx; cases hy
      exact eq_run trivial trivial (.inl (by simp)) (eqIn_nil_ptr 9999 hu _)
    · cases h
  · split at h
    · rename_i hu; injection h with h; subst h; cases hx; cases hy
      exact eq_run trivial trivial (.inl (by simp)) (eqIn_ptr_nil 9999 hu _)
    · cases h
  · split at h
    · rename_i hu; injection h with h; subst h; cases hx; cases hy
      exact eq_run trivial trivial (.inl (by simp)) (eqIn_nil_ptr 9999 hu _)
    · cases h
  · rename_i l o l' o'
    split at h
    · rename_i e
      subst e
      split at h
      · rename_i e hu
        split at h
        · rename_i i hi
          split at h
          · rename_i hs
            injection h with h
            subst h
            cases hx with
            | @ptr _ _ bb hb =>
              cases hy with
              | @ptr _ _ bb' hb' =>
                rw [hb] at hb'; cases hb'
                exact eq_run trivial trivial (.inl (by simp)) (eqIn_same 9999 hu hi hs _ _ _)
          · cases h
        · cases h
      · cases h
    · cases h
  · split at h
    · rename_i hu; injection h with h; subst h; cases hx; cases hy
      exact eq_run trivial trivial (.inl (by simp)) (eqIn_map_nil 9999 hu _)
    · cases h
  · split at h
    · rename_i hu; injection h with h; subst h; cases hx; cases hy
      exact eq_run trivial trivial (.inl (by simp)) (eqIn_nil_map 9999 hu _)
    · cases h
  · split at h
    · rename_i hu; injection h with h; subst h; cases hx; cases hy
      exact eq_run trivial trivial (.inl (by simp)) (eqIn_fn_nil 9999 hu _ _ _)
    · cases h
  · split at h
    · rename_i hu; injection h with h; subst h; cases hx; cases hy
      exact eq_run trivial trivial (.inl (by simp)) (eqIn_nil_fn 9999 hu _ _ _)
    · cases h
  · split at h
    · rename_i hu; injection h with h; subst h; cases hx; cases hy
      exact eq_run trivial trivial (.inl (by simp)) (eqIn_iface_nil 9999 hu _ _)
    · cases h
  · split at h
    · rename_i hu; injection h with h; subst h; cases hx; cases hy
      exact eq_run trivial trivial (.inr (by simp)) (eqIn_nil_iface 9999 hu _ _)
    · cases h
  · cases h

/-! ### what a slice, or a string, yields -/
theorem rangeAt_append {b o : Nat} {xs ys : List Value} (h : w.rangeAt b o xs) (k : w.rangeAt b (o + xs.length) ys) : w.rangeAt b o (xs ++ ys) := fun j v hv => by
  rw [List.getElem?_append] at hv
  split at hv
  · exact h j v hv
  · rename_i hj
    have := k _ v hv
    rwa [show o + xs.length + (j - xs.length) = o + j by omega] at this
theorem rangeAt_flatten {b z : Nat} : ∀ {fs : List (List Value)} {o : Nat}, (∀ (i : Nat) f, fs[i]? = some f → f.length = z ∧ w.rangeAt b (o + i * z) f) → w.rangeAt b o fs.flatten
  | [], o, _ => fun j v hv => by simp at hv
  | f :: fs, o, h => by
    have h0 := h 0 f rfl
    simp only [List.flatten_cons]
    refine rangeAt_append (by simpa using h0.2) ?_
    rw [h0.1]
    refine rangeAt_flatten (z := z) fun i g hg => ?_
    have := h (i + 1) g (by simpa using hg)
    rw [Nat.add_mul, Nat.one_mul] at this
    rwa [show o + z + i * z = o + (i * z + z) by omega]

/-- The real side of 'hrow'. -/
inductive Yield (w : World) (z : Nat) (n : Nat) (news : List Value) : Value → Prop
  | nil {c} (h : n = 0) : Yield w z n news (.slice none 0 c)
  | mt {a c} (h : n = 0) : Yield w z n news (.slice (some a) 0 c)
  | slice {b o c} (h : w.rangeAt b o news) (hc : n ≤ c) : Yield w z n news (.slice (some ⟨b, o, none⟩) n c)
  | string {s} (hz : z = 1) (hn : n = s.size) (h : news = byteCells s) : Yield w z n news (.string s)

theorem row_yield (hI : Inv C W0 G S w) {z : Nat} {x : HV} {y : Value} {es : List (List HV)} (h : hrow z S x = some es) (hx : V G x y) (hz : ∀ e ∈ es, e.length = z) :
    ∃ news, VL G es.flatten news ∧ news.length = es.length * z ∧ Yield w z es.length news y := by
  have hlen : ∀ news : List Value, VL G es.flatten news → news.length = es.length * z := by
    intro news hv
    rw [← hv.1, List.length_flatten]
    have : es.map List.length = List.replicate es.length z := by
      apply List.ext_getElem (by simp)
      intro i h1 h2
      simp at h1
      simp [hz es[i] (List.getElem_mem h1)]
    rw [this]
    simp
  cases hx with
  | @nil z' =>
    simp [hrow] at h
    subst h
    exact ⟨[], VL.nil, by simp, .nil rfl⟩
  | @mt k z' ao cap h0 hk =>
    simp [hrow] at h
    subst h
    cases ao with
    | none => exact ⟨[], VL.nil, by simp, .nil rfl⟩
    | some a => exact ⟨[], VL.nil, by simp, .mt rfl⟩
  | @sl k z' es' b o cap ys h0 hz' hc hi hv hf ht =>
    simp only [hrow] at h
    split at h
    · rename_i hzz
      injection h with h
      subst h
      by_cases he : es' = []
      · subst he
        exact ⟨[], VL.nil, by simp, .slice (fun j v hv => by simp at hv) (by simp)⟩
      · have hz2 : z' = z := by rcases hzz with h | h; exact h; exact absurd h he
        subst hz2
        let fs : List (List Value) := (List.range es'.length).map fun i => (List.range z').map (ys i)
        have hvl : VL G es'.flatten fs.flatten := by
          refine VL.flat (by simp [fs]) (fun i e f he hf => ?_)
          have hil : i < es'.length := (List.getElem?_eq_some_iff.1 he).1
          simp [fs, hil] at hf
          subst hf
          refine ⟨by simp [hz' e (List.mem_of_getElem? he)], fun j x y hx hy => ?_⟩
          have hj : j < z' := by have := (List.getElem?_eq_some_iff.1 hx).1; rwa [hz' e (List.mem_of_getElem? he)] at this
          simp [hj] at hy
          subst hy
          exact ⟨hv i e j x he hx, (hI.imm _ _ _ (hi i e j x he hx)).2⟩
        refine ⟨fs.flatten, hvl, hlen _ hvl, .slice (rangeAt_flatten (z := z') fun i f hf => ?_) hc⟩
        have hil : i < es'.length := by have := (List.getElem?_eq_some_iff.1 hf).1; simpa [fs] using this
        simp [fs, hil] at hf
        subst hf
        refine ⟨by simp, fun j v hv => ?_⟩
        have hj : j < z' := by have := (List.getElem?_eq_some_iff.1 hv).1; simpa using this
        simp [hj] at hv
        subst hv
        have hel := hz' es'[i] (List.getElem_mem hil)
        exact (hI.imm _ _ _ (hi i es'[i] j _ (List.getElem?_eq_getElem hil) (List.getElem?_eq_getElem (by rw [hel]; exact hj)))).1
    · cases h
  | @ms l o n c b hb hn =>
    simp only [hrow] at h
    cases hl : S l with
    | none => simp [hl] at h
    | some x =>
      cases x with
      | row cs =>
        simp only [hl] at h
        split at h
        · rename_i hle
          injection h with h
          subst h
          obtain ⟨cc, T, fz, he, hv, hr, hu, hf⟩ := hI.rowRange hl hb
          have hvl : VL G (chunks z n (cs.drop o)).flatten ((cc.toList.drop o).take (n * z)) := by
            rw [chunks_flatten]
            exact (hv.drop o).take _
          refine ⟨_, hvl, hlen _ hvl, ?_⟩
          rw [chunks_length]
          have := rangeAt_take (rangeAt_drop hr o) (n * z)
          rw [Nat.zero_add] at this
          exact .slice this hn
        · cases h
      | _ => simp [hl] at h
  | v hp =>
    cases y with
    | string s =>
      simp only [hrow] at h
      split at h
      · rename_i h1
        injection h with h
        subst h
        subst h1
        have hvl : VL G (s.data.toList.map fun b => [HV.int .u8 b.toNat]).flatten (byteCells s) := by
          have e : (s.data.toList.map fun b => [HV.int .u8 b.toNat]).flatten = s.data.toList.map fun b => HV.int .u8 b.toNat := by
            induction s.data.toList with
            | nil => rfl
            | cons b bs ih => simp [ih]
          rw [e]
          have e2 : byteCells s = s.data.toList.map fun b => Value.int .u8 b.toNat := by simp [byteCells]
          rw [e2]
          refine ⟨by simp, fun j x y hx hy => ?_⟩
          simp at hx hy
          obtain ⟨b, hb, rfl⟩ := hx
          obtain ⟨b', hb', rfl⟩ := hy
          rw [hb] at hb'; cases hb'
          exact ⟨.v rfl, rfl⟩
        refine ⟨_, hvl, hlen _ hvl, .string rfl ?_ rfl⟩
        simp
      · cases h
    | _ => simp [hrow] at h
  | _ => simp [hrow] at h

theorem Yield.src {z n : Nat} {news : List Value} {y : Value} (h : Yield w z n news y) (hl : news.length = n * z) (h1 : ∀ u ∈ news, u.oneCell' = true) {T : TypeId} (hk : srcKind P T = true) : Src P z T y n news w := by
  have kind : (∃ e', P.underlying T = some (.slice e')) ∨ P.underlying T = some .string := by
    unfold srcKind at hk
    split at hk
    · rename_i e he; exact .inl ⟨e, he⟩
    · rename_i he; exact .inr he
    · cases hk
  have hd : ∀ {b o} {ns : List Value}, w.rangeAt b o ns → w.drew.rangeAt b o ns := fun h j v hv => h j v hv
  cases h with
  | nil h =>
    subst h
    have : news = [] := List.eq_nil_of_length_eq_zero (by simpa using hl)
    subst this
    exact ⟨kind, fun _ => rfl, run_firstCells_none w z 0 0 _, run_firstCells_none w.drew z 0 0 _, hl, h1⟩
  | @mt a c h =>
    subst h
    have : news = [] := List.eq_nil_of_length_eq_zero (by simpa using hl)
    subst this
    exact ⟨kind, fun _ => rfl, run_firstCells_some w z 0 _ 0 c [] (by simp) (by simp), run_firstCells_some w.drew z 0 _ 0 c [] (by simp) (by simp), hl, h1⟩
  | @slice b o c h hc =>
    have hc' : ∀ (w : World), w.rangeAt b o news → ∀ j v, news[j]? = some v → w.cell? ((⟨b, o, none⟩ : Addr).add j) = some v := fun w h j v hv => by rw [add_plain']; exact h j v hv
    exact ⟨kind, fun _ => rfl, run_firstCells_some w z n _ n c news hl (hc' w h), run_firstCells_some w.drew z n _ n c news hl (hc' w.drew (hd h)), hl, h1⟩
  | string hz hn h =>
    subst hz; subst hn; subst h
    exact ⟨kind, fun _ => rfl, firstCells_string _ w, firstCells_string _ w.drew, hl, h1⟩

end Go.HL
