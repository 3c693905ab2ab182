import Derived.Test.YtemjmjacmokidaaDoorDT
set_option linter.all false
namespace Go.HL
open Go Go.Proofs
attribute [local congr] brK_congr moveK_congr boxK_congr condK_congr guardK_congr some?_congr someS_congr storeK_congr allocK_congr callK_congr fnK_congr codeK_congr convK_congr

def modes : List String := ["name.go:20"]
def cfg (gl : Nat → List HV) : Cfg where
  mode p := modes.contains p
  frz _ := false
  gl := gl
  ext _ _ _ _ := False
  xt g args x := g = 65 ∧ args = [x]
variable {gl : Nat → List HV}

def foldB (b : UInt8) : UInt8 := if 65 ≤ b ∧ b ≤ 90 then b + 32 else b
theorem foldB_int (b : UInt8) : ((foldB b).toNat : Int) = if 65 ≤ (b.toNat : Int) ∧ (b.toNat : Int) ≤ 90 then (b.toNat : Int) + 32 else b.toNat := by
  unfold foldB
  have h : (65 ≤ b ∧ b ≤ 90) ↔ (65 ≤ (b.toNat : Int) ∧ (b.toNat : Int) ≤ 90) := by
    simp only [UInt8.le_iff_toNat_le]
    constructor
    · rintro ⟨h1, h2⟩
      simp at h1 h2
      omega
    · rintro ⟨h1, h2⟩
      simp
      omega
  by_cases hb : 65 ≤ b ∧ b ≤ 90
  · rw [if_pos hb, if_pos (h.1 hb)]
    have := h.1 hb
    rw [UInt8.toNat_add]
    simp
    omega
  · rw [if_neg hb, if_neg (fun h' => hb (h.2 h'))]
theorem fold_spec (b : UInt8) (S : HS) (Q : HV → HS → Prop) (h : Q (.int .u8 (foldB b).toNat) S) : Om Tryd.prog (cfg gl) (.call 48 [.int .u8 b.toNat] S Q) := by
  refine call_tmps [2] 13 Tryd.func48 rfl rfl rfl rfl ?_
  simp (config := { contextual := true, decide := true }) only [↓pre, post, reduceIte, guardTmp, packRes, if_true, if_false, ite_true, ite_false, decide_eq_true_eq, decide_true, decide_false, decide_eq_false_iff_not, true_implies, false_implies, forall_const, implies_true, List.map_cons, List.map_nil, Bool.true_eq_false, Bool.false_eq_true, List.getElem?_cons_zero, List.getElem?_cons_succ, Option.getD_some, Option.bind_some, Option.isSome_some, Option.map_some, Option.map_none, some?_some, List.cons_append, List.nil_append, List.append_nil, Int.toNat_natCast, nn0, Nat.zero_add, Nat.mul_one, and_true, true_and, true_or, or_true, List.mem_cons, List.not_mem_nil, forall_eq_or_imp, forall_eq]
  have h255 : (b.toNat : Int) ≤ 255 := by have := b.toNat_lt; omega
  rw [foldB_int] at h
  have e : 65 ≤ (b.toNat : Int) → (b.toNat : Int) ≤ 90 → IntKind.u8.wrap (IntKind.u8.wrap ((b.toNat : Int) + 97) - 65) = b.toNat + 32 := by
    intro h1 h2
    simp only [IntKind.wrap, IntKind.signed, IntKind.bits]
    simp
    omega
  refine ⟨fun h2 => ⟨fun h3 => ?_, fun h3 => ?_⟩, fun h2 => ?_⟩
  · rw [e h2 h3]; simpa [h2, h3] using h
  · simpa [h2, h3] using h
  · simpa [h2] using h

theorem folded_row {s : List UInt8} {k : Nat} (hlt : k < s.length) (f : UInt8 → HV) (R : List HV) :
    (List.map f (List.map foldB (List.take k s) ++ List.drop k s) ++ R).set k (f (foldB s[k])) = List.map f (List.map foldB (List.take (k + 1) s) ++ List.drop (k + 1) s) ++ R := by
  have hA : (List.map foldB (List.take k s)).length = k := by simp; omega
  rw [List.set_append_left _ _ (by simp; omega), ← List.map_set]
  congr 2
  rw [List.drop_eq_getElem_cons hlt, List.take_succ_eq_append_getElem hlt, List.set_append_right _ _ (by omega), hA]
  simp only [List.set_cons_zero, Nat.sub_self, List.map_append, List.map_cons, List.map_nil, List.append_assoc, List.singleton_append]
set_option maxRecDepth 10000 in
theorem folded_spec (s : List UInt8) (hs : s.length < 4611686018427387904) (S : HS) (Q : HV → HS → Prop) (h : ∀ S', Fr S S' → Q (.str (B (s.map foldB))) S') : Om Tryd.prog (cfg gl) (.call 31 [.str (B s)] S Q) := by
  refine call_tmps [2] 23 Tryd.func31 rfl rfl rfl rfl ?_
  simp (config := { contextual := true, decide := true }) only [↓pre, post, reduceIte, guardTmp, packRes, if_true, if_false, ite_true, ite_false, decide_eq_true_eq, decide_true, decide_false, decide_eq_false_iff_not, true_implies, false_implies, forall_const, implies_true, List.map_cons, List.map_nil, Bool.true_eq_false, Bool.false_eq_true, List.getElem?_cons_zero, List.getElem?_cons_succ, Option.getD_some, Option.bind_some, Option.isSome_some, Option.map_some, Option.map_none, some?_some, List.cons_append, List.nil_append, List.append_nil, Int.toNat_natCast, nn0, Nat.zero_add, Nat.mul_one, and_true, true_and, true_or, or_true, List.mem_cons, List.not_mem_nil, forall_eq_or_imp, forall_eq, convK, Tryd.underlying31, Tryd.underlying9, Tryd.underlying5, show (cfg gl).mode "name.go:20" = true from rfl, lenFits, hlen]
  intro l c hl hc
  rw [B_size] at hc
  refine loopK (fun env S' => env 8 = .ms l 0 s.length c ∧ env 3 = .ms l 0 s.length c ∧ env 9 = .int .i64 s.length ∧ ∃ k : Nat, k ≤ s.length ∧ env 10 = .int .i64 k ∧
      S' l = some (.row (((s.take k).map foldB ++ s.drop k).map (fun b => HV.int .u8 b.toNat) ++ List.replicate (c - s.length) (.int .u8 0))) ∧ Fr S S')
    (fun env _ => match env 10 with | .v (.int _ k) => s.length - k.toNat | _ => 0) ?_ ?_
  · simp (config := { contextual := true, decide := true }) only [↓pre, post, reduceIte, guardTmp, packRes, if_true, if_false, ite_true, ite_false, decide_eq_true_eq, decide_true, decide_false, decide_eq_false_iff_not, true_implies, false_implies, forall_const, implies_true, List.map_cons, List.map_nil, Bool.true_eq_false, Bool.false_eq_true, List.getElem?_cons_zero, List.getElem?_cons_succ, Option.getD_some, Option.bind_some, Option.isSome_some, Option.map_some, Option.map_none, some?_some, List.cons_append, List.nil_append, List.append_nil, Int.toNat_natCast, nn0, Nat.zero_add, Nat.mul_one, and_true, true_and, true_or, or_true, List.mem_cons, List.not_mem_nil, forall_eq_or_imp, forall_eq, B_size]
    refine ⟨0, Nat.zero_le _, rfl, ?_, Fr.new _ hl⟩
    simp [B_data]
  · rintro env S' ⟨h8, h3, h9, k, hk, h10, hS, hfr⟩
    by_cases hlt : k < s.length
    · have hg : (List.map (fun b => HV.int .u8 b.toNat) (List.map foldB (List.take k s) ++ List.drop k s) ++ List.replicate (c - s.length) (HV.int .u8 0))[k]? = some (.int .u8 s[k].toNat) := by
        rw [List.getElem?_append_left (by simp; omega), List.getElem?_map, List.getElem?_append_right (by simp; omega)]
        simp [Nat.min_eq_left hk, hlt]
      have hlt' : ((k : Int) < (s.length : Int)) = True := eq_true (by omega)
      simp (config := { contextual := true, decide := true }) only [↓pre, post, reduceIte, guardTmp, packRes, if_true, if_false, ite_true, ite_false, decide_eq_true_eq, decide_true, decide_false, decide_eq_false_iff_not, true_implies, false_implies, forall_const, implies_true, List.map_cons, List.map_nil, Bool.true_eq_false, Bool.false_eq_true, List.getElem?_cons_zero, List.getElem?_cons_succ, Option.getD_some, Option.bind_some, Option.isSome_some, Option.map_some, Option.map_none, some?_some, List.cons_append, List.nil_append, List.append_nil, Int.toNat_natCast, nn0, Nat.zero_add, Nat.mul_one, and_true, true_and, true_or, or_true, List.mem_cons, List.not_mem_nil, forall_eq_or_imp, forall_eq, h8, h3, h9, h10, hindexAddr, hint, Tryd.underlying31, ti5, hload, hcells, hS, hg, hlt']
      refine callK_of (fold_spec _ _ _ ?_)
      have hst := hstore_one (v := .int .u8 (foldB s[k]).toNat) (o := k) ti5 rfl hS rfl rfl (by simp; omega)
      simp (config := { contextual := true, decide := true }) only [↓pre, post, reduceIte, guardTmp, packRes, if_true, if_false, ite_true, ite_false, decide_eq_true_eq, decide_true, decide_false, decide_eq_false_iff_not, true_implies, false_implies, forall_const, implies_true, List.map_cons, List.map_nil, Bool.true_eq_false, Bool.false_eq_true, List.getElem?_cons_zero, List.getElem?_cons_succ, Option.getD_some, Option.bind_some, Option.isSome_some, Option.map_some, Option.map_none, some?_some, List.cons_append, List.nil_append, List.append_nil, Int.toNat_natCast, nn0, Nat.zero_add, Nat.mul_one, and_true, true_and, true_or, or_true, List.mem_cons, List.not_mem_nil, forall_eq_or_imp, forall_eq, h8, h3, h9, h10, hindexAddr, hint, Tryd.underlying31, ti5, hst, hlt']
      rw [i64_succ (by omega)]
      refine ⟨⟨k + 1, hlt, rfl, ?_, hfr.set _ hl⟩, by simp; omega⟩
      exact congrArg (fun r => some (HObj.row r)) (folded_row hlt (fun b => HV.int .u8 b.toNat) _)
    · obtain rfl : k = s.length := by omega
      simp (config := { contextual := true, decide := true }) only [↓pre, post, reduceIte, guardTmp, packRes, if_true, if_false, ite_true, ite_false, decide_eq_true_eq, decide_true, decide_false, decide_eq_false_iff_not, true_implies, false_implies, forall_const, implies_true, List.map_cons, List.map_nil, Bool.true_eq_false, Bool.false_eq_true, List.getElem?_cons_zero, List.getElem?_cons_succ, Option.getD_some, Option.bind_some, Option.isSome_some, Option.map_some, Option.map_none, some?_some, List.cons_append, List.nil_append, List.append_nil, Int.toNat_natCast, nn0, Nat.zero_add, Nat.mul_one, and_true, true_and, true_or, or_true, List.mem_cons, List.not_mem_nil, forall_eq_or_imp, forall_eq, h8, h3, h9, h10, Int.lt_irrefl]
      have hS2 : S' l = some (.row ((s.map foldB).map (fun b => HV.int .u8 b.toNat) ++ List.replicate (c - s.length) (HV.int .u8 0))) := by rw [hS]; simp
      rw [conv_ms_str Tryd.underlying9 Tryd.underlying31 Tryd.underlying5 hS2 (by simp)]
      simp (config := { contextual := true, decide := true }) only [↓pre, post, reduceIte, guardTmp, packRes, if_true, if_false, ite_true, ite_false, decide_eq_true_eq, decide_true, decide_false, decide_eq_false_iff_not, true_implies, false_implies, forall_const, implies_true, List.map_cons, List.map_nil, Bool.true_eq_false, Bool.false_eq_true, List.getElem?_cons_zero, List.getElem?_cons_succ, Option.getD_some, Option.bind_some, Option.isSome_some, Option.map_some, Option.map_none, some?_some, List.cons_append, List.nil_append, List.append_nil, Int.toNat_natCast, nn0, Nat.zero_add, Nat.mul_one, and_true, true_and, true_or, or_true, List.mem_cons, List.not_mem_nil, forall_eq_or_imp, forall_eq]
      exact h S' hfr
end Go.HL
