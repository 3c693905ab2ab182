import Derived.Test.YtemjmjacmokidaaDoorD17
set_option linter.all false
namespace Go.HL
open Go Go.Proofs
attribute [local congr] brK_congr moveK_congr boxK_congr condK_congr guardK_congr some?_congr someS_congr storeK_congr allocK_congr callK_congr fnK_congr codeK_congr convK_congr
attribute [local congr] rangeK_congr hnext_congr
set_option maxRecDepth 10000
set_option maxHeartbeats 2000000
variable {gl : Nat → List HV}
theorem bL_irrefl : ∀ a : List UInt8, Op.bytesLess a a = false
  | [] => rfl
  | x :: r => by simp [Op.bytesLess, bL_irrefl r]
theorem bL_trans : ∀ {a b c : List UInt8}, Op.bytesLess a b = true → Op.bytesLess b c = true → Op.bytesLess a c = true
  | _, [], _, h, _ => by simp [Op.bytesLess] at h
  | _, _ :: _, [], _, h => by simp [Op.bytesLess] at h
  | [], _ :: _, _ :: _, _, _ => by simp [Op.bytesLess]
  | x :: p, y :: q, z :: r, h, h' => by
    simp only [Op.bytesLess, Bool.or_eq_true, decide_eq_true_eq, Bool.and_eq_true, beq_iff_eq] at h h' ⊢
    rcases h with h | ⟨rfl, h⟩
    · rcases h' with h' | ⟨rfl, h'⟩
      · exact .inl (UInt8.lt_trans h h')
      · exact .inl h
    · rcases h' with h' | ⟨rfl, h'⟩
      · exact .inl h'
      · exact .inr ⟨rfl, bL_trans h h'⟩
theorem bL_asymm {a b : List UInt8} (h : Op.bytesLess a b = true) : Op.bytesLess b a = false := by
  cases h' : Op.bytesLess b a with
  | false => rfl
  | true => have := bL_trans h h'; rw [bL_irrefl] at this; cases this
theorem bL_total : ∀ {a b : List UInt8}, a ≠ b → Op.bytesLess a b = false → Op.bytesLess b a = true
  | [], [], h, _ => absurd rfl h
  | [], _ :: _, _, h => by simp [Op.bytesLess] at h
  | _ :: _, [], _, _ => by simp [Op.bytesLess]
  | x :: p, y :: q, h, h' => by
    simp only [Op.bytesLess, Bool.or_eq_true, decide_eq_true_eq, Bool.and_eq_true, beq_iff_eq, Bool.or_eq_false_iff, decide_eq_false_iff_not, Bool.and_eq_false_imp] at h h' ⊢
    rcases UInt8.lt_or_eq_of_le (UInt8.not_lt.1 h'.1) with e | e
    · exact .inl e
    · refine .inr ⟨e, bL_total (fun e2 => h (by rw [e, e2])) (h'.2 e.symm)⟩
theorem lessF_irrefl (a : Trig) : lessF a a = false := by simp [lessF, bL_irrefl]
theorem lessF_asymm {a b : Trig} (h : lessF a b = true) : lessF b a = false := by
  unfold lessF at h ⊢
  by_cases c : a.name = b.name
  · rw [if_neg (by simpa using c)] at h
    rw [if_neg (by simpa using c.symm)]
    exact bL_asymm h
  · rw [if_pos c] at h
    rw [if_pos (fun e => c e.symm)]
    exact bL_asymm h
theorem lessF_trans {a b c : Trig} (h : lessF a b = true) (h' : lessF b c = true) : lessF a c = true := by
  unfold lessF at *
  by_cases e : a.name = b.name
  · rw [if_neg (by simpa using e)] at h
    by_cases e' : b.name = c.name
    · rw [if_neg (by simpa using e')] at h'
      rw [if_neg (by simpa using e.trans e')]
      exact bL_trans h h'
    · rw [if_pos e'] at h'
      rw [if_pos (by rw [e]; exact e'), e]
      exact h'
  · rw [if_pos e] at h
    by_cases e' : b.name = c.name
    · rw [if_neg (by simpa using e')] at h'
      rw [if_pos (by rw [← e']; exact e), ← e']
      exact h
    · rw [if_pos e'] at h'
      have := bL_trans h h'
      have ne : a.name ≠ c.name := by intro q; rw [q, bL_irrefl] at this; cases this
      rw [if_pos ne]; exact this
theorem lessF_total (a b : Trig) : (lessF a b || lessF b a) = (decide (a.name ≠ b.name) || decide (a.addr ≠ b.addr)) := by
  unfold lessF
  by_cases e : a.name = b.name
  · rw [if_neg (by simpa using e), if_neg (by simpa using e.symm)]
    by_cases e2 : a.addr = b.addr
    · simp [e, e2, bL_irrefl]
    · cases h : Op.bytesLess a.addr b.addr with
      | true => simp [e, e2]
      | false => simp [e, e2, bL_total e2 h]
  · rw [if_pos e, if_pos (fun q => e q.symm)]
    cases h : Op.bytesLess a.name b.name with
    | true => simp [e]
    | false => simp [e, bL_total e h]
theorem eqTT : binH Tryd.prog .eql 4 (.tmp 45) (.tmp 59) (.bool true) (.bool true) = some (.bool true) := by kernel_rfl
theorem eqFF : binH Tryd.prog .eql 4 (.tmp 45) (.tmp 59) (.bool false) (.bool false) = some (.bool true) := by kernel_rfl
theorem searchLess_spec {a b c : Trig} {S : HS} {Q : HV → HS → Prop} (h : ∀ S', Fr S S' → Q (.bool true) S') : Om Tryd.prog (cfg gl) (.call 3 [.agg a.hv, .agg b.hv, .agg c.hv] S Q) := by
  refine call_tmps [6] 61 Tryd.func3 rfl rfl rfl rfl ?_
  simp (config := { contextual := true, decide := true }) only [↓pre, post, reduceIte, guardTmp, packRes, if_true, if_false, ite_true, ite_false, decide_eq_true_eq, decide_true, decide_false, decide_eq_false_iff_not, true_implies, false_implies, forall_const, implies_true, List.map_cons, List.map_nil, Bool.true_eq_false, Bool.false_eq_true, List.getElem?_cons_zero, List.getElem?_cons_succ, Option.getD_some, Option.bind_some, Option.isSome_some, Option.map_some, Option.map_none, some?_some, List.cons_append, List.nil_append, List.append_nil, Int.toNat_natCast, nn0, Nat.zero_add, Nat.mul_one, and_true, true_and, true_or, or_true, List.mem_cons, List.not_mem_nil, forall_eq_or_imp, forall_eq, HV.cellOk, HV.cells]
  intro l1 h1 l2 h2 l3 h3
  generalize hS1 : S.set l1 _ = S1 at *
  have g1 : S1 l1 = some (.row a.hv) := by rw [← hS1]; exact HS.set_same _ _ _
  have f1 : Fr S S1 := by rw [← hS1]; exact Fr.new _ h1
  generalize hS2 : S1.set l2 _ = S2 at *
  have g2 : S2 l2 = some (.row b.hv) := by rw [← hS2]; exact HS.set_same _ _ _
  have f2 : Fr S1 S2 := by rw [← hS2]; exact Fr.new _ h2
  generalize hS3 : S2.set l3 _ = S3 at *
  have g3 : S3 l3 = some (.row c.hv) := by rw [← hS3]; exact HS.set_same _ _ _
  have f3 : Fr S2 S3 := by rw [← hS3]; exact Fr.new _ h3
  refine callK_of (awake19_spec fun S4 f4 => ?_)
  have ga := f4 _ _ (f3 _ _ (f2 _ _ g1))
  have gb := f4 _ _ (f3 _ _ g2)
  have gc := f4 _ _ g3
  have F4 : Fr S S4 := ((f1.trans f2).trans f3).trans f4
  have la := hload_agg (P := Tryd.prog) (T := 27) ti27 rfl ga rfl
  simp (config := { contextual := true, decide := true }) only [↓pre, post, reduceIte, guardTmp, packRes, if_true, if_false, ite_true, ite_false, decide_eq_true_eq, decide_true, decide_false, decide_eq_false_iff_not, true_implies, false_implies, forall_const, implies_true, List.map_cons, List.map_nil, Bool.true_eq_false, Bool.false_eq_true, List.getElem?_cons_zero, List.getElem?_cons_succ, Option.getD_some, Option.bind_some, Option.isSome_some, Option.map_some, Option.map_none, some?_some, List.cons_append, List.nil_append, List.append_nil, Int.toNat_natCast, nn0, Nat.zero_add, Nat.mul_one, and_true, true_and, true_or, or_true, List.mem_cons, List.not_mem_nil, forall_eq_or_imp, forall_eq, Bool.not_true, la]
  refine callK_of (less_spec fun S5 f5 => ?_)
  replace ga := f5 _ _ ga
  replace gb := f5 _ _ gb
  replace gc := f5 _ _ gc
  replace F4 := F4.trans f5
  replace la := hload_agg (P := Tryd.prog) (T := 27) ti27 rfl ga rfl
  have lb := hload_agg (P := Tryd.prog) (T := 27) ti27 rfl gb rfl
  have lc := hload_agg (P := Tryd.prog) (T := 27) ti27 rfl gc rfl
  rw [lessF_irrefl]
  simp (config := { contextual := true, decide := true }) only [↓pre, post, reduceIte, guardTmp, packRes, if_true, if_false, ite_true, ite_false, decide_eq_true_eq, decide_true, decide_false, decide_eq_false_iff_not, true_implies, false_implies, forall_const, implies_true, List.map_cons, List.map_nil, Bool.true_eq_false, Bool.false_eq_true, List.getElem?_cons_zero, List.getElem?_cons_succ, Option.getD_some, Option.bind_some, Option.isSome_some, Option.map_some, Option.map_none, some?_some, List.cons_append, List.nil_append, List.append_nil, Int.toNat_natCast, nn0, Nat.zero_add, Nat.mul_one, and_true, true_and, true_or, or_true, List.mem_cons, List.not_mem_nil, forall_eq_or_imp, forall_eq, la, lb]
  refine callK_of (less_spec fun S5 f5 => ?_)
  replace ga := f5 _ _ ga
  replace gb := f5 _ _ gb
  replace gc := f5 _ _ gc
  replace F4 := F4.trans f5
  replace la := hload_agg (P := Tryd.prog) (T := 27) ti27 rfl ga rfl
  have lb := hload_agg (P := Tryd.prog) (T := 27) ti27 rfl gb rfl
  have lc := hload_agg (P := Tryd.prog) (T := 27) ti27 rfl gc rfl
  cases hab : lessF a b with
  | false =>
    simp (config := { contextual := true, decide := true }) only [↓pre, post, reduceIte, guardTmp, packRes, if_true, if_false, ite_true, ite_false, decide_eq_true_eq, decide_true, decide_false, decide_eq_false_iff_not, true_implies, false_implies, forall_const, implies_true, List.map_cons, List.map_nil, Bool.true_eq_false, Bool.false_eq_true, List.getElem?_cons_zero, List.getElem?_cons_succ, Option.getD_some, Option.bind_some, Option.isSome_some, Option.map_some, Option.map_none, some?_some, List.cons_append, List.nil_append, List.append_nil, Int.toNat_natCast, nn0, Nat.zero_add, Nat.mul_one, and_true, true_and, true_or, or_true, List.mem_cons, List.not_mem_nil, forall_eq_or_imp, forall_eq, la, lb, lc]
    refine callK_of (less_spec fun S5 f5 => ?_)
    replace ga := f5 _ _ ga
    replace gb := f5 _ _ gb
    replace gc := f5 _ _ gc
    replace F4 := F4.trans f5
    replace la := hload_agg (P := Tryd.prog) (T := 27) ti27 rfl ga rfl
    have lb := hload_agg (P := Tryd.prog) (T := 27) ti27 rfl gb rfl
    have lc := hload_agg (P := Tryd.prog) (T := 27) ti27 rfl gc rfl
    rw [hab]
    simp (config := { contextual := true, decide := true }) only [↓pre, post, reduceIte, guardTmp, packRes, if_true, if_false, ite_true, ite_false, decide_eq_true_eq, decide_true, decide_false, decide_eq_false_iff_not, true_implies, false_implies, forall_const, implies_true, List.map_cons, List.map_nil, Bool.true_eq_false, Bool.false_eq_true, List.getElem?_cons_zero, List.getElem?_cons_succ, Option.getD_some, Option.bind_some, Option.isSome_some, Option.map_some, Option.map_none, some?_some, List.cons_append, List.nil_append, List.append_nil, Int.toNat_natCast, nn0, Nat.zero_add, Nat.mul_one, and_true, true_and, true_or, or_true, List.mem_cons, List.not_mem_nil, forall_eq_or_imp, forall_eq, la, lb, lc, Bool.not_true, Bool.not_false]
    have ht := lessF_total a b
    rw [hab, Bool.false_or] at ht
    by_cases hn : a.name = b.name
    · have hn' : (B a.name = B b.name) = True := eq_true (by rw [hn])
      by_cases ha : a.addr = b.addr
      · have ha' : (B a.addr = B b.addr) = True := eq_true (by rw [ha])
        have hba : lessF b a = false := by rw [ht, hn, ha]; simp
        refine drawK (fun S' => Fr S S' ∧ S' l1 = some (.row a.hv) ∧ S' l2 = some (.row b.hv))
          [(38, .agg a.hv), (39, .agg b.hv), (40, .bool false), (41, .bool false), (42, .agg b.hv), (43, .agg a.hv), (44, .bool false), (45, .bool false), (46, .ptr l1 1), (47, .str (B a.name)), (48, .ptr l2 1), (49, .str (B b.name)), (50, .bool false), (51, .bool false), (52, .ptr l1 2), (53, .ptr l1 2), (54, .str (B a.addr)), (55, .ptr l2 2), (56, .ptr l2 2), (57, .str (B b.addr)), (58, .bool false), (59, .bool false), (60, .bool true), (6, .bool true)] ⟨F4, ga, gb⟩ rfl rfl rfl ?_ ?_
        · refine ⟨?_, ?_, ?_, ?_, ?_, ?_, ?_, ?_, ?_, ?_, ?_, ?_, ?_, ?_, ?_, ?_, ?_, ?_, ?_, ?_, ?_, ?_, ?_, ?_, trivial⟩
          all_goals
            intro env S' hJ hr
            obtain ⟨jf, ja, jb⟩ := hJ
            have la := hload_agg (P := Tryd.prog) (T := 27) ti27 rfl ja rfl
            have lb := hload_agg (P := Tryd.prog) (T := 27) ti27 rfl jb rfl
            have a1 := hload_one (P := Tryd.prog) (T := 23) (o := 1) (v := .str (B a.name)) ti23 rfl ja rfl
            have b1 := hload_one (P := Tryd.prog) (T := 23) (o := 1) (v := .str (B b.name)) ti23 rfl jb rfl
            have a2 := hload_one (P := Tryd.prog) (T := 9) (o := 2) (v := .str (B a.addr)) ti9 rfl ja rfl
            have b2 := hload_one (P := Tryd.prog) (T := 9) (o := 2) (v := .str (B b.addr)) ti9 rfl jb rfl
            simp (config := { contextual := true, decide := true }) only [↓pre, post, reduceIte, guardTmp, packRes, if_true, if_false, ite_true, ite_false, decide_eq_true_eq, decide_true, decide_false, decide_eq_false_iff_not, true_implies, false_implies, forall_const, implies_true, List.map_cons, List.map_nil, Bool.true_eq_false, Bool.false_eq_true, List.getElem?_cons_zero, List.getElem?_cons_succ, Option.getD_some, Option.bind_some, Option.isSome_some, Option.map_some, Option.map_none, some?_some, List.cons_append, List.nil_append, List.append_nil, Int.toNat_natCast, nn0, Nat.zero_add, Nat.mul_one, and_true, true_and, true_or, or_true, List.mem_cons, List.not_mem_nil, forall_eq_or_imp, forall_eq, reduceCtorEq, obls_cons, obls_nil, readsOf, tmpL, opL, optL, guardL, and_imp, Option.some.injEq, forall_eq'] at hr
          all_goals try
            simp (config := { contextual := true, decide := true }) only [↓pre, post, reduceIte, guardTmp, packRes, if_true, if_false, ite_true, ite_false, decide_eq_true_eq, decide_true, decide_false, decide_eq_false_iff_not, true_implies, false_implies, forall_const, implies_true, List.map_cons, List.map_nil, Bool.true_eq_false, Bool.false_eq_true, List.getElem?_cons_zero, List.getElem?_cons_succ, Option.getD_some, Option.bind_some, Option.isSome_some, Option.map_some, Option.map_none, some?_some, List.cons_append, List.nil_append, List.append_nil, Int.toNat_natCast, nn0, Nat.zero_add, Nat.mul_one, and_true, true_and, true_or, or_true, List.mem_cons, List.not_mem_nil, forall_eq_or_imp, forall_eq, reduceCtorEq, obls_cons, obls_nil, readsOf, tmpL, opL, optL, guardL, and_imp, Option.some.injEq, forall_eq', hr, la, lb, jf, ja, jb, hfieldAddr, sp27, sp25, a1, b1, a2, b2, Bool.not_true, Bool.not_false, ne_eq, not_true_eq_false, not_false_eq_true, eqTT, eqFF, hab, hn', ha']
          · exact callK_of (less_spec fun S5 f5 => ⟨congrArg _ hab, jf.trans f5, f5 _ _ ja, f5 _ _ jb⟩)
          · exact callK_of (less_spec fun S5 f5 => ⟨congrArg _ hba, jf.trans f5, f5 _ _ ja, f5 _ _ jb⟩)
        · rintro S' ⟨jf, ja, jb⟩
          simp (config := { contextual := true, decide := true }) only [↓pre, post, reduceIte, guardTmp, packRes, if_true, if_false, ite_true, ite_false, decide_eq_true_eq, decide_true, decide_false, decide_eq_false_iff_not, true_implies, false_implies, forall_const, implies_true, List.map_cons, List.map_nil, Bool.true_eq_false, Bool.false_eq_true, List.getElem?_cons_zero, List.getElem?_cons_succ, Option.getD_some, Option.bind_some, Option.isSome_some, Option.map_some, Option.map_none, some?_some, List.cons_append, List.nil_append, List.append_nil, Int.toNat_natCast, nn0, Nat.zero_add, Nat.mul_one, and_true, true_and, true_or, or_true, List.mem_cons, List.not_mem_nil, forall_eq_or_imp, forall_eq]
          exact h _ jf
      · have ha' : (B a.addr = B b.addr) = False := eq_false (by rw [B_inj]; exact ha)
        have hba : lessF b a = true := by rw [ht, hn]; simp [ha]
        refine drawK (fun S' => Fr S S' ∧ S' l1 = some (.row a.hv) ∧ S' l2 = some (.row b.hv))
          [(38, .agg a.hv), (39, .agg b.hv), (40, .bool false), (41, .bool false), (42, .agg b.hv), (43, .agg a.hv), (44, .bool true), (45, .bool true), (46, .ptr l1 1), (47, .str (B a.name)), (48, .ptr l2 1), (49, .str (B b.name)), (50, .bool false), (51, .bool false), (52, .ptr l1 2), (53, .ptr l1 2), (54, .str (B a.addr)), (55, .ptr l2 2), (56, .ptr l2 2), (57, .str (B b.addr)), (58, .bool true), (59, .bool true), (60, .bool true), (6, .bool true)] ⟨F4, ga, gb⟩ rfl rfl rfl ?_ ?_
        · refine ⟨?_, ?_, ?_, ?_, ?_, ?_, ?_, ?_, ?_, ?_, ?_, ?_, ?_, ?_, ?_, ?_, ?_, ?_, ?_, ?_, ?_, ?_, ?_, ?_, trivial⟩
          all_goals
            intro env S' hJ hr
            obtain ⟨jf, ja, jb⟩ := hJ
            have la := hload_agg (P := Tryd.prog) (T := 27) ti27 rfl ja rfl
            have lb := hload_agg (P := Tryd.prog) (T := 27) ti27 rfl jb rfl
            have a1 := hload_one (P := Tryd.prog) (T := 23) (o := 1) (v := .str (B a.name)) ti23 rfl ja rfl
            have b1 := hload_one (P := Tryd.prog) (T := 23) (o := 1) (v := .str (B b.name)) ti23 rfl jb rfl
            have a2 := hload_one (P := Tryd.prog) (T := 9) (o := 2) (v := .str (B a.addr)) ti9 rfl ja rfl
            have b2 := hload_one (P := Tryd.prog) (T := 9) (o := 2) (v := .str (B b.addr)) ti9 rfl jb rfl
            simp (config := { contextual := true, decide := true }) only [↓pre, post, reduceIte, guardTmp, packRes, if_true, if_false, ite_true, ite_false, decide_eq_true_eq, decide_true, decide_false, decide_eq_false_iff_not, true_implies, false_implies, forall_const, implies_true, List.map_cons, List.map_nil, Bool.true_eq_false, Bool.false_eq_true, List.getElem?_cons_zero, List.getElem?_cons_succ, Option.getD_some, Option.bind_some, Option.isSome_some, Option.map_some, Option.map_none, some?_some, List.cons_append, List.nil_append, List.append_nil, Int.toNat_natCast, nn0, Nat.zero_add, Nat.mul_one, and_true, true_and, true_or, or_true, List.mem_cons, List.not_mem_nil, forall_eq_or_imp, forall_eq, reduceCtorEq, obls_cons, obls_nil, readsOf, tmpL, opL, optL, guardL, and_imp, Option.some.injEq, forall_eq'] at hr
          all_goals try
            simp (config := { contextual := true, decide := true }) only [↓pre, post, reduceIte, guardTmp, packRes, if_true, if_false, ite_true, ite_false, decide_eq_true_eq, decide_true, decide_false, decide_eq_false_iff_not, true_implies, false_implies, forall_const, implies_true, List.map_cons, List.map_nil, Bool.true_eq_false, Bool.false_eq_true, List.getElem?_cons_zero, List.getElem?_cons_succ, Option.getD_some, Option.bind_some, Option.isSome_some, Option.map_some, Option.map_none, some?_some, List.cons_append, List.nil_append, List.append_nil, Int.toNat_natCast, nn0, Nat.zero_add, Nat.mul_one, and_true, true_and, true_or, or_true, List.mem_cons, List.not_mem_nil, forall_eq_or_imp, forall_eq, reduceCtorEq, obls_cons, obls_nil, readsOf, tmpL, opL, optL, guardL, and_imp, Option.some.injEq, forall_eq', hr, la, lb, jf, ja, jb, hfieldAddr, sp27, sp25, a1, b1, a2, b2, Bool.not_true, Bool.not_false, ne_eq, not_true_eq_false, not_false_eq_true, eqTT, eqFF, hab, hn', ha']
          · exact callK_of (less_spec fun S5 f5 => ⟨congrArg _ hab, jf.trans f5, f5 _ _ ja, f5 _ _ jb⟩)
          · exact callK_of (less_spec fun S5 f5 => ⟨congrArg _ hba, jf.trans f5, f5 _ _ ja, f5 _ _ jb⟩)
        · rintro S' ⟨jf, ja, jb⟩
          simp (config := { contextual := true, decide := true }) only [↓pre, post, reduceIte, guardTmp, packRes, if_true, if_false, ite_true, ite_false, decide_eq_true_eq, decide_true, decide_false, decide_eq_false_iff_not, true_implies, false_implies, forall_const, implies_true, List.map_cons, List.map_nil, Bool.true_eq_false, Bool.false_eq_true, List.getElem?_cons_zero, List.getElem?_cons_succ, Option.getD_some, Option.bind_some, Option.isSome_some, Option.map_some, Option.map_none, some?_some, List.cons_append, List.nil_append, List.append_nil, Int.toNat_natCast, nn0, Nat.zero_add, Nat.mul_one, and_true, true_and, true_or, or_true, List.mem_cons, List.not_mem_nil, forall_eq_or_imp, forall_eq]
          exact h _ jf
    · have hn' : (B a.name = B b.name) = False := eq_false (by rw [B_inj]; exact hn)
      have hba : lessF b a = true := by rw [ht]; simp [hn]
      refine drawK (fun S' => Fr S S' ∧ S' l1 = some (.row a.hv) ∧ S' l2 = some (.row b.hv))
        [(38, .agg a.hv), (39, .agg b.hv), (40, .bool false), (41, .bool false), (42, .agg b.hv), (43, .agg a.hv), (44, .bool true), (45, .bool true), (46, .ptr l1 1), (47, .str (B a.name)), (48, .ptr l2 1), (49, .str (B b.name)), (50, .bool true), (51, .bool true), (52, .undef), (53, .undef), (54, .undef), (55, .undef), (56, .undef), (57, .undef), (58, .undef), (59, .bool true), (60, .bool true), (6, .bool true)] ⟨F4, ga, gb⟩ rfl rfl rfl ?_ ?_
      · refine ⟨?_, ?_, ?_, ?_, ?_, ?_, ?_, ?_, ?_, ?_, ?_, ?_, ?_, ?_, ?_, ?_, ?_, ?_, ?_, ?_, ?_, ?_, ?_, ?_, trivial⟩
        all_goals
          intro env S' hJ hr
          obtain ⟨jf, ja, jb⟩ := hJ
          have la := hload_agg (P := Tryd.prog) (T := 27) ti27 rfl ja rfl
          have lb := hload_agg (P := Tryd.prog) (T := 27) ti27 rfl jb rfl
          have a1 := hload_one (P := Tryd.prog) (T := 23) (o := 1) (v := .str (B a.name)) ti23 rfl ja rfl
          have b1 := hload_one (P := Tryd.prog) (T := 23) (o := 1) (v := .str (B b.name)) ti23 rfl jb rfl
          have a2 := hload_one (P := Tryd.prog) (T := 9) (o := 2) (v := .str (B a.addr)) ti9 rfl ja rfl
          have b2 := hload_one (P := Tryd.prog) (T := 9) (o := 2) (v := .str (B b.addr)) ti9 rfl jb rfl
          simp (config := { contextual := true, decide := true }) only [↓pre, post, reduceIte, guardTmp, packRes, if_true, if_false, ite_true, ite_false, decide_eq_true_eq, decide_true, decide_false, decide_eq_false_iff_not, true_implies, false_implies, forall_const, implies_true, List.map_cons, List.map_nil, Bool.true_eq_false, Bool.false_eq_true, List.getElem?_cons_zero, List.getElem?_cons_succ, Option.getD_some, Option.bind_some, Option.isSome_some, Option.map_some, Option.map_none, some?_some, List.cons_append, List.nil_append, List.append_nil, Int.toNat_natCast, nn0, Nat.zero_add, Nat.mul_one, and_true, true_and, true_or, or_true, List.mem_cons, List.not_mem_nil, forall_eq_or_imp, forall_eq, reduceCtorEq, obls_cons, obls_nil, readsOf, tmpL, opL, optL, guardL, and_imp, Option.some.injEq, forall_eq'] at hr
        all_goals try
          simp (config := { contextual := true, decide := true }) only [↓pre, post, reduceIte, guardTmp, packRes, if_true, if_false, ite_true, ite_false, decide_eq_true_eq, decide_true, decide_false, decide_eq_false_iff_not, true_implies, false_implies, forall_const, implies_true, List.map_cons, List.map_nil, Bool.true_eq_false, Bool.false_eq_true, List.getElem?_cons_zero, List.getElem?_cons_succ, Option.getD_some, Option.bind_some, Option.isSome_some, Option.map_some, Option.map_none, some?_some, List.cons_append, List.nil_append, List.append_nil, Int.toNat_natCast, nn0, Nat.zero_add, Nat.mul_one, and_true, true_and, true_or, or_true, List.mem_cons, List.not_mem_nil, forall_eq_or_imp, forall_eq, reduceCtorEq, obls_cons, obls_nil, readsOf, tmpL, opL, optL, guardL, and_imp, Option.some.injEq, forall_eq', hr, la, lb, jf, ja, jb, hfieldAddr, sp27, sp25, a1, b1, a2, b2, Bool.not_true, Bool.not_false, ne_eq, not_true_eq_false, not_false_eq_true, eqTT, eqFF, hab, hn']
        · exact callK_of (less_spec fun S5 f5 => ⟨congrArg _ hab, jf.trans f5, f5 _ _ ja, f5 _ _ jb⟩)
        · exact callK_of (less_spec fun S5 f5 => ⟨congrArg _ hba, jf.trans f5, f5 _ _ ja, f5 _ _ jb⟩)
      · rintro S' ⟨jf, ja, jb⟩
        simp (config := { contextual := true, decide := true }) only [↓pre, post, reduceIte, guardTmp, packRes, if_true, if_false, ite_true, ite_false, decide_eq_true_eq, decide_true, decide_false, decide_eq_false_iff_not, true_implies, false_implies, forall_const, implies_true, List.map_cons, List.map_nil, Bool.true_eq_false, Bool.false_eq_true, List.getElem?_cons_zero, List.getElem?_cons_succ, Option.getD_some, Option.bind_some, Option.isSome_some, Option.map_some, Option.map_none, some?_some, List.cons_append, List.nil_append, List.append_nil, Int.toNat_natCast, nn0, Nat.zero_add, Nat.mul_one, and_true, true_and, true_or, or_true, List.mem_cons, List.not_mem_nil, forall_eq_or_imp, forall_eq]
        exact h _ jf
  | true =>
    have ht := lessF_total a b
    rw [hab, Bool.true_or] at ht
    simp (config := { contextual := true, decide := true }) only [↓pre, post, reduceIte, guardTmp, packRes, if_true, if_false, ite_true, ite_false, decide_eq_true_eq, decide_true, decide_false, decide_eq_false_iff_not, true_implies, false_implies, forall_const, implies_true, List.map_cons, List.map_nil, Bool.true_eq_false, Bool.false_eq_true, List.getElem?_cons_zero, List.getElem?_cons_succ, Option.getD_some, Option.bind_some, Option.isSome_some, Option.map_some, Option.map_none, some?_some, List.cons_append, List.nil_append, List.append_nil, Int.toNat_natCast, nn0, Nat.zero_add, Nat.mul_one, and_true, true_and, true_or, or_true, List.mem_cons, List.not_mem_nil, forall_eq_or_imp, forall_eq, la, lb, lc]
    refine callK_of (less_spec fun S5 f5 => ?_)
    replace ga := f5 _ _ ga
    replace gb := f5 _ _ gb
    replace gc := f5 _ _ gc
    replace F4 := F4.trans f5
    replace la := hload_agg (P := Tryd.prog) (T := 27) ti27 rfl ga rfl
    have lb := hload_agg (P := Tryd.prog) (T := 27) ti27 rfl gb rfl
    have lc := hload_agg (P := Tryd.prog) (T := 27) ti27 rfl gc rfl
    rw [lessF_asymm hab]
    simp (config := { contextual := true, decide := true }) only [↓pre, post, reduceIte, guardTmp, packRes, if_true, if_false, ite_true, ite_false, decide_eq_true_eq, decide_true, decide_false, decide_eq_false_iff_not, true_implies, false_implies, forall_const, implies_true, List.map_cons, List.map_nil, Bool.true_eq_false, Bool.false_eq_true, List.getElem?_cons_zero, List.getElem?_cons_succ, Option.getD_some, Option.bind_some, Option.isSome_some, Option.map_some, Option.map_none, some?_some, List.cons_append, List.nil_append, List.append_nil, Int.toNat_natCast, nn0, Nat.zero_add, Nat.mul_one, and_true, true_and, true_or, or_true, List.mem_cons, List.not_mem_nil, forall_eq_or_imp, forall_eq, la, lb, lc]
    refine callK_of (less_spec fun S5 f5 => ?_)
    replace ga := f5 _ _ ga
    replace gb := f5 _ _ gb
    replace gc := f5 _ _ gc
    replace F4 := F4.trans f5
    replace la := hload_agg (P := Tryd.prog) (T := 27) ti27 rfl ga rfl
    have lb := hload_agg (P := Tryd.prog) (T := 27) ti27 rfl gb rfl
    have lc := hload_agg (P := Tryd.prog) (T := 27) ti27 rfl gc rfl
    rw [hab]
    simp (config := { contextual := true, decide := true }) only [↓pre, post, reduceIte, guardTmp, packRes, if_true, if_false, ite_true, ite_false, decide_eq_true_eq, decide_true, decide_false, decide_eq_false_iff_not, true_implies, false_implies, forall_const, implies_true, List.map_cons, List.map_nil, Bool.true_eq_false, Bool.false_eq_true, List.getElem?_cons_zero, List.getElem?_cons_succ, Option.getD_some, Option.bind_some, Option.isSome_some, Option.map_some, Option.map_none, some?_some, List.cons_append, List.nil_append, List.append_nil, Int.toNat_natCast, nn0, Nat.zero_add, Nat.mul_one, and_true, true_and, true_or, or_true, List.mem_cons, List.not_mem_nil, forall_eq_or_imp, forall_eq, la, lb, lc]
    refine callK_of (less_spec fun S5 f5 => ?_)
    replace ga := f5 _ _ ga
    replace gb := f5 _ _ gb
    replace gc := f5 _ _ gc
    replace F4 := F4.trans f5
    replace la := hload_agg (P := Tryd.prog) (T := 27) ti27 rfl ga rfl
    have lb := hload_agg (P := Tryd.prog) (T := 27) ti27 rfl gb rfl
    have lc := hload_agg (P := Tryd.prog) (T := 27) ti27 rfl gc rfl
    cases hbc : lessF b c with
    | false =>
      simp (config := { contextual := true, decide := true }) only [↓pre, post, reduceIte, guardTmp, packRes, if_true, if_false, ite_true, ite_false, decide_eq_true_eq, decide_true, decide_false, decide_eq_false_iff_not, true_implies, false_implies, forall_const, implies_true, List.map_cons, List.map_nil, Bool.true_eq_false, Bool.false_eq_true, List.getElem?_cons_zero, List.getElem?_cons_succ, Option.getD_some, Option.bind_some, Option.isSome_some, Option.map_some, Option.map_none, some?_some, List.cons_append, List.nil_append, List.append_nil, Int.toNat_natCast, nn0, Nat.zero_add, Nat.mul_one, and_true, true_and, true_or, or_true, List.mem_cons, List.not_mem_nil, forall_eq_or_imp, forall_eq, la, lb, lc, Bool.not_true, Bool.not_false]
      by_cases hn : a.name = b.name
      · have hn' : (B a.name = B b.name) = True := eq_true (by rw [hn])
        have ha : a.addr ≠ b.addr := by intro e; rw [hn, e] at ht; simp at ht
        have ha' : (B a.addr = B b.addr) = False := eq_false (by rw [B_inj]; exact ha)
        refine drawK (fun S' => Fr S S' ∧ S' l1 = some (.row a.hv) ∧ S' l2 = some (.row b.hv))
          [(38, .agg a.hv), (39, .agg b.hv), (40, .bool true), (41, .bool true), (42, .undef), (43, .undef), (44, .undef), (45, .bool true), (46, .ptr l1 1), (47, .str (B a.name)), (48, .ptr l2 1), (49, .str (B b.name)), (50, .bool false), (51, .bool false), (52, .ptr l1 2), (53, .ptr l1 2), (54, .str (B a.addr)), (55, .ptr l2 2), (56, .ptr l2 2), (57, .str (B b.addr)), (58, .bool true), (59, .bool true), (60, .bool true), (6, .bool true)] ⟨F4, ga, gb⟩ rfl rfl rfl ?_ ?_
        · refine ⟨?_, ?_, ?_, ?_, ?_, ?_, ?_, ?_, ?_, ?_, ?_, ?_, ?_, ?_, ?_, ?_, ?_, ?_, ?_, ?_, ?_, ?_, ?_, ?_, trivial⟩
          all_goals
            intro env S' hJ hr
            obtain ⟨jf, ja, jb⟩ := hJ
            have la := hload_agg (P := Tryd.prog) (T := 27) ti27 rfl ja rfl
            have lb := hload_agg (P := Tryd.prog) (T := 27) ti27 rfl jb rfl
            have a1 := hload_one (P := Tryd.prog) (T := 23) (o := 1) (v := .str (B a.name)) ti23 rfl ja rfl
            have b1 := hload_one (P := Tryd.prog) (T := 23) (o := 1) (v := .str (B b.name)) ti23 rfl jb rfl
            have a2 := hload_one (P := Tryd.prog) (T := 9) (o := 2) (v := .str (B a.addr)) ti9 rfl ja rfl
            have b2 := hload_one (P := Tryd.prog) (T := 9) (o := 2) (v := .str (B b.addr)) ti9 rfl jb rfl
            simp (config := { contextual := true, decide := true }) only [↓pre, post, reduceIte, guardTmp, packRes, if_true, if_false, ite_true, ite_false, decide_eq_true_eq, decide_true, decide_false, decide_eq_false_iff_not, true_implies, false_implies, forall_const, implies_true, List.map_cons, List.map_nil, Bool.true_eq_false, Bool.false_eq_true, List.getElem?_cons_zero, List.getElem?_cons_succ, Option.getD_some, Option.bind_some, Option.isSome_some, Option.map_some, Option.map_none, some?_some, List.cons_append, List.nil_append, List.append_nil, Int.toNat_natCast, nn0, Nat.zero_add, Nat.mul_one, and_true, true_and, true_or, or_true, List.mem_cons, List.not_mem_nil, forall_eq_or_imp, forall_eq, reduceCtorEq, obls_cons, obls_nil, readsOf, tmpL, opL, optL, guardL, and_imp, Option.some.injEq, forall_eq'] at hr
          all_goals try
            simp (config := { contextual := true, decide := true }) only [↓pre, post, reduceIte, guardTmp, packRes, if_true, if_false, ite_true, ite_false, decide_eq_true_eq, decide_true, decide_false, decide_eq_false_iff_not, true_implies, false_implies, forall_const, implies_true, List.map_cons, List.map_nil, Bool.true_eq_false, Bool.false_eq_true, List.getElem?_cons_zero, List.getElem?_cons_succ, Option.getD_some, Option.bind_some, Option.isSome_some, Option.map_some, Option.map_none, some?_some, List.cons_append, List.nil_append, List.append_nil, Int.toNat_natCast, nn0, Nat.zero_add, Nat.mul_one, and_true, true_and, true_or, or_true, List.mem_cons, List.not_mem_nil, forall_eq_or_imp, forall_eq, reduceCtorEq, obls_cons, obls_nil, readsOf, tmpL, opL, optL, guardL, and_imp, Option.some.injEq, forall_eq', hr, la, lb, jf, ja, jb, hfieldAddr, sp27, sp25, a1, b1, a2, b2, Bool.not_true, Bool.not_false, ne_eq, not_true_eq_false, not_false_eq_true, eqTT, eqFF, hab, hn', ha']
          · exact callK_of (less_spec fun S5 f5 => ⟨congrArg _ hab, jf.trans f5, f5 _ _ ja, f5 _ _ jb⟩)
          skip
        · rintro S' ⟨jf, ja, jb⟩
          simp (config := { contextual := true, decide := true }) only [↓pre, post, reduceIte, guardTmp, packRes, if_true, if_false, ite_true, ite_false, decide_eq_true_eq, decide_true, decide_false, decide_eq_false_iff_not, true_implies, false_implies, forall_const, implies_true, List.map_cons, List.map_nil, Bool.true_eq_false, Bool.false_eq_true, List.getElem?_cons_zero, List.getElem?_cons_succ, Option.getD_some, Option.bind_some, Option.isSome_some, Option.map_some, Option.map_none, some?_some, List.cons_append, List.nil_append, List.append_nil, Int.toNat_natCast, nn0, Nat.zero_add, Nat.mul_one, and_true, true_and, true_or, or_true, List.mem_cons, List.not_mem_nil, forall_eq_or_imp, forall_eq]
          exact h _ jf
      · have hn' : (B a.name = B b.name) = False := eq_false (by rw [B_inj]; exact hn)
        refine drawK (fun S' => Fr S S' ∧ S' l1 = some (.row a.hv) ∧ S' l2 = some (.row b.hv))
          [(38, .agg a.hv), (39, .agg b.hv), (40, .bool true), (41, .bool true), (42, .undef), (43, .undef), (44, .undef), (45, .bool true), (46, .ptr l1 1), (47, .str (B a.name)), (48, .ptr l2 1), (49, .str (B b.name)), (50, .bool true), (51, .bool true), (52, .undef), (53, .undef), (54, .undef), (55, .undef), (56, .undef), (57, .undef), (58, .undef), (59, .bool true), (60, .bool true), (6, .bool true)] ⟨F4, ga, gb⟩ rfl rfl rfl ?_ ?_
        · refine ⟨?_, ?_, ?_, ?_, ?_, ?_, ?_, ?_, ?_, ?_, ?_, ?_, ?_, ?_, ?_, ?_, ?_, ?_, ?_, ?_, ?_, ?_, ?_, ?_, trivial⟩
          all_goals
            intro env S' hJ hr
            obtain ⟨jf, ja, jb⟩ := hJ
            have la := hload_agg (P := Tryd.prog) (T := 27) ti27 rfl ja rfl
            have lb := hload_agg (P := Tryd.prog) (T := 27) ti27 rfl jb rfl
            have a1 := hload_one (P := Tryd.prog) (T := 23) (o := 1) (v := .str (B a.name)) ti23 rfl ja rfl
            have b1 := hload_one (P := Tryd.prog) (T := 23) (o := 1) (v := .str (B b.name)) ti23 rfl jb rfl
            have a2 := hload_one (P := Tryd.prog) (T := 9) (o := 2) (v := .str (B a.addr)) ti9 rfl ja rfl
            have b2 := hload_one (P := Tryd.prog) (T := 9) (o := 2) (v := .str (B b.addr)) ti9 rfl jb rfl
            simp (config := { contextual := true, decide := true }) only [↓pre, post, reduceIte, guardTmp, packRes, if_true, if_false, ite_true, ite_false, decide_eq_true_eq, decide_true, decide_false, decide_eq_false_iff_not, true_implies, false_implies, forall_const, implies_true, List.map_cons, List.map_nil, Bool.true_eq_false, Bool.false_eq_true, List.getElem?_cons_zero, List.getElem?_cons_succ, Option.getD_some, Option.bind_some, Option.isSome_some, Option.map_some, Option.map_none, some?_some, List.cons_append, List.nil_append, List.append_nil, Int.toNat_natCast, nn0, Nat.zero_add, Nat.mul_one, and_true, true_and, true_or, or_true, List.mem_cons, List.not_mem_nil, forall_eq_or_imp, forall_eq, reduceCtorEq, obls_cons, obls_nil, readsOf, tmpL, opL, optL, guardL, and_imp, Option.some.injEq, forall_eq'] at hr
          all_goals try
            simp (config := { contextual := true, decide := true }) only [↓pre, post, reduceIte, guardTmp, packRes, if_true, if_false, ite_true, ite_false, decide_eq_true_eq, decide_true, decide_false, decide_eq_false_iff_not, true_implies, false_implies, forall_const, implies_true, List.map_cons, List.map_nil, Bool.true_eq_false, Bool.false_eq_true, List.getElem?_cons_zero, List.getElem?_cons_succ, Option.getD_some, Option.bind_some, Option.isSome_some, Option.map_some, Option.map_none, some?_some, List.cons_append, List.nil_append, List.append_nil, Int.toNat_natCast, nn0, Nat.zero_add, Nat.mul_one, and_true, true_and, true_or, or_true, List.mem_cons, List.not_mem_nil, forall_eq_or_imp, forall_eq, reduceCtorEq, obls_cons, obls_nil, readsOf, tmpL, opL, optL, guardL, and_imp, Option.some.injEq, forall_eq', hr, la, lb, jf, ja, jb, hfieldAddr, sp27, sp25, a1, b1, a2, b2, Bool.not_true, Bool.not_false, ne_eq, not_true_eq_false, not_false_eq_true, eqTT, eqFF, hab, hn']
          · exact callK_of (less_spec fun S5 f5 => ⟨congrArg _ hab, jf.trans f5, f5 _ _ ja, f5 _ _ jb⟩)
          skip
        · rintro S' ⟨jf, ja, jb⟩
          simp (config := { contextual := true, decide := true }) only [↓pre, post, reduceIte, guardTmp, packRes, if_true, if_false, ite_true, ite_false, decide_eq_true_eq, decide_true, decide_false, decide_eq_false_iff_not, true_implies, false_implies, forall_const, implies_true, List.map_cons, List.map_nil, Bool.true_eq_false, Bool.false_eq_true, List.getElem?_cons_zero, List.getElem?_cons_succ, Option.getD_some, Option.bind_some, Option.isSome_some, Option.map_some, Option.map_none, some?_some, List.cons_append, List.nil_append, List.append_nil, Int.toNat_natCast, nn0, Nat.zero_add, Nat.mul_one, and_true, true_and, true_or, or_true, List.mem_cons, List.not_mem_nil, forall_eq_or_imp, forall_eq]
          exact h _ jf
    | true =>
      simp (config := { contextual := true, decide := true }) only [↓pre, post, reduceIte, guardTmp, packRes, if_true, if_false, ite_true, ite_false, decide_eq_true_eq, decide_true, decide_false, decide_eq_false_iff_not, true_implies, false_implies, forall_const, implies_true, List.map_cons, List.map_nil, Bool.true_eq_false, Bool.false_eq_true, List.getElem?_cons_zero, List.getElem?_cons_succ, Option.getD_some, Option.bind_some, Option.isSome_some, Option.map_some, Option.map_none, some?_some, List.cons_append, List.nil_append, List.append_nil, Int.toNat_natCast, nn0, Nat.zero_add, Nat.mul_one, and_true, true_and, true_or, or_true, List.mem_cons, List.not_mem_nil, forall_eq_or_imp, forall_eq, la, lb, lc]
      refine callK_of (less_spec fun S5 f5 => ?_)
      replace ga := f5 _ _ ga
      replace gb := f5 _ _ gb
      replace gc := f5 _ _ gc
      replace F4 := F4.trans f5
      replace la := hload_agg (P := Tryd.prog) (T := 27) ti27 rfl ga rfl
      have lb := hload_agg (P := Tryd.prog) (T := 27) ti27 rfl gb rfl
      have lc := hload_agg (P := Tryd.prog) (T := 27) ti27 rfl gc rfl
      rw [lessF_trans hab hbc]
      simp (config := { contextual := true, decide := true }) only [↓pre, post, reduceIte, guardTmp, packRes, if_true, if_false, ite_true, ite_false, decide_eq_true_eq, decide_true, decide_false, decide_eq_false_iff_not, true_implies, false_implies, forall_const, implies_true, List.map_cons, List.map_nil, Bool.true_eq_false, Bool.false_eq_true, List.getElem?_cons_zero, List.getElem?_cons_succ, Option.getD_some, Option.bind_some, Option.isSome_some, Option.map_some, Option.map_none, some?_some, List.cons_append, List.nil_append, List.append_nil, Int.toNat_natCast, nn0, Nat.zero_add, Nat.mul_one, and_true, true_and, true_or, or_true, List.mem_cons, List.not_mem_nil, forall_eq_or_imp, forall_eq, la, lb, lc, Bool.not_true, Bool.not_false]
      by_cases hn : a.name = b.name
      · have hn' : (B a.name = B b.name) = True := eq_true (by rw [hn])
        have ha : a.addr ≠ b.addr := by intro e; rw [hn, e] at ht; simp at ht
        have ha' : (B a.addr = B b.addr) = False := eq_false (by rw [B_inj]; exact ha)
        refine drawK (fun S' => Fr S S' ∧ S' l1 = some (.row a.hv) ∧ S' l2 = some (.row b.hv))
          [(38, .agg a.hv), (39, .agg b.hv), (40, .bool true), (41, .bool true), (42, .undef), (43, .undef), (44, .undef), (45, .bool true), (46, .ptr l1 1), (47, .str (B a.name)), (48, .ptr l2 1), (49, .str (B b.name)), (50, .bool false), (51, .bool false), (52, .ptr l1 2), (53, .ptr l1 2), (54, .str (B a.addr)), (55, .ptr l2 2), (56, .ptr l2 2), (57, .str (B b.addr)), (58, .bool true), (59, .bool true), (60, .bool true), (6, .bool true)] ⟨F4, ga, gb⟩ rfl rfl rfl ?_ ?_
        · refine ⟨?_, ?_, ?_, ?_, ?_, ?_, ?_, ?_, ?_, ?_, ?_, ?_, ?_, ?_, ?_, ?_, ?_, ?_, ?_, ?_, ?_, ?_, ?_, ?_, trivial⟩
          all_goals
            intro env S' hJ hr
            obtain ⟨jf, ja, jb⟩ := hJ
            have la := hload_agg (P := Tryd.prog) (T := 27) ti27 rfl ja rfl
            have lb := hload_agg (P := Tryd.prog) (T := 27) ti27 rfl jb rfl
            have a1 := hload_one (P := Tryd.prog) (T := 23) (o := 1) (v := .str (B a.name)) ti23 rfl ja rfl
            have b1 := hload_one (P := Tryd.prog) (T := 23) (o := 1) (v := .str (B b.name)) ti23 rfl jb rfl
            have a2 := hload_one (P := Tryd.prog) (T := 9) (o := 2) (v := .str (B a.addr)) ti9 rfl ja rfl
            have b2 := hload_one (P := Tryd.prog) (T := 9) (o := 2) (v := .str (B b.addr)) ti9 rfl jb rfl
            simp (config := { contextual := true, decide := true }) only [↓pre, post, reduceIte, guardTmp, packRes, if_true, if_false, ite_true, ite_false, decide_eq_true_eq, decide_true, decide_false, decide_eq_false_iff_not, true_implies, false_implies, forall_const, implies_true, List.map_cons, List.map_nil, Bool.true_eq_false, Bool.false_eq_true, List.getElem?_cons_zero, List.getElem?_cons_succ, Option.getD_some, Option.bind_some, Option.isSome_some, Option.map_some, Option.map_none, some?_some, List.cons_append, List.nil_append, List.append_nil, Int.toNat_natCast, nn0, Nat.zero_add, Nat.mul_one, and_true, true_and, true_or, or_true, List.mem_cons, List.not_mem_nil, forall_eq_or_imp, forall_eq, reduceCtorEq, obls_cons, obls_nil, readsOf, tmpL, opL, optL, guardL, and_imp, Option.some.injEq, forall_eq'] at hr
          all_goals try
            simp (config := { contextual := true, decide := true }) only [↓pre, post, reduceIte, guardTmp, packRes, if_true, if_false, ite_true, ite_false, decide_eq_true_eq, decide_true, decide_false, decide_eq_false_iff_not, true_implies, false_implies, forall_const, implies_true, List.map_cons, List.map_nil, Bool.true_eq_false, Bool.false_eq_true, List.getElem?_cons_zero, List.getElem?_cons_succ, Option.getD_some, Option.bind_some, Option.isSome_some, Option.map_some, Option.map_none, some?_some, List.cons_append, List.nil_append, List.append_nil, Int.toNat_natCast, nn0, Nat.zero_add, Nat.mul_one, and_true, true_and, true_or, or_true, List.mem_cons, List.not_mem_nil, forall_eq_or_imp, forall_eq, reduceCtorEq, obls_cons, obls_nil, readsOf, tmpL, opL, optL, guardL, and_imp, Option.some.injEq, forall_eq', hr, la, lb, jf, ja, jb, hfieldAddr, sp27, sp25, a1, b1, a2, b2, Bool.not_true, Bool.not_false, ne_eq, not_true_eq_false, not_false_eq_true, eqTT, eqFF, hab, hn', ha']
          · exact callK_of (less_spec fun S5 f5 => ⟨congrArg _ hab, jf.trans f5, f5 _ _ ja, f5 _ _ jb⟩)
          skip
        · rintro S' ⟨jf, ja, jb⟩
          simp (config := { contextual := true, decide := true }) only [↓pre, post, reduceIte, guardTmp, packRes, if_true, if_false, ite_true, ite_false, decide_eq_true_eq, decide_true, decide_false, decide_eq_false_iff_not, true_implies, false_implies, forall_const, implies_true, List.map_cons, List.map_nil, Bool.true_eq_false, Bool.false_eq_true, List.getElem?_cons_zero, List.getElem?_cons_succ, Option.getD_some, Option.bind_some, Option.isSome_some, Option.map_some, Option.map_none, some?_some, List.cons_append, List.nil_append, List.append_nil, Int.toNat_natCast, nn0, Nat.zero_add, Nat.mul_one, and_true, true_and, true_or, or_true, List.mem_cons, List.not_mem_nil, forall_eq_or_imp, forall_eq]
          exact h _ jf
      · have hn' : (B a.name = B b.name) = False := eq_false (by rw [B_inj]; exact hn)
        refine drawK (fun S' => Fr S S' ∧ S' l1 = some (.row a.hv) ∧ S' l2 = some (.row b.hv))
          [(38, .agg a.hv), (39, .agg b.hv), (40, .bool true), (41, .bool true), (42, .undef), (43, .undef), (44, .undef), (45, .bool true), (46, .ptr l1 1), (47, .str (B a.name)), (48, .ptr l2 1), (49, .str (B b.name)), (50, .bool true), (51, .bool true), (52, .undef), (53, .undef), (54, .undef), (55, .undef), (56, .undef), (57, .undef), (58, .undef), (59, .bool true), (60, .bool true), (6, .bool true)] ⟨F4, ga, gb⟩ rfl rfl rfl ?_ ?_
        · refine ⟨?_, ?_, ?_, ?_, ?_, ?_, ?_, ?_, ?_, ?_, ?_, ?_, ?_, ?_, ?_, ?_, ?_, ?_, ?_, ?_, ?_, ?_, ?_, ?_, trivial⟩
          all_goals
            intro env S' hJ hr
            obtain ⟨jf, ja, jb⟩ := hJ
            have la := hload_agg (P := Tryd.prog) (T := 27) ti27 rfl ja rfl
            have lb := hload_agg (P := Tryd.prog) (T := 27) ti27 rfl jb rfl
            have a1 := hload_one (P := Tryd.prog) (T := 23) (o := 1) (v := .str (B a.name)) ti23 rfl ja rfl
            have b1 := hload_one (P := Tryd.prog) (T := 23) (o := 1) (v := .str (B b.name)) ti23 rfl jb rfl
            have a2 := hload_one (P := Tryd.prog) (T := 9) (o := 2) (v := .str (B a.addr)) ti9 rfl ja rfl
            have b2 := hload_one (P := Tryd.prog) (T := 9) (o := 2) (v := .str (B b.addr)) ti9 rfl jb rfl
            simp (config := { contextual := true, decide := true }) only [↓pre, post, reduceIte, guardTmp, packRes, if_true, if_false, ite_true, ite_false, decide_eq_true_eq, decide_true, decide_false, decide_eq_false_iff_not, true_implies, false_implies, forall_const, implies_true, List.map_cons, List.map_nil, Bool.true_eq_false, Bool.false_eq_true, List.getElem?_cons_zero, List.getElem?_cons_succ, Option.getD_some, Option.bind_some, Option.isSome_some, Option.map_some, Option.map_none, some?_some, List.cons_append, List.nil_append, List.append_nil, Int.toNat_natCast, nn0, Nat.zero_add, Nat.mul_one, and_true, true_and, true_or, or_true, List.mem_cons, List.not_mem_nil, forall_eq_or_imp, forall_eq, reduceCtorEq, obls_cons, obls_nil, readsOf, tmpL, opL, optL, guardL, and_imp, Option.some.injEq, forall_eq'] at hr
          all_goals try
            simp (config := { contextual := true, decide := true }) only [↓pre, post, reduceIte, guardTmp, packRes, if_true, if_false, ite_true, ite_false, decide_eq_true_eq, decide_true, decide_false, decide_eq_false_iff_not, true_implies, false_implies, forall_const, implies_true, List.map_cons, List.map_nil, Bool.true_eq_false, Bool.false_eq_true, List.getElem?_cons_zero, List.getElem?_cons_succ, Option.getD_some, Option.bind_some, Option.isSome_some, Option.map_some, Option.map_none, some?_some, List.cons_append, List.nil_append, List.append_nil, Int.toNat_natCast, nn0, Nat.zero_add, Nat.mul_one, and_true, true_and, true_or, or_true, List.mem_cons, List.not_mem_nil, forall_eq_or_imp, forall_eq, reduceCtorEq, obls_cons, obls_nil, readsOf, tmpL, opL, optL, guardL, and_imp, Option.some.injEq, forall_eq', hr, la, lb, jf, ja, jb, hfieldAddr, sp27, sp25, a1, b1, a2, b2, Bool.not_true, Bool.not_false, ne_eq, not_true_eq_false, not_false_eq_true, eqTT, eqFF, hab, hn']
          · exact callK_of (less_spec fun S5 f5 => ⟨congrArg _ hab, jf.trans f5, f5 _ _ ja, f5 _ _ jb⟩)
          skip
        · rintro S' ⟨jf, ja, jb⟩
          simp (config := { contextual := true, decide := true }) only [↓pre, post, reduceIte, guardTmp, packRes, if_true, if_false, ite_true, ite_false, decide_eq_true_eq, decide_true, decide_false, decide_eq_false_iff_not, true_implies, false_implies, forall_const, implies_true, List.map_cons, List.map_nil, Bool.true_eq_false, Bool.false_eq_true, List.getElem?_cons_zero, List.getElem?_cons_succ, Option.getD_some, Option.bind_some, Option.isSome_some, Option.map_some, Option.map_none, some?_some, List.cons_append, List.nil_append, List.append_nil, Int.toNat_natCast, nn0, Nat.zero_add, Nat.mul_one, and_true, true_and, true_or, or_true, List.mem_cons, List.not_mem_nil, forall_eq_or_imp, forall_eq]
          exact h _ jf
end Go.HL
