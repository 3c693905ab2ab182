import Derived.Test.YtemjmjacmokidaaDoorD10
set_option linter.all false
namespace Go.HL
open Go Go.Proofs
attribute [local congr] brK_congr moveK_congr boxK_congr condK_congr guardK_congr some?_congr someS_congr storeK_congr allocK_congr callK_congr fnK_congr codeK_congr convK_congr
attribute [local congr] rangeK_congr hnext_congr
set_option maxRecDepth 10000
variable {gl : Nat → List HV}
def act0 : List HV := [.v (.int .i64 0), .v (.string ⟨#[]⟩), .v (.bool false), .sl .full 0 []]
theorem strs_inj : ∀ {a b : List (List UInt8)}, strs a = strs b → a = b
  | [], [], _ => rfl
  | [], _ :: _, h => by simp [strs] at h
  | _ :: _, [], h => by simp [strs] at h
  | x :: a, y :: b, h => by
    simp only [strs, List.map_cons, List.cons.injEq, and_true, HV.v.injEq, Value.string.injEq] at h
    rw [B_inj.1 h.1, strs_inj (a := a) (b := b) h.2]
theorem target_spec {S : HS} {n : List UInt8} {Q : HV → HS → Prop} (h : ∀ S', Fr S S' → Q (.agg ((targetF n).hv (.sl .full 0 []))) S') : Om Tryd.prog (cfg gl) (.call 66 [.str (B n)] S Q) := by
  refine call_res [.cell 2 48] 45 Tryd.func66 rfl rfl rfl rfl ?_
  simp (config := { contextual := true, decide := true }) only [↓pre, post, reduceIte, guardTmp, packRes, if_true, if_false, ite_true, ite_false, decide_eq_true_eq, decide_true, decide_false, decide_eq_false_iff_not, true_implies, false_implies, forall_const, implies_true, List.map_cons, List.map_nil, Bool.true_eq_false, Bool.false_eq_true, List.getElem?_cons_zero, List.getElem?_cons_succ, Option.getD_some, Option.bind_some, Option.isSome_some, Option.map_some, Option.map_none, some?_some, List.cons_append, List.nil_append, List.append_nil, Int.toNat_natCast, nn0, Nat.zero_add, Nat.mul_one, and_true, true_and, true_or, or_true, List.mem_cons, List.not_mem_nil, forall_eq_or_imp, forall_eq, ti48]
  intro l hn hlt
  refine callK_of (words_spec fun m S2 h2 hm0 hm => ?_)
  simp (config := { contextual := true, decide := true }) only [↓pre, post, reduceIte, guardTmp, packRes, if_true, if_false, ite_true, ite_false, decide_eq_true_eq, decide_true, decide_false, decide_eq_false_iff_not, true_implies, false_implies, forall_const, implies_true, List.map_cons, List.map_nil, Bool.true_eq_false, Bool.false_eq_true, List.getElem?_cons_zero, List.getElem?_cons_succ, Option.getD_some, Option.bind_some, Option.isSome_some, Option.map_some, Option.map_none, some?_some, List.cons_append, List.nil_append, List.append_nil, Int.toNat_natCast, nn0, Nat.zero_add, Nat.mul_one, and_true, true_and, true_or, or_true, List.mem_cons, List.not_mem_nil, forall_eq_or_imp, forall_eq, ↓opK_range]
  refine rangeK_mp mt158 hm fun r hr => ?_
  simp (config := { contextual := true, decide := true }) only [↓pre, post, reduceIte, guardTmp, packRes, if_true, if_false, ite_true, ite_false, decide_eq_true_eq, decide_true, decide_false, decide_eq_false_iff_not, true_implies, false_implies, forall_const, implies_true, List.map_cons, List.map_nil, Bool.true_eq_false, Bool.false_eq_true, List.getElem?_cons_zero, List.getElem?_cons_succ, Option.getD_some, Option.bind_some, Option.isSome_some, Option.map_some, Option.map_none, some?_some, List.cons_append, List.nil_append, List.append_nil, Int.toNat_natCast, nn0, Nat.zero_add, Nat.mul_one, and_true, true_and, true_or, or_true, List.mem_cons, List.not_mem_nil, forall_eq_or_imp, forall_eq]
  have hmr : m ≠ r := ne_of_some_none hm hr
  have g2 := h2 _ _ (HS.set_same _ _ _)
  have hlr : l ≠ r := ne_of_some_none g2 hr
  have f2 : Fr S S2 := (Fr.new _ hn).trans h2
  refine loopK (fun env S' => Fr S2 S' ∧ env 10 = .ptr r 0 ∧ env 0 = .str (B n) ∧ env 2 = .ptr l 0 ∧ ∃ seen, S' r = some (.iter m 5 seen 5) ∧ ∀ e ∈ wordEs, e.born ∈ seen → ∀ k ls, e = wordE e.born k ls → nm ls ≠ n)
    (fun _ S' => match S' r with | some (.iter _ _ seen _) => unseen wordEs seen | _ => 0) ?_ ?_
  · simp (config := { contextual := true, decide := true }) only [↓pre, post, reduceIte, guardTmp, packRes, if_true, if_false, ite_true, ite_false, decide_eq_true_eq, decide_true, decide_false, decide_eq_false_iff_not, true_implies, false_implies, forall_const, implies_true, List.map_cons, List.map_nil, Bool.true_eq_false, Bool.false_eq_true, List.getElem?_cons_zero, List.getElem?_cons_succ, Option.getD_some, Option.bind_some, Option.isSome_some, Option.map_some, Option.map_none, some?_some, List.cons_append, List.nil_append, List.append_nil, Int.toNat_natCast, nn0, Nat.zero_add, Nat.mul_one, and_true, true_and, true_or, or_true, List.mem_cons, List.not_mem_nil, forall_eq_or_imp, forall_eq]
    exact ⟨Fr.new _ hr, [], rfl, fun e _ h => by cases h⟩
  · rintro env S' ⟨hfr, e10, e0, e2, seen, hs, hno⟩
    simp (config := { contextual := true, decide := true }) only [↓pre, post, reduceIte, guardTmp, packRes, if_true, if_false, ite_true, ite_false, decide_eq_true_eq, decide_true, decide_false, decide_eq_false_iff_not, true_implies, false_implies, forall_const, implies_true, List.map_cons, List.map_nil, Bool.true_eq_false, Bool.false_eq_true, List.getElem?_cons_zero, List.getElem?_cons_succ, Option.getD_some, Option.bind_some, Option.isSome_some, Option.map_some, Option.map_none, some?_some, List.cons_append, List.nil_append, List.append_nil, Int.toNat_natCast, nn0, Nat.zero_add, Nat.mul_one, and_true, true_and, true_or, or_true, List.mem_cons, List.not_mem_nil, forall_eq_or_imp, forall_eq, ↓opK_next, e10]
    refine hnext_static hs (hfr _ _ hm) word_born (fun hall => ?_) (fun e he hns => ?_)
    · have htk : targetKind n = none := target_none fun e he k ls hk => hno e he (hall e he) k ls hk
      simp (config := { contextual := true, decide := true }) only [↓pre, post, reduceIte, guardTmp, packRes, if_true, if_false, ite_true, ite_false, decide_eq_true_eq, decide_true, decide_false, decide_eq_false_iff_not, true_implies, false_implies, forall_const, implies_true, List.map_cons, List.map_nil, Bool.true_eq_false, Bool.false_eq_true, List.getElem?_cons_zero, List.getElem?_cons_succ, Option.getD_some, Option.bind_some, Option.isSome_some, Option.map_some, Option.map_none, some?_some, List.cons_append, List.nil_append, List.append_nil, Int.toNat_natCast, nn0, Nat.zero_add, Nat.mul_one, and_true, true_and, true_or, or_true, List.mem_cons, List.not_mem_nil, forall_eq_or_imp, forall_eq, e10, e0, e2, hbuildSlice, hfill, zeros, Nat.zero_mul, Nat.one_mul, splice, chunks, List.replicate_succ, List.replicate_zero, List.flatten_cons, List.flatten_nil, List.take_zero, List.take_succ_cons, List.drop_zero, List.drop_succ_cons, List.take_nil, List.drop_nil, HV.cellOk, HV.cells, List.length_cons, List.length_nil, Tryd.underlying62, ti9, show (cfg gl).mode "action.go:21" = false from rfl]
      refine callK_of (make_spec (ls := [[42]]) (.inl rfl) (by simp) fun S3 h3 => ?_)
      have hmk : nameRes (makeOk [[42]] []) = .tup [.str (B (nm [[42]])), .bool true] := by rfl
      have g3 := h3 _ _ (hfr _ _ g2)
      have hq := fun cs => h (S3.set l (.row cs)) (((f2.trans hfr).trans h3).set _ hn)
      unfold targetF at hq
      rw [htk] at hq
      simp only at hq
      have hst : ∀ cs : List HV, cs.length = 4 → hstore Tryd.prog 48 S3 (.ptr l 0) (.agg cs) = some (S3.set l (.row cs)) := fun cs hc => hstore_agg ti48 g3 rfl hc
      have hld : ∀ cs : List HV, cs.length = 4 → hload Tryd.prog 48 (S3.set l (.row cs)) (.ptr l 0) = some (.agg cs) := fun cs hc => hload_agg ti48 rfl (HS.set_same _ _ _) hc
      rw [hmk]
      by_cases c1 : 2 < n.length
      · have c1' : (2 < (n.length : Int)) = True := eq_true (by omega)
        have hsl : sliceV Tryd.prog 23 (.v (.string (B n))) none (some (.v (.int .i64 2))) none = some (.v (.string (B (n.take 2)))) := str_to Tryd.underlying23 (by omega) (by omega)
        have hsl2 : sliceV Tryd.prog 23 (.v (.string (B n))) (some (.v (.int .i64 2))) none none = some (.v (.string (B (n.drop 2)))) := str_from Tryd.underlying23 (by omega) (by omega)
        by_cases c2 : n.take 2 = nm [[42]]
        · have c2' : (B (n.take 2) = B (nm [[42]])) = True := eq_true (by rw [c2])
          rw [if_pos ⟨c1, c2⟩] at hq
          simp (config := { contextual := true, decide := true }) only [↓pre, post, reduceIte, guardTmp, packRes, if_true, if_false, ite_true, ite_false, decide_eq_true_eq, decide_true, decide_false, decide_eq_false_iff_not, true_implies, false_implies, forall_const, implies_true, List.map_cons, List.map_nil, Bool.true_eq_false, Bool.false_eq_true, List.getElem?_cons_zero, List.getElem?_cons_succ, Option.getD_some, Option.bind_some, Option.isSome_some, Option.map_some, Option.map_none, some?_some, List.cons_append, List.nil_append, List.append_nil, Int.toNat_natCast, nn0, Nat.zero_add, Nat.mul_one, and_true, true_and, true_or, or_true, List.mem_cons, List.not_mem_nil, forall_eq_or_imp, forall_eq, e10, e0, e2, lenFits, Tryd.underlying23, hlen, B_size, c1', hsl, hsl2, c2', hbuild, hfill, splice, List.take_zero, List.take_succ_cons, List.drop_zero, List.drop_succ_cons, List.take_nil, List.drop_nil, HV.cellOk, HV.cells, List.length_cons, List.length_nil, ti48, Tryd.underlying48, sp48, hst, hld]
          exact hq _
        · have c2' : (B (n.take 2) = B (nm [[42]])) = False := eq_false (by rw [B_inj]; exact c2)
          rw [if_neg (fun h => c2 h.2)] at hq
          simp (config := { contextual := true, decide := true }) only [↓pre, post, reduceIte, guardTmp, packRes, if_true, if_false, ite_true, ite_false, decide_eq_true_eq, decide_true, decide_false, decide_eq_false_iff_not, true_implies, false_implies, forall_const, implies_true, List.map_cons, List.map_nil, Bool.true_eq_false, Bool.false_eq_true, List.getElem?_cons_zero, List.getElem?_cons_succ, Option.getD_some, Option.bind_some, Option.isSome_some, Option.map_some, Option.map_none, some?_some, List.cons_append, List.nil_append, List.append_nil, Int.toNat_natCast, nn0, Nat.zero_add, Nat.mul_one, and_true, true_and, true_or, or_true, List.mem_cons, List.not_mem_nil, forall_eq_or_imp, forall_eq, e10, e0, e2, lenFits, Tryd.underlying23, hlen, B_size, c1', hsl, hsl2, c2', hbuild, hfill, splice, List.take_zero, List.take_succ_cons, List.drop_zero, List.drop_succ_cons, List.take_nil, List.drop_nil, HV.cellOk, HV.cells, List.length_cons, List.length_nil, ti48, Tryd.underlying48, sp48, hst, hld]
          exact hq _
      · have c1' : (2 < (n.length : Int)) = False := eq_false (by omega)
        rw [if_neg (fun h => c1 h.1)] at hq
        simp (config := { contextual := true, decide := true }) only [↓pre, post, reduceIte, guardTmp, packRes, if_true, if_false, ite_true, ite_false, decide_eq_true_eq, decide_true, decide_false, decide_eq_false_iff_not, true_implies, false_implies, forall_const, implies_true, List.map_cons, List.map_nil, Bool.true_eq_false, Bool.false_eq_true, List.getElem?_cons_zero, List.getElem?_cons_succ, Option.getD_some, Option.bind_some, Option.isSome_some, Option.map_some, Option.map_none, some?_some, List.cons_append, List.nil_append, List.append_nil, Int.toNat_natCast, nn0, Nat.zero_add, Nat.mul_one, and_true, true_and, true_or, or_true, List.mem_cons, List.not_mem_nil, forall_eq_or_imp, forall_eq, e10, e0, e2, lenFits, Tryd.underlying23, hlen, B_size, c1', hbuild, hfill, splice, List.take_zero, List.take_succ_cons, List.drop_zero, List.drop_succ_cons, List.take_nil, List.drop_nil, HV.cellOk, HV.cells, List.length_cons, List.length_nil, ti48, Tryd.underlying48, sp48, hst, hld]
        exact hq _
    · obtain ⟨k, ls, hek, hl1, hmo, htk⟩ := word_name e he
      have hen := hentry_static (S := S'.set r (.iter m 5 (seen ++ [e.born]) 5)) (HS.set_same _ _ _) (by rw [HS.set_ne _ _ hmr]; exact hfr _ _ hm) (word_find e he)
      have hkey : e.key = .int .i64 k := by rw [hek]; rfl
      have hval : e.val = .sl .full 1 (strs ls) := by rw [hek]; rfl
      rw [hkey, hval] at hen ⊢
      simp (config := { contextual := true, decide := true }) only [↓pre, post, reduceIte, guardTmp, packRes, if_true, if_false, ite_true, ite_false, decide_eq_true_eq, decide_true, decide_false, decide_eq_false_iff_not, true_implies, false_implies, forall_const, implies_true, List.map_cons, List.map_nil, Bool.true_eq_false, Bool.false_eq_true, List.getElem?_cons_zero, List.getElem?_cons_succ, Option.getD_some, Option.bind_some, Option.isSome_some, Option.map_some, Option.map_none, some?_some, List.cons_append, List.nil_append, List.append_nil, Int.toNat_natCast, nn0, Nat.zero_add, Nat.mul_one, and_true, true_and, true_or, or_true, List.mem_cons, List.not_mem_nil, forall_eq_or_imp, forall_eq, ↓opK_entry, e10, e0, e2, hen]
      refine callK_of (make_spec (ls := ls) (.inl rfl) (by omega) fun S3 h3 => ?_)
      obtain ⟨w, hw⟩ := Option.isSome_iff_exists.1 hmo
      have hnm : nm ls = w := by simp [nm, hw]
      have g3 := h3 _ _ (by rw [HS.set_ne _ _ hlr]; exact hfr _ _ g2)
      have hfr3 : Fr S2 S3 := (hfr.set _ hr).trans h3
      by_cases c : w = n
      · have c' : (B w = B n) = True := eq_true (by rw [c])
        have hq := fun cs => h (S3.set l (.row cs)) ((f2.trans hfr3).set _ hn)
        unfold targetF at hq
        rw [← c, ← hnm, htk] at hq
        simp only at hq
        have hst : ∀ cs : List HV, cs.length = 4 → hstore Tryd.prog 48 S3 (.ptr l 0) (.agg cs) = some (S3.set l (.row cs)) := fun cs hc => hstore_agg ti48 g3 rfl hc
        have hld : ∀ cs : List HV, cs.length = 4 → hload Tryd.prog 48 (S3.set l (.row cs)) (.ptr l 0) = some (.agg cs) := fun cs hc => hload_agg ti48 rfl (HS.set_same _ _ _) hc
        simp (config := { contextual := true, decide := true }) only [↓pre, post, reduceIte, guardTmp, packRes, if_true, if_false, ite_true, ite_false, decide_eq_true_eq, decide_true, decide_false, decide_eq_false_iff_not, true_implies, false_implies, forall_const, implies_true, List.map_cons, List.map_nil, Bool.true_eq_false, Bool.false_eq_true, List.getElem?_cons_zero, List.getElem?_cons_succ, Option.getD_some, Option.bind_some, Option.isSome_some, Option.map_some, Option.map_none, some?_some, List.cons_append, List.nil_append, List.append_nil, Int.toNat_natCast, nn0, Nat.zero_add, Nat.mul_one, and_true, true_and, true_or, or_true, List.mem_cons, List.not_mem_nil, forall_eq_or_imp, forall_eq, nameRes, hw, e10, e0, e2, c', hbuild, hfill, splice, List.take_zero, List.take_succ_cons, List.drop_zero, List.drop_succ_cons, List.take_nil, List.drop_nil, HV.cellOk, HV.cells, List.length_cons, List.length_nil, ti48, Tryd.underlying48, sp48, hst, hld]
        exact hq _
      · have c' : (B w = B n) = False := eq_false (by rw [B_inj]; exact c)
        simp (config := { contextual := true, decide := true }) only [↓pre, post, reduceIte, guardTmp, packRes, if_true, if_false, ite_true, ite_false, decide_eq_true_eq, decide_true, decide_false, decide_eq_false_iff_not, true_implies, false_implies, forall_const, implies_true, List.map_cons, List.map_nil, Bool.true_eq_false, Bool.false_eq_true, List.getElem?_cons_zero, List.getElem?_cons_succ, Option.getD_some, Option.bind_some, Option.isSome_some, Option.map_some, Option.map_none, some?_some, List.cons_append, List.nil_append, List.append_nil, Int.toNat_natCast, nn0, Nat.zero_add, Nat.mul_one, and_true, true_and, true_or, or_true, List.mem_cons, List.not_mem_nil, forall_eq_or_imp, forall_eq, nameRes, hw, e10, e0, e2, c']
        have hs3 := h3 _ _ (HS.set_same _ _ _)
        rw [hs3, hs]
        refine ⟨⟨hfr3, _, rfl, fun e' he' hb k' ls' hk' => ?_⟩, unseen_lt he hns⟩
        rw [List.mem_append, List.mem_singleton] at hb
        rcases hb with hb | hb
        · exact hno e' he' hb k' ls' hk'
        · have h1 := word_find e he
          have h2 := word_find e' he'
          rw [hb, h1] at h2
          obtain rfl := Option.some.inj h2
          rw [hek] at hk'
          simp only [wordE, HEntry.mk.injEq, HV.sl.injEq, true_and] at hk'
          have hls : strs ls = strs ls' := hk'.2.1
          have : ls = ls' := strs_inj hls
          rw [← this, hnm]
          exact c
end Go.HL
