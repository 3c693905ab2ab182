import Derived.Test.YtemjmjacmokidaaDoorD12
set_option linter.all false
namespace Go.HL
open Go Go.Proofs
attribute [local congr] brK_congr moveK_congr boxK_congr condK_congr guardK_congr some?_congr someS_congr storeK_congr allocK_congr callK_congr fnK_congr codeK_congr convK_congr
attribute [local congr] rangeK_congr hnext_congr
set_option maxRecDepth 10000
variable {gl : Nat → List HV}
theorem extMono : (cfg gl).extMono := fun _ _ _ _ _ _ h => h
def overK (kd : Int) : Prop := kd = 0 ∨ kd = 8 ∨ kd = 7 ∨ kd < 0 ∨ 8 < kd
instance (kd : Int) : Decidable (overK kd) := by unfold overK; exact inferInstance
/-- What a policy does instead. -/
def overV (a : Act) (x : HV) (kd : Int) : HV := if overK kd then .agg (a.hv x) else .agg ((⟨kd, [], false⟩ : Act).hv (.sl .full 0 []))
theorem over_spec {S : HS} {a : Act} {k : Tok} {z : Nat} {es : List (List HV)} {kd : Int} {Q : HV → HS → Prop} (h : ∀ S', Fr S S' → Q (overV a (.sl k z es) kd) S') : Om Tryd.prog (cfg gl) (.call 52 [.agg (a.hv (.sl k z es)), .int .i64 kd] S Q) := by
  refine call_res [.cell 4 48] 26 Tryd.func52 rfl rfl rfl rfl ?_
  simp (config := { contextual := true, decide := true }) only [↓pre, post, reduceIte, guardTmp, packRes, if_true, if_false, ite_true, ite_false, decide_eq_true_eq, decide_true, decide_false, decide_eq_false_iff_not, true_implies, false_implies, forall_const, implies_true, List.map_cons, List.map_nil, Bool.true_eq_false, Bool.false_eq_true, List.getElem?_cons_zero, List.getElem?_cons_succ, Option.getD_some, Option.bind_some, Option.isSome_some, Option.map_some, Option.map_none, some?_some, List.cons_append, List.nil_append, List.append_nil, Int.toNat_natCast, nn0, Nat.zero_add, Nat.mul_one, and_true, true_and, true_or, or_true, List.mem_cons, List.not_mem_nil, forall_eq_or_imp, forall_eq, HV.cellOk, HV.cells, ti48]
  intro l1 h1 l2 h2 hlt
  have ne : l1 ≠ l2 := ne_of_some_none (HS.set_same _ _ _) h2
  have g1 : ((S.set l1 (.row (a.hv (.sl k z es)))).set l2 (.row act0)) l1 = some (.row (a.hv (.sl k z es))) := by rw [HS.set_ne _ _ ne, HS.set_same]
  have g2 : ((S.set l1 (.row (a.hv (.sl k z es)))).set l2 (.row act0)) l2 = some (.row act0) := HS.set_same _ _ _
  have hf : Fr S ((S.set l1 (.row (a.hv (.sl k z es)))).set l2 (.row act0)) := (Fr.new _ h1).trans (Fr.new _ h2)
  have hn2 : S l2 = none := (Fr.new _ h1).none h2
  have hq := fun cs => h (((S.set l1 (.row (a.hv (.sl k z es)))).set l2 (.row act0)).set l2 (.row cs)) (hf.set _ hn2)
  have hst : ∀ cs : List HV, cs.length = 4 → hstore Tryd.prog 48 ((S.set l1 (.row (a.hv (.sl k z es)))).set l2 (.row act0)) (.ptr l2 0) (.agg cs) = some (((S.set l1 (.row (a.hv (.sl k z es)))).set l2 (.row act0)).set l2 (.row cs)) := fun cs hc => hstore_agg ti48 g2 rfl hc
  have hld : ∀ cs : List HV, cs.length = 4 → hload Tryd.prog 48 (((S.set l1 (.row (a.hv (.sl k z es)))).set l2 (.row act0)).set l2 (.row cs)) (.ptr l2 0) = some (.agg cs) := fun cs hc => hload_agg ti48 rfl (HS.set_same _ _ _) hc
  have hld1 : hload Tryd.prog 48 ((S.set l1 (.row (a.hv (.sl k z es)))).set l2 (.row act0)) (.ptr l1 0) = some (.agg (a.hv (.sl k z es))) := hload_agg ti48 rfl g1 rfl
  have hst1 := hst (a.hv (.sl k z es)) rfl
  have hld2 := hld (a.hv (.sl k z es)) rfl
  simp only [act0] at hst hld hld1 hq hst1 hld2
  by_cases c : overK kd
  · have hq' := hq (a.hv (.sl k z es))
    unfold overV at hq'
    rw [if_pos c] at hq'
    by_cases c0 : kd = 0
    · have c0' : (kd = 0) = True := eq_true c0
      simp (config := { contextual := true, decide := true }) only [↓pre, post, reduceIte, guardTmp, packRes, if_true, if_false, ite_true, ite_false, decide_eq_true_eq, decide_true, decide_false, decide_eq_false_iff_not, true_implies, false_implies, forall_const, implies_true, List.map_cons, List.map_nil, Bool.true_eq_false, Bool.false_eq_true, List.getElem?_cons_zero, List.getElem?_cons_succ, Option.getD_some, Option.bind_some, Option.isSome_some, Option.map_some, Option.map_none, some?_some, List.cons_append, List.nil_append, List.append_nil, Int.toNat_natCast, nn0, Nat.zero_add, Nat.mul_one, and_true, true_and, true_or, or_true, List.mem_cons, List.not_mem_nil, forall_eq_or_imp, forall_eq, c0', hld1, hst1, hld2]
      exact hq'
    have c0' : (kd = 0) = False := eq_false c0
    by_cases c8 : kd = 8
    · have c8' : (kd = 8) = True := eq_true c8
      simp (config := { contextual := true, decide := true }) only [↓pre, post, reduceIte, guardTmp, packRes, if_true, if_false, ite_true, ite_false, decide_eq_true_eq, decide_true, decide_false, decide_eq_false_iff_not, true_implies, false_implies, forall_const, implies_true, List.map_cons, List.map_nil, Bool.true_eq_false, Bool.false_eq_true, List.getElem?_cons_zero, List.getElem?_cons_succ, Option.getD_some, Option.bind_some, Option.isSome_some, Option.map_some, Option.map_none, some?_some, List.cons_append, List.nil_append, List.append_nil, Int.toNat_natCast, nn0, Nat.zero_add, Nat.mul_one, and_true, true_and, true_or, or_true, List.mem_cons, List.not_mem_nil, forall_eq_or_imp, forall_eq, c0', c8', hld1, hst1, hld2]
      exact hq'
    have c8' : (kd = 8) = False := eq_false c8
    by_cases c7 : kd = 7
    · have c7' : (kd = 7) = True := eq_true c7
      simp (config := { contextual := true, decide := true }) only [↓pre, post, reduceIte, guardTmp, packRes, if_true, if_false, ite_true, ite_false, decide_eq_true_eq, decide_true, decide_false, decide_eq_false_iff_not, true_implies, false_implies, forall_const, implies_true, List.map_cons, List.map_nil, Bool.true_eq_false, Bool.false_eq_true, List.getElem?_cons_zero, List.getElem?_cons_succ, Option.getD_some, Option.bind_some, Option.isSome_some, Option.map_some, Option.map_none, some?_some, List.cons_append, List.nil_append, List.append_nil, Int.toNat_natCast, nn0, Nat.zero_add, Nat.mul_one, and_true, true_and, true_or, or_true, List.mem_cons, List.not_mem_nil, forall_eq_or_imp, forall_eq, c0', c8', c7', hld1, hst1, hld2]
      exact hq'
    have c7' : (kd = 7) = False := eq_false c7
    by_cases cn : kd < 0
    · have cn' : (kd < 0) = True := eq_true cn
      simp (config := { contextual := true, decide := true }) only [↓pre, post, reduceIte, guardTmp, packRes, if_true, if_false, ite_true, ite_false, decide_eq_true_eq, decide_true, decide_false, decide_eq_false_iff_not, true_implies, false_implies, forall_const, implies_true, List.map_cons, List.map_nil, Bool.true_eq_false, Bool.false_eq_true, List.getElem?_cons_zero, List.getElem?_cons_succ, Option.getD_some, Option.bind_some, Option.isSome_some, Option.map_some, Option.map_none, some?_some, List.cons_append, List.nil_append, List.append_nil, Int.toNat_natCast, nn0, Nat.zero_add, Nat.mul_one, and_true, true_and, true_or, or_true, List.mem_cons, List.not_mem_nil, forall_eq_or_imp, forall_eq, c0', c8', c7', cn', hld1, hst1, hld2]
      exact hq'
    have cn' : (kd < 0) = False := eq_false cn
    have cg' : (8 < kd) = True := eq_true (by unfold overK at c; omega)
    simp (config := { contextual := true, decide := true }) only [↓pre, post, reduceIte, guardTmp, packRes, if_true, if_false, ite_true, ite_false, decide_eq_true_eq, decide_true, decide_false, decide_eq_false_iff_not, true_implies, false_implies, forall_const, implies_true, List.map_cons, List.map_nil, Bool.true_eq_false, Bool.false_eq_true, List.getElem?_cons_zero, List.getElem?_cons_succ, Option.getD_some, Option.bind_some, Option.isSome_some, Option.map_some, Option.map_none, some?_some, List.cons_append, List.nil_append, List.append_nil, Int.toNat_natCast, nn0, Nat.zero_add, Nat.mul_one, and_true, true_and, true_or, or_true, List.mem_cons, List.not_mem_nil, forall_eq_or_imp, forall_eq, c0', c8', c7', cn', cg', hld1, hst1, hld2]
    exact hq'
  · have hq' := hq [.int .i64 kd, .v (.string ⟨#[]⟩), .v (.bool false), .sl .full 0 []]
    unfold overV at hq'
    rw [if_neg c] at hq'
    unfold overK at c
    have c0' : (kd = 0) = False := eq_false (by omega)
    have c8' : (kd = 8) = False := eq_false (by omega)
    have c7' : (kd = 7) = False := eq_false (by omega)
    have cn' : (kd < 0) = False := eq_false (by omega)
    have cg' : (8 < kd) = False := eq_false (by omega)
    simp (config := { contextual := true, decide := true }) only [↓pre, post, reduceIte, guardTmp, packRes, if_true, if_false, ite_true, ite_false, decide_eq_true_eq, decide_true, decide_false, decide_eq_false_iff_not, true_implies, false_implies, forall_const, implies_true, List.map_cons, List.map_nil, Bool.true_eq_false, Bool.false_eq_true, List.getElem?_cons_zero, List.getElem?_cons_succ, Option.getD_some, Option.bind_some, Option.isSome_some, Option.map_some, Option.map_none, some?_some, List.cons_append, List.nil_append, List.append_nil, Int.toNat_natCast, nn0, Nat.zero_add, Nat.mul_one, and_true, true_and, true_or, or_true, List.mem_cons, List.not_mem_nil, forall_eq_or_imp, forall_eq, c0', c8', c7', cn', cg', hbuild, hfill, splice, List.take_zero, List.take_succ_cons, List.drop_zero, List.drop_succ_cons, List.take_nil, List.drop_nil, HV.cellOk, HV.cells, List.length_cons, List.length_nil, ti48, Tryd.underlying48, sp48, hst, hld]
    exact hq'
end Go.HL
