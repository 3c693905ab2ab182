import Derived.Test.YtemjmjacmokidaaDoorD14
set_option linter.all false
namespace Go.HL
open Go Go.Proofs
attribute [local congr] brK_congr moveK_congr boxK_congr condK_congr guardK_congr some?_congr someS_congr storeK_congr allocK_congr callK_congr fnK_congr codeK_congr convK_congr
attribute [local congr] rangeK_congr hnext_congr
set_option maxRecDepth 10000
set_option maxHeartbeats 1000000
variable {gl : Nat → List HV}
/-- A query's facts. -/
def factsHV (client name : List UInt8) (a s h : HV) : List HV := [.str (B client), .str (B name), a, s, h]
theorem matches_qname {S : HS} {t : Trig} {cl n : List UInt8} {tk1 tk2 tk3 : Tok} {z1 z2 z3 : Nat} {e1 e2 e3 : List (List HV)} {Q : HV → HS → Prop} (hk : t.kind = 1) (h : ∀ S', Fr S S' → Q (.bool (decide (n = t.name))) S') :
    Om Tryd.prog (cfg gl) (.call 34 [.agg t.hv, .agg (factsHV cl n (.sl tk1 z1 e1) (.sl tk2 z2 e2) (.sl tk3 z3 e3))] S Q) := by
  refine call_tmps [4] 69 Tryd.func34 rfl rfl rfl rfl ?_
  simp (config := { contextual := true, decide := true }) only [↓pre, post, reduceIte, guardTmp, packRes, if_true, if_false, ite_true, ite_false, decide_eq_true_eq, decide_true, decide_false, decide_eq_false_iff_not, true_implies, false_implies, forall_const, implies_true, List.map_cons, List.map_nil, Bool.true_eq_false, Bool.false_eq_true, List.getElem?_cons_zero, List.getElem?_cons_succ, Option.getD_some, Option.bind_some, Option.isSome_some, Option.map_some, Option.map_none, some?_some, List.cons_append, List.nil_append, List.append_nil, Int.toNat_natCast, nn0, Nat.zero_add, Nat.mul_one, and_true, true_and, true_or, or_true, List.mem_cons, List.not_mem_nil, forall_eq_or_imp, forall_eq, HV.cellOk, HV.cells]
  intro l1 h1 l2 h2
  generalize hS1 : S.set l1 _ = S1 at *
  have g1 : S1 l1 = some (.row t.hv) := by rw [← hS1]; exact HS.set_same _ _ _
  have f1 : Fr S S1 := by rw [← hS1]; exact Fr.new _ h1
  generalize hS2 : S1.set l2 _ = S2 at *
  have g2 : S2 l2 = some (.row (factsHV cl n (.sl tk1 z1 e1) (.sl tk2 z2 e2) (.sl tk3 z3 e3))) := by rw [← hS2]; exact HS.set_same _ _ _
  have f2 : Fr S1 S2 := by rw [← hS2]; exact Fr.new _ h2
  have g1' := f2 _ _ g1
  simp only [Trig.hv, hk, factsHV] at g1' g2
  have k0 : ((1 : Int) = 0) = False := by simp
  have k1 : ((1 : Int) = 1) = True := by simp
  have hq := h S2 (f1.trans f2)
  have hB : decide (B n = B t.name) = decide (n = t.name) := by simp [B_inj]
  simp (config := { contextual := true, decide := true }) only [↓pre, post, reduceIte, guardTmp, packRes, if_true, if_false, ite_true, ite_false, decide_eq_true_eq, decide_true, decide_false, decide_eq_false_iff_not, true_implies, false_implies, forall_const, implies_true, List.map_cons, List.map_nil, Bool.true_eq_false, Bool.false_eq_true, List.getElem?_cons_zero, List.getElem?_cons_succ, Option.getD_some, Option.bind_some, Option.isSome_some, Option.map_some, Option.map_none, some?_some, List.cons_append, List.nil_append, List.append_nil, Int.toNat_natCast, nn0, Nat.zero_add, Nat.mul_one, and_true, true_and, true_or, or_true, List.mem_cons, List.not_mem_nil, forall_eq_or_imp, forall_eq, hfieldAddr, sp27, sp65, hload, hcells, ti22, ti23, g1', g2, k0, hB]
  exact hq
theorem better_first {S : HS} {k : Int} {t v : List HV} {Q : HV → HS → Prop} (h : ∀ S', Fr S S' → Q (.bool true) S') :
    Om Tryd.prog (cfg gl) (.call 35 [.int .i64 k, .agg t, .agg v, .bool false] S Q) := by
  refine call_tmps [8] 31 Tryd.func35 rfl rfl rfl rfl ?_
  simp (config := { contextual := true, decide := true }) only [↓pre, post, reduceIte, guardTmp, packRes, if_true, if_false, ite_true, ite_false, decide_eq_true_eq, decide_true, decide_false, decide_eq_false_iff_not, true_implies, false_implies, forall_const, implies_true, List.map_cons, List.map_nil, Bool.true_eq_false, Bool.false_eq_true, List.getElem?_cons_zero, List.getElem?_cons_succ, Option.getD_some, Option.bind_some, Option.isSome_some, Option.map_some, Option.map_none, some?_some, List.cons_append, List.nil_append, List.append_nil, Int.toNat_natCast, nn0, Nat.zero_add, Nat.mul_one, and_true, true_and, true_or, or_true, List.mem_cons, List.not_mem_nil, forall_eq_or_imp, forall_eq, HV.cellOk, HV.cells, Bool.not_false]
  intro l1 h1 l2 h2
  exact h _ ((Fr.new _ h1).trans (Fr.new _ h2))
end Go.HL
