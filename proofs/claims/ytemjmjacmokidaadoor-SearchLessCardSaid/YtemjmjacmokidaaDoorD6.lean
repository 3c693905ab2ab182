import Derived.Test.YtemjmjacmokidaaDoorD5
set_option linter.all false
namespace Go.HL
open Go Go.Proofs
attribute [local congr] brK_congr moveK_congr boxK_congr condK_congr guardK_congr some?_congr someS_congr storeK_congr allocK_congr callK_congr fnK_congr codeK_congr convK_congr
set_option maxRecDepth 10000
variable {gl : Nat → List HV}
structure Trig where
  kind : Int
  name : List UInt8
  addr : List UInt8
  bits : Int
def Trig.hv (t : Trig) : List HV := [.int .i64 t.kind, .str (B t.name), .str (B t.addr), .int .i64 t.bits]
def lessF (a b : Trig) : Bool := if a.name ≠ b.name then Op.bytesLess a.name b.name else Op.bytesLess a.addr b.addr
theorem less_spec {S : HS} {a b : Trig} {Q : HV → HS → Prop} (h : ∀ S', Fr S S' → Q (.bool (lessF a b)) S') : Om Tryd.prog (cfg gl) (.call 6 [.agg a.hv, .agg b.hv] S Q) := by
  refine call_tmps [4] 22 Tryd.func6 rfl rfl rfl rfl ?_
  simp (config := { contextual := true, decide := true }) only [↓pre, post, reduceIte, guardTmp, packRes, if_true, if_false, ite_true, ite_false, decide_eq_true_eq, decide_true, decide_false, decide_eq_false_iff_not, true_implies, false_implies, forall_const, implies_true, List.map_cons, List.map_nil, Bool.true_eq_false, Bool.false_eq_true, List.getElem?_cons_zero, List.getElem?_cons_succ, Option.getD_some, Option.bind_some, Option.isSome_some, Option.map_some, Option.map_none, some?_some, List.cons_append, List.nil_append, List.append_nil, Int.toNat_natCast, nn0, Nat.zero_add, Nat.mul_one, and_true, true_and, true_or, or_true, List.mem_cons, List.not_mem_nil, forall_eq_or_imp, forall_eq, HV.cellOk, HV.cells, Trig.hv]
  intro l1 h1 l2 h2
  have ne : l1 ≠ l2 := ne_of_some_none (HS.set_same _ _ _) h2
  have g1 : (S.set l1 (.row a.hv)).set l2 (.row b.hv) l1 = some (.row a.hv) := by rw [HS.set_ne _ _ ne, HS.set_same]
  have g2 : (S.set l1 (.row a.hv)).set l2 (.row b.hv) l2 = some (.row b.hv) := HS.set_same _ _ _
  have hf : Fr S ((S.set l1 (.row a.hv)).set l2 (.row b.hv)) := (Fr.new _ h1).trans (Fr.new _ h2)
  have hq := h _ hf
  simp only [Trig.hv] at g1 g2 hq
  unfold lessF at hq
  by_cases c : a.name = b.name
  · have c' : (B a.name = B b.name) = True := eq_true (by rw [c])
    simp (config := { contextual := true, decide := true }) only [↓pre, post, reduceIte, guardTmp, packRes, if_true, if_false, ite_true, ite_false, decide_eq_true_eq, decide_true, decide_false, decide_eq_false_iff_not, true_implies, false_implies, forall_const, implies_true, List.map_cons, List.map_nil, Bool.true_eq_false, Bool.false_eq_true, List.getElem?_cons_zero, List.getElem?_cons_succ, Option.getD_some, Option.bind_some, Option.isSome_some, Option.map_some, Option.map_none, some?_some, List.cons_append, List.nil_append, List.append_nil, Int.toNat_natCast, nn0, Nat.zero_add, Nat.mul_one, and_true, true_and, true_or, or_true, List.mem_cons, List.not_mem_nil, forall_eq_or_imp, forall_eq, hfieldAddr, sp27, sp25, hload, hcells, ti23, ti9, g1, g2, c', bin_str_lss, B_list]
    simpa [c] using hq
  · have c' : (B a.name = B b.name) = False := eq_false (by rw [B_inj]; exact c)
    simp (config := { contextual := true, decide := true }) only [↓pre, post, reduceIte, guardTmp, packRes, if_true, if_false, ite_true, ite_false, decide_eq_true_eq, decide_true, decide_false, decide_eq_false_iff_not, true_implies, false_implies, forall_const, implies_true, List.map_cons, List.map_nil, Bool.true_eq_false, Bool.false_eq_true, List.getElem?_cons_zero, List.getElem?_cons_succ, Option.getD_some, Option.bind_some, Option.isSome_some, Option.map_some, Option.map_none, some?_some, List.cons_append, List.nil_append, List.append_nil, Int.toNat_natCast, nn0, Nat.zero_add, Nat.mul_one, and_true, true_and, true_or, or_true, List.mem_cons, List.not_mem_nil, forall_eq_or_imp, forall_eq, hfieldAddr, sp27, sp25, hload, hcells, ti23, ti9, g1, g2, c', bin_str_lss, B_list]
    simpa [c] using hq
end Go.HL
