import Derived.Test.YtemjmjacmokidaaDoorD8
set_option linter.all false
namespace Go.HL
open Go Go.Proofs
attribute [local congr] brK_congr moveK_congr boxK_congr condK_congr guardK_congr some?_congr someS_congr storeK_congr allocK_congr callK_congr fnK_congr codeK_congr convK_congr
attribute [local congr] rangeK_congr hnext_congr
set_option maxRecDepth 10000
variable {gl : Nat → List HV}
structure Rec where
  name : List UInt8
  type : Int
  ttl : Int
  data : List UInt8
def Rec.hv (r : Rec) : List HV := [.str (B r.name), .int .u16 r.type, .int .u32 r.ttl, .str (B r.data)]
def recs (rs : List Rec) : List (List HV) := rs.map Rec.hv
theorem at_spec {S : HS} {rs : List Rec} {n : List UInt8} {tk : Tok} {z : Nat} {Q : HV → HS → Prop} (hz : z = 4 ∨ rs = []) (hl : rs.length < 1000000) (h : ∀ x S', Fr S S' → Sl S S' 57 4 x (recs (rs.filter fun r => r.name = n)) → Q x S') :
    Om Tryd.prog (cfg gl) (.call 51 [.sl tk z (recs rs), .str (B n)] S Q) := by
  refine call_tmps [4] 24 Tryd.func51 rfl rfl rfl rfl ?_
  have hln : (recs rs).length = rs.length := by simp [recs]
  simp (config := { contextual := true, decide := true }) only [↓pre, post, reduceIte, guardTmp, packRes, if_true, if_false, ite_true, ite_false, decide_eq_true_eq, decide_true, decide_false, decide_eq_false_iff_not, true_implies, false_implies, forall_const, implies_true, List.map_cons, List.map_nil, Bool.true_eq_false, Bool.false_eq_true, List.getElem?_cons_zero, List.getElem?_cons_succ, Option.getD_some, Option.bind_some, Option.isSome_some, Option.map_some, Option.map_none, some?_some, List.cons_append, List.nil_append, List.append_nil, Int.toNat_natCast, nn0, Nat.zero_add, Nat.mul_one, and_true, true_and, true_or, or_true, List.mem_cons, List.not_mem_nil, forall_eq_or_imp, forall_eq, lenFits, Tryd.underlying58, hlen, hln]
  refine loopK (fun env S' => Fr S S' ∧ env 8 = .sl tk z (recs rs) ∧ env 9 = .int .i64 rs.length ∧ env 1 = .str (B n) ∧ ∃ k : Nat, k ≤ rs.length ∧ env 10 = .int .i64 k ∧ Sl S S' 57 4 (env 5) (recs ((rs.take k).filter fun r => r.name = n)))
    (fun env _ => match env 10 with | .v (.int _ k) => rs.length - k.toNat | _ => 0) ?_ ?_
  · simp (config := { contextual := true, decide := true }) only [↓pre, post, reduceIte, guardTmp, packRes, if_true, if_false, ite_true, ite_false, decide_eq_true_eq, decide_true, decide_false, decide_eq_false_iff_not, true_implies, false_implies, forall_const, implies_true, List.map_cons, List.map_nil, Bool.true_eq_false, Bool.false_eq_true, List.getElem?_cons_zero, List.getElem?_cons_succ, Option.getD_some, Option.bind_some, Option.isSome_some, Option.map_some, Option.map_none, some?_some, List.cons_append, List.nil_append, List.append_nil, Int.toNat_natCast, nn0, Nat.zero_add, Nat.mul_one, and_true, true_and, true_or, or_true, List.mem_cons, List.not_mem_nil, forall_eq_or_imp, forall_eq]
    exact ⟨.refl S, 0, Nat.zero_le _, rfl, .nil⟩
  · rintro env S' ⟨hfr, e8, e9, e1, k, hk, e10, hx⟩
    by_cases hlt : k < rs.length
    · have hlt' : ((k : Int) < (rs.length : Int)) = True := eq_true (by omega)
      have hz4 : z = 4 := by rcases hz with h | h; exact h; rw [h] at hlt; simp at hlt
      have hg : (recs rs)[k]? = some rs[k].hv := by simp [recs, hlt]
      have htk : rs.take (k + 1) = rs.take k ++ [rs[k]] := List.take_succ_eq_append_getElem hlt
      simp only [Rec.hv] at hg
      simp (config := { contextual := true, decide := true }) only [↓pre, post, reduceIte, guardTmp, packRes, if_true, if_false, ite_true, ite_false, decide_eq_true_eq, decide_true, decide_false, decide_eq_false_iff_not, true_implies, false_implies, forall_const, implies_true, List.map_cons, List.map_nil, Bool.true_eq_false, Bool.false_eq_true, List.getElem?_cons_zero, List.getElem?_cons_succ, Option.getD_some, Option.bind_some, Option.isSome_some, Option.map_some, Option.map_none, some?_some, List.cons_append, List.nil_append, List.append_nil, Int.toNat_natCast, nn0, Nat.zero_add, Nat.mul_one, and_true, true_and, true_or, or_true, List.mem_cons, List.not_mem_nil, forall_eq_or_imp, forall_eq, e8, e9, e1, e10, hlt', hindexAddr, hint, Tryd.underlying58, ti57, hz4, hg, hload, hcells, hbuild, hfill, splice, List.take_zero, List.take_succ_cons, List.drop_zero, List.drop_succ_cons, List.take_nil, List.drop_nil, HV.cellOk, HV.cells, List.length_cons, List.length_nil]
      intro l hn hty
      have hst := hstore_agg (P := Tryd.prog) (T := 57) (cs := rs[k].hv) ti57 (HS.set_same S' l (.row [.v (.string ⟨#[]⟩), .v (.int .u16 0), .v (.int .u32 0), .v (.string ⟨#[]⟩)])) rfl rfl
      simp only [Rec.hv] at hst
      simp (config := { contextual := true, decide := true }) only [↓pre, post, reduceIte, guardTmp, packRes, if_true, if_false, ite_true, ite_false, decide_eq_true_eq, decide_true, decide_false, decide_eq_false_iff_not, true_implies, false_implies, forall_const, implies_true, List.map_cons, List.map_nil, Bool.true_eq_false, Bool.false_eq_true, List.getElem?_cons_zero, List.getElem?_cons_succ, Option.getD_some, Option.bind_some, Option.isSome_some, Option.map_some, Option.map_none, some?_some, List.cons_append, List.nil_append, List.append_nil, Int.toNat_natCast, nn0, Nat.zero_add, Nat.mul_one, and_true, true_and, true_or, or_true, List.mem_cons, List.not_mem_nil, forall_eq_or_imp, forall_eq, e8, e9, e1, e10, hlt', hst]
      have hfr2 : Fr S' ((S'.set l (.row [.v (.string ⟨#[]⟩), .v (.int .u16 0), .v (.int .u32 0), .v (.string ⟨#[]⟩)])).set l (.row [.str (B rs[k].name), .int .u16 rs[k].type, .int .u32 rs[k].ttl, .str (B rs[k].data)])) := (Fr.new _ hn).set _ hn
      by_cases c : rs[k].name = n
      · have c' : (B rs[k].name = B n) = True := eq_true (by rw [c])
        simp (config := { contextual := true, decide := true }) only [↓pre, post, reduceIte, guardTmp, packRes, if_true, if_false, ite_true, ite_false, decide_eq_true_eq, decide_true, decide_false, decide_eq_false_iff_not, true_implies, false_implies, forall_const, implies_true, List.map_cons, List.map_nil, Bool.true_eq_false, Bool.false_eq_true, List.getElem?_cons_zero, List.getElem?_cons_succ, Option.getD_some, Option.bind_some, Option.isSome_some, Option.map_some, Option.map_none, some?_some, List.cons_append, List.nil_append, List.append_nil, Int.toNat_natCast, nn0, Nat.zero_add, Nat.mul_one, and_true, true_and, true_or, or_true, List.mem_cons, List.not_mem_nil, forall_eq_or_imp, forall_eq, e8, e9, e1, e10, hfieldAddr, sp57, hload, hcells, ti23, ti57, c', hbuildSlice, hfill, zeros, Nat.zero_mul, Nat.one_mul, splice, chunks, List.replicate_succ, List.replicate_zero, List.flatten_cons, List.flatten_nil, List.take_zero, List.take_succ_cons, List.drop_zero, List.drop_succ_cons, List.take_nil, List.drop_nil, HV.cellOk, HV.cells, List.length_cons, List.length_nil, Tryd.underlying46, se46, show (cfg gl).mode "zone.go:50" = false from rfl, srcKind, elemTy, hrow]
        refine happend_Sl (hx.grow hfr2) (by decide) (by simp) ?_ ?_ (hfr.trans hfr2) fun x2 S2 h2 hx2 _ => ?_
        · have := List.length_filter_le (fun r : Rec => decide (r.name = n)) (rs.take k)
          simp [recs, roomy] at this ⊢
          omega
        · have := List.length_filter_le (fun r : Rec => decide (r.name = n)) (rs.take k)
          simp [recs, roomy] at this ⊢
          omega
        simp (config := { contextual := true, decide := true }) only [↓pre, post, reduceIte, guardTmp, packRes, if_true, if_false, ite_true, ite_false, decide_eq_true_eq, decide_true, decide_false, decide_eq_false_iff_not, true_implies, false_implies, forall_const, implies_true, List.map_cons, List.map_nil, Bool.true_eq_false, Bool.false_eq_true, List.getElem?_cons_zero, List.getElem?_cons_succ, Option.getD_some, Option.bind_some, Option.isSome_some, Option.map_some, Option.map_none, some?_some, List.cons_append, List.nil_append, List.append_nil, Int.toNat_natCast, nn0, Nat.zero_add, Nat.mul_one, and_true, true_and, true_or, or_true, List.mem_cons, List.not_mem_nil, forall_eq_or_imp, forall_eq, e8, e9, e1, e10]
        rw [i64_succ (by omega)]
        refine ⟨⟨h2, by rw [hz4], k + 1, by omega, rfl, ?_⟩, by simp; omega⟩
        rw [htk, List.filter_append]
        simpa [recs, c, Rec.hv] using hx2
      · have c' : (B rs[k].name = B n) = False := eq_false (by rw [B_inj]; exact c)
        simp (config := { contextual := true, decide := true }) only [↓pre, post, reduceIte, guardTmp, packRes, if_true, if_false, ite_true, ite_false, decide_eq_true_eq, decide_true, decide_false, decide_eq_false_iff_not, true_implies, false_implies, forall_const, implies_true, List.map_cons, List.map_nil, Bool.true_eq_false, Bool.false_eq_true, List.getElem?_cons_zero, List.getElem?_cons_succ, Option.getD_some, Option.bind_some, Option.isSome_some, Option.map_some, Option.map_none, some?_some, List.cons_append, List.nil_append, List.append_nil, Int.toNat_natCast, nn0, Nat.zero_add, Nat.mul_one, and_true, true_and, true_or, or_true, List.mem_cons, List.not_mem_nil, forall_eq_or_imp, forall_eq, e8, e9, e1, e10, hfieldAddr, sp57, hload, hcells, ti23, ti57, c']
        rw [i64_succ (by omega)]
        refine ⟨⟨hfr.trans hfr2, by rw [hz4], k + 1, by omega, rfl, ?_⟩, by simp; omega⟩
        rw [htk, List.filter_append]
        simpa [c] using hx.grow hfr2
    · obtain rfl : k = rs.length := by omega
      simp (config := { contextual := true, decide := true }) only [↓pre, post, reduceIte, guardTmp, packRes, if_true, if_false, ite_true, ite_false, decide_eq_true_eq, decide_true, decide_false, decide_eq_false_iff_not, true_implies, false_implies, forall_const, implies_true, List.map_cons, List.map_nil, Bool.true_eq_false, Bool.false_eq_true, List.getElem?_cons_zero, List.getElem?_cons_succ, Option.getD_some, Option.bind_some, Option.isSome_some, Option.map_some, Option.map_none, some?_some, List.cons_append, List.nil_append, List.append_nil, Int.toNat_natCast, nn0, Nat.zero_add, Nat.mul_one, and_true, true_and, true_or, or_true, List.mem_cons, List.not_mem_nil, forall_eq_or_imp, forall_eq, e8, e9, e1, e10, Int.lt_irrefl]
      rw [List.take_length] at hx
      exact h _ _ hfr hx
end Go.HL
