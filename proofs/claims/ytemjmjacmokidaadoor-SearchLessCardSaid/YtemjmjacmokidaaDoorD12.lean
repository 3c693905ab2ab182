import Derived.Test.YtemjmjacmokidaaDoorD11
set_option linter.all false
namespace Go.HL
open Go Go.Proofs
attribute [local congr] brK_congr moveK_congr boxK_congr condK_congr guardK_congr some?_congr someS_congr storeK_congr allocK_congr callK_congr fnK_congr codeK_congr convK_congr
attribute [local congr] rangeK_congr hnext_congr
set_option maxRecDepth 10000
variable {gl : Nat → List HV}
def badR (n : Nat) (r : Rec) : Prop := (r.type = 5 ∧ 1 < n) ∨ r.type = 6 ∨ r.type = 2
instance (n : Nat) (r : Rec) : Decidable (badR n r) := by unfold badR; exact inferInstance
def ofF (rs : List Rec) : Act × List Rec × Bool :=
  if ∃ r ∈ rs, badR rs.length r then (⟨0, [], false⟩, [], false) else
  match rs with
  | [] => (⟨0, [], false⟩, [], false)
  | r :: rest => if r.type = 5 then (targetF r.data, [], true) else (⟨8, [], false⟩, r :: rest, true)
theorem ofF_bad {rs : List Rec} (h : ∃ r ∈ rs, badR rs.length r) : ofF rs = (⟨0, [], false⟩, [], false) := by unfold ofF; rw [if_pos h]
theorem of_spec {S : HS} {rs : List Rec} {tk : Tok} {z : Nat} {Q : HV → HS → Prop} (hz : z = 4 ∨ rs = []) (hl : rs.length < 1000000)
    (h : ∀ x S', Fr S S' → Sl S S' 57 4 x (recs (ofF rs).2.1) → Q (.tup [.agg ((ofF rs).1.hv x), .bool (ofF rs).2.2]) S') :
    Om Tryd.prog (cfg gl) (.call 50 [.sl tk z (recs rs)] S Q) := by
  refine call_res [.cell 2 48, .tmp 3] 55 Tryd.func50 rfl rfl rfl rfl ?_
  have hln : (recs rs).length = rs.length := by simp [recs]
  simp (config := { contextual := true, decide := true }) only [↓pre, post, reduceIte, guardTmp, packRes, if_true, if_false, ite_true, ite_false, decide_eq_true_eq, decide_true, decide_false, decide_eq_false_iff_not, true_implies, false_implies, forall_const, implies_true, List.map_cons, List.map_nil, Bool.true_eq_false, Bool.false_eq_true, List.getElem?_cons_zero, List.getElem?_cons_succ, Option.getD_some, Option.bind_some, Option.isSome_some, Option.map_some, Option.map_none, some?_some, List.cons_append, List.nil_append, List.append_nil, Int.toNat_natCast, nn0, Nat.zero_add, Nat.mul_one, and_true, true_and, true_or, or_true, List.mem_cons, List.not_mem_nil, forall_eq_or_imp, forall_eq, ti48, lenFits, Tryd.underlying46, hlen, hln]
  intro l hn hlt
  refine loopK (fun env S' => Fr S S' ∧ S' l = some (.row act0) ∧ env 7 = .sl tk z (recs rs) ∧ env 0 = .sl tk z (recs rs) ∧ env 8 = .int .i64 rs.length ∧ env 2 = .ptr l 0 ∧ ∃ k : Nat, k ≤ rs.length ∧ env 9 = .int .i64 k ∧ Sl S S' 57 4 (env 4) (recs (rs.take k)) ∧ ∀ r ∈ rs.take k, ¬ badR rs.length r)
    (fun env _ => match env 9 with | .v (.int _ k) => rs.length - k.toNat | _ => 0) ?_ ?_
  · simp (config := { contextual := true, decide := true }) only [↓pre, post, reduceIte, guardTmp, packRes, if_true, if_false, ite_true, ite_false, decide_eq_true_eq, decide_true, decide_false, decide_eq_false_iff_not, true_implies, false_implies, forall_const, implies_true, List.map_cons, List.map_nil, Bool.true_eq_false, Bool.false_eq_true, List.getElem?_cons_zero, List.getElem?_cons_succ, Option.getD_some, Option.bind_some, Option.isSome_some, Option.map_some, Option.map_none, some?_some, List.cons_append, List.nil_append, List.append_nil, Int.toNat_natCast, nn0, Nat.zero_add, Nat.mul_one, and_true, true_and, true_or, or_true, List.mem_cons, List.not_mem_nil, forall_eq_or_imp, forall_eq]
    exact ⟨Fr.new _ hn, rfl, 0, Nat.zero_le _, rfl, .nil, by simp⟩
  · rintro env S' ⟨hfr, g2, e7, e0, e8, e2, k, hk, e9, hx, hall⟩
    by_cases hlt : k < rs.length
    · have hlt' : ((k : Int) < (rs.length : Int)) = True := eq_true (by omega)
      have hz4 : z = 4 := by rcases hz with h | h; exact h; rw [h] at hlt; simp at hlt
      have hg : (recs rs)[k]? = some rs[k].hv := by simp [recs, hlt]
      have htk : rs.take (k + 1) = rs.take k ++ [rs[k]] := List.take_succ_eq_append_getElem hlt
      have hmem : rs[k] ∈ rs := List.getElem_mem hlt
      simp only [Rec.hv] at hg
      simp (config := { contextual := true, decide := true }) only [↓pre, post, reduceIte, guardTmp, packRes, if_true, if_false, ite_true, ite_false, decide_eq_true_eq, decide_true, decide_false, decide_eq_false_iff_not, true_implies, false_implies, forall_const, implies_true, List.map_cons, List.map_nil, Bool.true_eq_false, Bool.false_eq_true, List.getElem?_cons_zero, List.getElem?_cons_succ, Option.getD_some, Option.bind_some, Option.isSome_some, Option.map_some, Option.map_none, some?_some, List.cons_append, List.nil_append, List.append_nil, Int.toNat_natCast, nn0, Nat.zero_add, Nat.mul_one, and_true, true_and, true_or, or_true, List.mem_cons, List.not_mem_nil, forall_eq_or_imp, forall_eq, e7, e8, e9, e0, e2, hlt', hindexAddr, hint, Tryd.underlying46, ti57, hz4, hg, hload, hcells, hbuild, hfill, splice, List.take_zero, List.take_succ_cons, List.drop_zero, List.drop_succ_cons, List.take_nil, List.drop_nil, HV.cellOk, HV.cells, List.length_cons, List.length_nil]
      intro l2 hn2 hty2
      have hst2 := hstore_agg (P := Tryd.prog) (T := 57) (cs := rs[k].hv) ti57 (HS.set_same S' l2 (.row [.v (.string ⟨#[]⟩), .v (.int .u16 0), .v (.int .u32 0), .v (.string ⟨#[]⟩)])) rfl rfl
      simp only [Rec.hv] at hst2
      simp (config := { contextual := true, decide := true }) only [↓pre, post, reduceIte, guardTmp, packRes, if_true, if_false, ite_true, ite_false, decide_eq_true_eq, decide_true, decide_false, decide_eq_false_iff_not, true_implies, false_implies, forall_const, implies_true, List.map_cons, List.map_nil, Bool.true_eq_false, Bool.false_eq_true, List.getElem?_cons_zero, List.getElem?_cons_succ, Option.getD_some, Option.bind_some, Option.isSome_some, Option.map_some, Option.map_none, some?_some, List.cons_append, List.nil_append, List.append_nil, Int.toNat_natCast, nn0, Nat.zero_add, Nat.mul_one, and_true, true_and, true_or, or_true, List.mem_cons, List.not_mem_nil, forall_eq_or_imp, forall_eq, e7, e8, e9, e0, e2, hst2]
      have hfr2 : Fr S' ((S'.set l2 (.row [.v (.string ⟨#[]⟩), .v (.int .u16 0), .v (.int .u32 0), .v (.string ⟨#[]⟩)])).set l2 (.row [.str (B rs[k].name), .int .u16 rs[k].type, .int .u32 rs[k].ttl, .str (B rs[k].data)])) := (Fr.new _ hn2).set _ hn2
      have gl2 : ((S'.set l2 (.row [.v (.string ⟨#[]⟩), .v (.int .u16 0), .v (.int .u32 0), .v (.string ⟨#[]⟩)])).set l2 (.row [.str (B rs[k].name), .int .u16 rs[k].type, .int .u32 rs[k].ttl, .str (B rs[k].data)])) l2 = some (.row [.str (B rs[k].name), .int .u16 rs[k].type, .int .u32 rs[k].ttl, .str (B rs[k].data)]) := HS.set_same _ _ _
      generalize ((S'.set l2 (.row [.v (.string ⟨#[]⟩), .v (.int .u16 0), .v (.int .u32 0), .v (.string ⟨#[]⟩)])).set l2 (.row [.str (B rs[k].name), .int .u16 rs[k].type, .int .u32 rs[k].ttl, .str (B rs[k].data)])) = S2 at hfr2 gl2 ⊢
      have hst : ∀ cs : List HV, cs.length = 4 → hstore Tryd.prog 48 S2 (.ptr l 0) (.agg cs) = some (S2.set l (.row cs)) := fun cs hc => hstore_agg ti48 (hfr2 _ _ g2) rfl hc
      have hld : ∀ cs : List HV, cs.length = 4 → hload Tryd.prog 48 (S2.set l (.row cs)) (.ptr l 0) = some (.agg cs) := fun cs hc => hload_agg ti48 rfl (HS.set_same _ _ _) hc
      by_cases t5 : rs[k].type = 5
      · have t5' : (rs[k].type = 5) = True := eq_true t5
        by_cases l1 : 1 < rs.length
        · have l1' : (1 < (rs.length : Int)) = True := eq_true (by omega)
          have hbad : ∃ r ∈ rs, badR rs.length r := ⟨_, hmem, .inl ⟨t5, l1⟩⟩
          have hq := fun cs => h (.sl .full 0 []) ((S2).set l (.row cs)) ((hfr.trans hfr2).set _ hn)
          rw [show ofF rs = (⟨0, [], false⟩, [], false) from ofF_bad hbad] at hq
          simp (config := { contextual := true, decide := true }) only [↓pre, post, reduceIte, guardTmp, packRes, if_true, if_false, ite_true, ite_false, decide_eq_true_eq, decide_true, decide_false, decide_eq_false_iff_not, true_implies, false_implies, forall_const, implies_true, List.map_cons, List.map_nil, Bool.true_eq_false, Bool.false_eq_true, List.getElem?_cons_zero, List.getElem?_cons_succ, Option.getD_some, Option.bind_some, Option.isSome_some, Option.map_some, Option.map_none, some?_some, List.cons_append, List.nil_append, List.append_nil, Int.toNat_natCast, nn0, Nat.zero_add, Nat.mul_one, and_true, true_and, true_or, or_true, List.mem_cons, List.not_mem_nil, forall_eq_or_imp, forall_eq, e7, e8, e9, e0, e2, hfieldAddr, sp57, hload, hcells, ti54, gl2, t5', l1', lenFits, Tryd.underlying46, hlen, hln, hbuild, hfill, splice, List.take_zero, List.take_succ_cons, List.drop_zero, List.drop_succ_cons, List.take_nil, List.drop_nil, HV.cellOk, HV.cells, List.length_cons, List.length_nil, ti48, Tryd.underlying48, sp48, hst, hld]
          exact hq _ .nil
        · have l1' : (1 < (rs.length : Int)) = False := eq_false (by omega)
          have t6' : (rs[k].type = 6) = False := eq_false (by omega)
          have t2' : (rs[k].type = 2) = False := eq_false (by omega)
          have hgo : ¬ badR rs.length rs[k] := by unfold badR; omega
          simp (config := { contextual := true, decide := true }) only [↓pre, post, reduceIte, guardTmp, packRes, if_true, if_false, ite_true, ite_false, decide_eq_true_eq, decide_true, decide_false, decide_eq_false_iff_not, true_implies, false_implies, forall_const, implies_true, List.map_cons, List.map_nil, Bool.true_eq_false, Bool.false_eq_true, List.getElem?_cons_zero, List.getElem?_cons_succ, Option.getD_some, Option.bind_some, Option.isSome_some, Option.map_some, Option.map_none, some?_some, List.cons_append, List.nil_append, List.append_nil, Int.toNat_natCast, nn0, Nat.zero_add, Nat.mul_one, and_true, true_and, true_or, or_true, List.mem_cons, List.not_mem_nil, forall_eq_or_imp, forall_eq, e7, e8, e9, e0, e2, hfieldAddr, sp57, hload, hcells, ti54, ti57, gl2, t5', l1', t6', t2', lenFits, Tryd.underlying46, hlen, hln, hbuildSlice, hfill, zeros, Nat.zero_mul, Nat.one_mul, splice, chunks, List.replicate_succ, List.replicate_zero, List.flatten_cons, List.flatten_nil, List.take_zero, List.take_succ_cons, List.drop_zero, List.drop_succ_cons, List.take_nil, List.drop_nil, HV.cellOk, HV.cells, List.length_cons, List.length_nil, se46, show (cfg gl).mode "action.go:34" = false from rfl, srcKind, elemTy, hrow]
          refine happend_Sl (hx.grow hfr2) (by decide) (by simp) (by simp [recs, roomy]; omega) (by simp [recs, roomy]; omega) (hfr.trans hfr2) fun x2 S3 h2 hx2 hk2 => ?_
          simp (config := { contextual := true, decide := true }) only [↓pre, post, reduceIte, guardTmp, packRes, if_true, if_false, ite_true, ite_false, decide_eq_true_eq, decide_true, decide_false, decide_eq_false_iff_not, true_implies, false_implies, forall_const, implies_true, List.map_cons, List.map_nil, Bool.true_eq_false, Bool.false_eq_true, List.getElem?_cons_zero, List.getElem?_cons_succ, Option.getD_some, Option.bind_some, Option.isSome_some, Option.map_some, Option.map_none, some?_some, List.cons_append, List.nil_append, List.append_nil, Int.toNat_natCast, nn0, Nat.zero_add, Nat.mul_one, and_true, true_and, true_or, or_true, List.mem_cons, List.not_mem_nil, forall_eq_or_imp, forall_eq, e7, e8, e9, e0, e2]
          rw [i64_succ (by omega)]
          have hk3 : S3 l = some (.row act0) := hk2 _ _ (hfr2 _ _ g2) (by simp)
          refine ⟨⟨h2, hk3, by rw [hz4], by rw [hz4], k + 1, by omega, rfl, ?_, ?_⟩, by simp; omega⟩
          · have e1 : recs (rs.take k ++ [rs[k]]) = recs (rs.take k) ++ [rs[k].hv] := by simp only [recs, List.map_append, List.map_cons, List.map_nil]
            rw [htk, e1]
            exact hx2
          · rw [htk]
            intro r hr
            rcases List.mem_append.1 hr with hr | hr
            · exact hall r hr
            · rw [List.mem_singleton.1 hr]; exact hgo
      · have t5' : (rs[k].type = 5) = False := eq_false t5
        by_cases t6 : rs[k].type = 6
        · have t6' : (rs[k].type = 6) = True := eq_true t6
          have hbad : ∃ r ∈ rs, badR rs.length r := ⟨_, hmem, .inr (.inl t6)⟩
          have hq := fun cs => h (.sl .full 0 []) ((S2).set l (.row cs)) ((hfr.trans hfr2).set _ hn)
          rw [show ofF rs = (⟨0, [], false⟩, [], false) from ofF_bad hbad] at hq
          simp (config := { contextual := true, decide := true }) only [↓pre, post, reduceIte, guardTmp, packRes, if_true, if_false, ite_true, ite_false, decide_eq_true_eq, decide_true, decide_false, decide_eq_false_iff_not, true_implies, false_implies, forall_const, implies_true, List.map_cons, List.map_nil, Bool.true_eq_false, Bool.false_eq_true, List.getElem?_cons_zero, List.getElem?_cons_succ, Option.getD_some, Option.bind_some, Option.isSome_some, Option.map_some, Option.map_none, some?_some, List.cons_append, List.nil_append, List.append_nil, Int.toNat_natCast, nn0, Nat.zero_add, Nat.mul_one, and_true, true_and, true_or, or_true, List.mem_cons, List.not_mem_nil, forall_eq_or_imp, forall_eq, e7, e8, e9, e0, e2, hfieldAddr, sp57, hload, hcells, ti54, gl2, t5', t6', lenFits, Tryd.underlying46, hlen, hln, hbuild, hfill, splice, List.take_zero, List.take_succ_cons, List.drop_zero, List.drop_succ_cons, List.take_nil, List.drop_nil, HV.cellOk, HV.cells, List.length_cons, List.length_nil, ti48, Tryd.underlying48, sp48, hst, hld]
          exact hq _ .nil
        · have t6' : (rs[k].type = 6) = False := eq_false t6
          by_cases t2 : rs[k].type = 2
          · have t2' : (rs[k].type = 2) = True := eq_true t2
            have hbad : ∃ r ∈ rs, badR rs.length r := ⟨_, hmem, .inr (.inr t2)⟩
            have hq := fun cs => h (.sl .full 0 []) ((S2).set l (.row cs)) ((hfr.trans hfr2).set _ hn)
            rw [show ofF rs = (⟨0, [], false⟩, [], false) from ofF_bad hbad] at hq
            simp (config := { contextual := true, decide := true }) only [↓pre, post, reduceIte, guardTmp, packRes, if_true, if_false, ite_true, ite_false, decide_eq_true_eq, decide_true, decide_false, decide_eq_false_iff_not, true_implies, false_implies, forall_const, implies_true, List.map_cons, List.map_nil, Bool.true_eq_false, Bool.false_eq_true, List.getElem?_cons_zero, List.getElem?_cons_succ, Option.getD_some, Option.bind_some, Option.isSome_some, Option.map_some, Option.map_none, some?_some, List.cons_append, List.nil_append, List.append_nil, Int.toNat_natCast, nn0, Nat.zero_add, Nat.mul_one, and_true, true_and, true_or, or_true, List.mem_cons, List.not_mem_nil, forall_eq_or_imp, forall_eq, e7, e8, e9, e0, e2, hfieldAddr, sp57, hload, hcells, ti54, gl2, t5', t6', t2', lenFits, Tryd.underlying46, hlen, hln, hbuild, hfill, splice, List.take_zero, List.take_succ_cons, List.drop_zero, List.drop_succ_cons, List.take_nil, List.drop_nil, HV.cellOk, HV.cells, List.length_cons, List.length_nil, ti48, Tryd.underlying48, sp48, hst, hld]
            exact hq _ .nil
          · have t2' : (rs[k].type = 2) = False := eq_false t2
            have hgo : ¬ badR rs.length rs[k] := by unfold badR; omega
            simp (config := { contextual := true, decide := true }) only [↓pre, post, reduceIte, guardTmp, packRes, if_true, if_false, ite_true, ite_false, decide_eq_true_eq, decide_true, decide_false, decide_eq_false_iff_not, true_implies, false_implies, forall_const, implies_true, List.map_cons, List.map_nil, Bool.true_eq_false, Bool.false_eq_true, List.getElem?_cons_zero, List.getElem?_cons_succ, Option.getD_some, Option.bind_some, Option.isSome_some, Option.map_some, Option.map_none, some?_some, List.cons_append, List.nil_append, List.append_nil, Int.toNat_natCast, nn0, Nat.zero_add, Nat.mul_one, and_true, true_and, true_or, or_true, List.mem_cons, List.not_mem_nil, forall_eq_or_imp, forall_eq, e7, e8, e9, e0, e2, hfieldAddr, sp57, hload, hcells, ti54, ti57, gl2, t5', t6', t2', lenFits, Tryd.underlying46, hlen, hln, hbuildSlice, hfill, zeros, Nat.zero_mul, Nat.one_mul, splice, chunks, List.replicate_succ, List.replicate_zero, List.flatten_cons, List.flatten_nil, List.take_zero, List.take_succ_cons, List.drop_zero, List.drop_succ_cons, List.take_nil, List.drop_nil, HV.cellOk, HV.cells, List.length_cons, List.length_nil, se46, show (cfg gl).mode "action.go:34" = false from rfl, srcKind, elemTy, hrow]
            refine happend_Sl (hx.grow hfr2) (by decide) (by simp) (by simp [recs, roomy]; omega) (by simp [recs, roomy]; omega) (hfr.trans hfr2) fun x2 S3 h2 hx2 hk2 => ?_
            simp (config := { contextual := true, decide := true }) only [↓pre, post, reduceIte, guardTmp, packRes, if_true, if_false, ite_true, ite_false, decide_eq_true_eq, decide_true, decide_false, decide_eq_false_iff_not, true_implies, false_implies, forall_const, implies_true, List.map_cons, List.map_nil, Bool.true_eq_false, Bool.false_eq_true, List.getElem?_cons_zero, List.getElem?_cons_succ, Option.getD_some, Option.bind_some, Option.isSome_some, Option.map_some, Option.map_none, some?_some, List.cons_append, List.nil_append, List.append_nil, Int.toNat_natCast, nn0, Nat.zero_add, Nat.mul_one, and_true, true_and, true_or, or_true, List.mem_cons, List.not_mem_nil, forall_eq_or_imp, forall_eq, e7, e8, e9, e0, e2]
            rw [i64_succ (by omega)]
            have hk3 : S3 l = some (.row act0) := hk2 _ _ (hfr2 _ _ g2) (by simp)
            refine ⟨⟨h2, hk3, by rw [hz4], by rw [hz4], k + 1, by omega, rfl, ?_, ?_⟩, by simp; omega⟩
            · have e1 : recs (rs.take k ++ [rs[k]]) = recs (rs.take k) ++ [rs[k].hv] := by simp only [recs, List.map_append, List.map_cons, List.map_nil]
              rw [htk, e1]
              exact hx2
            · rw [htk]
              intro r hr
              rcases List.mem_append.1 hr with hr | hr
              · exact hall r hr
              · rw [List.mem_singleton.1 hr]; exact hgo
    · obtain rfl : k = rs.length := by omega
      rw [List.take_length] at hx hall
      have hnb : ¬ ∃ r ∈ rs, badR rs.length r := fun ⟨r, hr, hb⟩ => hall r hr hb
      have hst : ∀ S2 : HS, S2 l = some (.row act0) → ∀ cs : List HV, cs.length = 4 → hstore Tryd.prog 48 S2 (.ptr l 0) (.agg cs) = some (S2.set l (.row cs)) := fun S2 h2 cs hc => hstore_agg ti48 h2 rfl hc
      have hld : ∀ (S2 : HS) (cs : List HV), cs.length = 4 → hload Tryd.prog 48 (S2.set l (.row cs)) (.ptr l 0) = some (.agg cs) := fun S2 cs hc => hload_agg ti48 rfl (HS.set_same _ _ _) hc
      have hst0 := hst S' g2
      have hq := fun x cs => h x (S'.set l (.row cs)) (hfr.set _ hn)
      have gS : ∀ cs, Sl S (S'.set l (.row cs)) 57 4 (env 4) (recs rs) := fun cs => by
        obtain ⟨k1, z1, h1, h2⟩ := hx
        refine ⟨k1, z1, h1, ?_⟩
        rcases h2 with h2 | ⟨h2, t, h3, h4, h5, h6, h7⟩
        · exact .inl h2
        · exact .inr ⟨h2, t, h3, h4, by rw [HS.set_ne _ _ (by rintro rfl; rw [g2] at h5; cases h5)]; exact h5, h6, h7⟩
      cases rs with
      | nil =>
        have hF : ofF [] = (⟨0, [], false⟩, [], false) := by simp [ofF]
        rw [hF] at hq
        simp (config := { contextual := true, decide := true }) only [↓pre, post, reduceIte, guardTmp, packRes, if_true, if_false, ite_true, ite_false, decide_eq_true_eq, decide_true, decide_false, decide_eq_false_iff_not, true_implies, false_implies, forall_const, implies_true, List.map_cons, List.map_nil, Bool.true_eq_false, Bool.false_eq_true, List.getElem?_cons_zero, List.getElem?_cons_succ, Option.getD_some, Option.bind_some, Option.isSome_some, Option.map_some, Option.map_none, some?_some, List.cons_append, List.nil_append, List.append_nil, Int.toNat_natCast, nn0, Nat.zero_add, Nat.mul_one, and_true, true_and, true_or, or_true, List.mem_cons, List.not_mem_nil, forall_eq_or_imp, forall_eq, e7, e8, e9, e0, e2, Int.lt_irrefl, lenFits, Tryd.underlying46, hlen, hln, List.length_nil, hbuild, hfill, splice, List.take_zero, List.take_succ_cons, List.drop_zero, List.drop_succ_cons, List.take_nil, List.drop_nil, HV.cellOk, HV.cells, List.length_cons, List.length_nil, ti48, Tryd.underlying48, sp48, hst0, hld]
        exact hq _ _ .nil
      | cons r rest =>
        have hz4 : z = 4 := by rcases hz with h | h; exact h; cases h
        have h00 : (((rest.length + 1 : Nat) : Int) = 0) = False := eq_false (by omega)
        have hg : (recs (r :: rest))[0]? = some r.hv := rfl
        simp only [Rec.hv] at hg
        have hF : ofF (r :: rest) = if r.type = 5 then (targetF r.data, [], true) else (⟨8, [], false⟩, r :: rest, true) := by
          unfold ofF; rw [if_neg hnb]
        rw [hF] at hq
        rw [List.length_cons] at e8 hln
        by_cases t5 : r.type = 5
        · have t5' : (r.type = 5) = True := eq_true t5
          rw [if_pos t5] at hq
          simp (config := { contextual := true, decide := true }) only [↓pre, post, reduceIte, guardTmp, packRes, if_true, if_false, ite_true, ite_false, decide_eq_true_eq, decide_true, decide_false, decide_eq_false_iff_not, true_implies, false_implies, forall_const, implies_true, List.map_cons, List.map_nil, Bool.true_eq_false, Bool.false_eq_true, List.getElem?_cons_zero, List.getElem?_cons_succ, Option.getD_some, Option.bind_some, Option.isSome_some, Option.map_some, Option.map_none, some?_some, List.cons_append, List.nil_append, List.append_nil, Int.toNat_natCast, nn0, Nat.zero_add, Nat.mul_one, and_true, true_and, true_or, or_true, List.mem_cons, List.not_mem_nil, forall_eq_or_imp, forall_eq, e7, e8, e9, e0, e2, Int.lt_irrefl, lenFits, Tryd.underlying46, hlen, hln, h00, hindexAddr, hint, ti57, hz4, hg, hfieldAddr, sp57, hload, hcells, ti54, ti9, t5', Int.toNat_zero, Int.le_refl, List.length_cons]
          refine callK_of (target_spec fun S2 h2 => ?_)
          have hst2 := hst S2 (h2 _ _ g2) ((targetF r.data).hv (.sl .full 0 [])) rfl
          have hld2 := hld S2 ((targetF r.data).hv (.sl .full 0 [])) rfl
          simp (config := { contextual := true, decide := true }) only [↓pre, post, reduceIte, guardTmp, packRes, if_true, if_false, ite_true, ite_false, decide_eq_true_eq, decide_true, decide_false, decide_eq_false_iff_not, true_implies, false_implies, forall_const, implies_true, List.map_cons, List.map_nil, Bool.true_eq_false, Bool.false_eq_true, List.getElem?_cons_zero, List.getElem?_cons_succ, Option.getD_some, Option.bind_some, Option.isSome_some, Option.map_some, Option.map_none, some?_some, List.cons_append, List.nil_append, List.append_nil, Int.toNat_natCast, nn0, Nat.zero_add, Nat.mul_one, and_true, true_and, true_or, or_true, List.mem_cons, List.not_mem_nil, forall_eq_or_imp, forall_eq, e2, hst2, hld2]
          have := h (.sl .full 0 []) (S2.set l (.row ((targetF r.data).hv (.sl .full 0 [])))) ((hfr.trans h2).set _ hn)
          rw [hF, if_pos t5] at this
          exact this .nil
        · have t5' : (r.type = 5) = False := eq_false t5
          rw [if_neg t5] at hq
          obtain ⟨k4, z4, hx4, _⟩ := hx.sz
          simp (config := { contextual := true, decide := true }) only [↓pre, post, reduceIte, guardTmp, packRes, if_true, if_false, ite_true, ite_false, decide_eq_true_eq, decide_true, decide_false, decide_eq_false_iff_not, true_implies, false_implies, forall_const, implies_true, List.map_cons, List.map_nil, Bool.true_eq_false, Bool.false_eq_true, List.getElem?_cons_zero, List.getElem?_cons_succ, Option.getD_some, Option.bind_some, Option.isSome_some, Option.map_some, Option.map_none, some?_some, List.cons_append, List.nil_append, List.append_nil, Int.toNat_natCast, nn0, Nat.zero_add, Nat.mul_one, and_true, true_and, true_or, or_true, List.mem_cons, List.not_mem_nil, forall_eq_or_imp, forall_eq, e7, e8, e9, e0, e2, Int.lt_irrefl, lenFits, Tryd.underlying46, hlen, hln, h00, hindexAddr, hint, ti57, hz4, hg, hfieldAddr, sp57, hload, hcells, ti54, t5', Int.toNat_zero, Int.le_refl, hbuild, hfill, splice, List.take_zero, List.take_succ_cons, List.drop_zero, List.drop_succ_cons, List.take_nil, List.drop_nil, HV.cellOk, HV.cells, List.length_cons, List.length_nil, ti48, Tryd.underlying48, sp48, hst0, hld, hx4]
          have := fun cs => hq (env 4) cs (gS cs)
          rw [hx4] at this
          exact this _
end Go.HL
