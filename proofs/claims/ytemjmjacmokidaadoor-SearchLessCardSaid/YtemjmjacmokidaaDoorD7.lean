import Derived.Test.YtemjmjacmokidaaDoorD6
import Derived.Test.YtemjmjacmokidaaDoorH24
set_option linter.all false
namespace Go.HL
open Go Go.Proofs
attribute [local congr] brK_congr moveK_congr boxK_congr condK_congr guardK_congr some?_congr someS_congr storeK_congr allocK_congr callK_congr fnK_congr codeK_congr convK_congr
set_option maxRecDepth 10000
variable {gl : Nat → List HV}
theorem belowN_len : ∀ (n : Nat) (s on : List UInt8), belowN n s on = true → on.length ≤ s.length
  | 0, _, _, h => by simp [belowN] at h
  | n + 1, s, on, h => by
    simp only [belowN] at h
    by_cases c : s = on
    · rw [c]; exact Nat.le_refl _
    · rw [if_neg c] at h
      cases hp : (parent s).2 with
      | false => rw [hp] at h; simp at h
      | true =>
        rw [hp, if_pos rfl] at h
        have := belowN_len n _ _ h
        have := parent_len hp
        omega
theorem may_len {s : List UInt8} (h : may s = true) : s.length ≤ 254 := by
  unfold may labels at h
  split at h
  · rename_i hc; exact hc.1
  · cases h
def strip (s on : List UInt8) : List UInt8 × Bool := if below s on then (s.take (s.length - on.length), true) else ([], false)
theorem strip_spec {S : HS} {s on : List UInt8} {Q : HV → HS → Prop} (h : ∀ S', Fr S S' → Q (.tup [.str (B (strip s on).1), .bool (strip s on).2]) S') : Om Tryd.prog (cfg gl) (.call 49 [.str (B s), .str (B on)] S Q) := by
  refine call_tmps [4, 5] 17 Tryd.func49 rfl rfl rfl rfl ?_
  simp (config := { contextual := true, decide := true }) only [↓pre, post, reduceIte, guardTmp, packRes, if_true, if_false, ite_true, ite_false, decide_eq_true_eq, decide_true, decide_false, decide_eq_false_iff_not, true_implies, false_implies, forall_const, implies_true, List.map_cons, List.map_nil, Bool.true_eq_false, Bool.false_eq_true, List.getElem?_cons_zero, List.getElem?_cons_succ, Option.getD_some, Option.bind_some, Option.isSome_some, Option.map_some, Option.map_none, some?_some, List.cons_append, List.nil_append, List.append_nil, Int.toNat_natCast, nn0, Nat.zero_add, Nat.mul_one, and_true, true_and, true_or, or_true, List.mem_cons, List.not_mem_nil, forall_eq_or_imp, forall_eq]
  refine callK_of (below_spec fun S1 h1 => ?_)
  have hq := h S1 h1
  unfold strip at hq
  cases hb : below s on with
  | false =>
    simp only [hb, Bool.false_eq_true, if_false] at hq
    simp (config := { contextual := true, decide := true }) only [↓pre, post, reduceIte, guardTmp, packRes, if_true, if_false, ite_true, ite_false, decide_eq_true_eq, decide_true, decide_false, decide_eq_false_iff_not, true_implies, false_implies, forall_const, implies_true, List.map_cons, List.map_nil, Bool.true_eq_false, Bool.false_eq_true, List.getElem?_cons_zero, List.getElem?_cons_succ, Option.getD_some, Option.bind_some, Option.isSome_some, Option.map_some, Option.map_none, some?_some, List.cons_append, List.nil_append, List.append_nil, Int.toNat_natCast, nn0, Nat.zero_add, Nat.mul_one, and_true, true_and, true_or, or_true, List.mem_cons, List.not_mem_nil, forall_eq_or_imp, forall_eq, Bool.not_false, Bool.not_true]
    exact hq
  | true =>
    simp only [hb, if_true] at hq
    have hb' := hb
    unfold below at hb'
    simp only [Bool.and_eq_true] at hb'
    have hl := belowN_len _ _ _ hb'.2
    have hs := may_len hb'.1.1
    have hw : IntKind.i64.wrap ((s.length : Int) - (on.length : Int)) = ((s.length - on.length : Nat) : Int) := i64_sub (by omega) hl
    have hsl : sliceV Tryd.prog 23 (.v (.string (B s))) none (some (.v (.int .i64 ((s.length - on.length : Nat) : Int)))) none = some (.v (.string (B (s.take (s.length - on.length))))) := by
      rw [str_to Tryd.underlying23 (by omega) (by omega)]
      simp
    simp (config := { contextual := true, decide := true }) only [↓pre, post, reduceIte, guardTmp, packRes, if_true, if_false, ite_true, ite_false, decide_eq_true_eq, decide_true, decide_false, decide_eq_false_iff_not, true_implies, false_implies, forall_const, implies_true, List.map_cons, List.map_nil, Bool.true_eq_false, Bool.false_eq_true, List.getElem?_cons_zero, List.getElem?_cons_succ, Option.getD_some, Option.bind_some, Option.isSome_some, Option.map_some, Option.map_none, some?_some, List.cons_append, List.nil_append, List.append_nil, Int.toNat_natCast, nn0, Nat.zero_add, Nat.mul_one, and_true, true_and, true_or, or_true, List.mem_cons, List.not_mem_nil, forall_eq_or_imp, forall_eq, Bool.not_false, Bool.not_true, lenFits, Tryd.underlying23, hlen, B_size, hw, hsl]
    exact hq
/-- A trigger of a name. -/
def namedF (ls : List (List UInt8)) (exact_ wild : Int) : Trig × Bool :=
  let star := ls.head? = some [42]
  let kind := if star then wild else exact_
  let rest := if star then ls.tail else ls
  match makeOk rest [] with
  | none => (⟨0, [], [], 0⟩, false)
  | some n => if rest = [] ∧ kind = exact_ then (⟨0, [], [], 0⟩, false) else (⟨kind, n, [], 0⟩, true)
theorem named_spec {S : HS} {ls : List (List UInt8)} {tk : Tok} {z : Nat} {e w : Int} {Q : HV → HS → Prop} (hz : z = 1 ∨ ls = []) (hl : ls.length < 1000000) (h : ∀ S', Fr S S' → Q (.tup [.agg (namedF ls e w).1.hv, .bool (namedF ls e w).2]) S') :
    Om Tryd.prog (cfg gl) (.call 62 [.sl tk z (strs ls), .int .i64 e, .int .i64 w] S Q) := by
  refine call_res [.cell 6 27, .tmp 7] 45 Tryd.func62 rfl rfl rfl rfl ?_
  simp (config := { contextual := true, decide := true }) only [↓pre, post, reduceIte, guardTmp, packRes, if_true, if_false, ite_true, ite_false, decide_eq_true_eq, decide_true, decide_false, decide_eq_false_iff_not, true_implies, false_implies, forall_const, implies_true, List.map_cons, List.map_nil, Bool.true_eq_false, Bool.false_eq_true, List.getElem?_cons_zero, List.getElem?_cons_succ, Option.getD_some, Option.bind_some, Option.isSome_some, Option.map_some, Option.map_none, some?_some, List.cons_append, List.nil_append, List.append_nil, Int.toNat_natCast, nn0, Nat.zero_add, Nat.mul_one, and_true, true_and, true_or, or_true, List.mem_cons, List.not_mem_nil, forall_eq_or_imp, forall_eq, ti27]
  intro l hn hlt
  have hlen' : (strs ls).length = ls.length := by simp [strs]
  cases ls with
  | nil =>
    simp (config := { contextual := true, decide := true }) only [↓pre, post, reduceIte, guardTmp, packRes, if_true, if_false, ite_true, ite_false, decide_eq_true_eq, decide_true, decide_false, decide_eq_false_iff_not, true_implies, false_implies, forall_const, implies_true, List.map_cons, List.map_nil, Bool.true_eq_false, Bool.false_eq_true, List.getElem?_cons_zero, List.getElem?_cons_succ, Option.getD_some, Option.bind_some, Option.isSome_some, Option.map_some, Option.map_none, some?_some, List.cons_append, List.nil_append, List.append_nil, Int.toNat_natCast, nn0, Nat.zero_add, Nat.mul_one, and_true, true_and, true_or, or_true, List.mem_cons, List.not_mem_nil, forall_eq_or_imp, forall_eq, strs, lenFits, Tryd.underlying62, hlen, List.length_nil, Int.lt_irrefl]
    refine callK_of (make_spec (ls := []) hz (by simp) fun S2 h2 => ?_)
    have g2 := h2 _ _ (HS.set_same _ _ _)
    have hq := fun cs => h (S2.set l (.row cs)) (((Fr.new _ hn).trans h2).set _ hn)
    have hst : ∀ cs : List HV, cs.length = 4 → hstore Tryd.prog 27 S2 (.ptr l 0) (.agg cs) = some (S2.set l (.row cs)) := fun cs hc => hstore_agg ti27 g2 rfl hc
    have hld : ∀ cs : List HV, cs.length = 4 → hload Tryd.prog 27 (S2.set l (.row cs)) (.ptr l 0) = some (.agg cs) := fun cs hc => hload_agg ti27 rfl (HS.set_same _ _ _) hc
    simp (config := { contextual := true, decide := true }) only [↓pre, post, reduceIte, guardTmp, packRes, if_true, if_false, ite_true, ite_false, decide_eq_true_eq, decide_true, decide_false, decide_eq_false_iff_not, true_implies, false_implies, forall_const, implies_true, List.map_cons, List.map_nil, Bool.true_eq_false, Bool.false_eq_true, List.getElem?_cons_zero, List.getElem?_cons_succ, Option.getD_some, Option.bind_some, Option.isSome_some, Option.map_some, Option.map_none, some?_some, List.cons_append, List.nil_append, List.append_nil, Int.toNat_natCast, nn0, Nat.zero_add, Nat.mul_one, and_true, true_and, true_or, or_true, List.mem_cons, List.not_mem_nil, forall_eq_or_imp, forall_eq, nameRes, makeOk, Bool.not_true, lenFits, Tryd.underlying62, hlen, List.length_nil, hbuild, hfill, splice, List.take_zero, List.take_succ_cons, List.drop_zero, List.drop_succ_cons, List.take_nil, List.drop_nil, HV.cellOk, HV.cells, List.length_cons, List.length_nil, ti27, Tryd.underlying27, sp27, hst, hld]
    have hk : namedF [] e w = (⟨0, [], [], 0⟩, false) := by simp [namedF, makeOk]
    rw [hk] at hq
    exact hq _
  | cons a rest =>
    have hz1 : z = 1 := by rcases hz with h | h; exact h; cases h
    have h0' : (0 < ((rest.length + 1 : Nat) : Int)) = True := eq_true (by omega)
    by_cases c : a = [42]
    · have c' : (B a = ({ data := #[42] } : ByteArray)) = True := eq_true (by rw [c]; rfl)
      have hsl : sliceV Tryd.prog 62 (.sl tk z (strs (a :: rest))) (some (.v (.int .i64 1))) none none = some (.sl (if tk = .full then .full else if (1 : Int) < (strs (a :: rest)).length then tk else .none) z (strs rest)) := by
        rw [sl_from Tryd.underlying62 ti9 (.inl hz1) (by omega) (by simp [strs]; omega)]
        simp [strs]
      simp only [strs, List.map_cons] at hsl
      simp (config := { contextual := true, decide := true }) only [↓pre, post, reduceIte, guardTmp, packRes, if_true, if_false, ite_true, ite_false, decide_eq_true_eq, decide_true, decide_false, decide_eq_false_iff_not, true_implies, false_implies, forall_const, implies_true, List.map_cons, List.map_nil, Bool.true_eq_false, Bool.false_eq_true, List.getElem?_cons_zero, List.getElem?_cons_succ, Option.getD_some, Option.bind_some, Option.isSome_some, Option.map_some, Option.map_none, some?_some, List.cons_append, List.nil_append, List.append_nil, Int.toNat_natCast, nn0, Nat.zero_add, Nat.mul_one, and_true, true_and, true_or, or_true, List.mem_cons, List.not_mem_nil, forall_eq_or_imp, forall_eq, strs, lenFits, Tryd.underlying62, hlen, List.length_cons, List.length_map, h0', hindexAddr, hint, ti9, hz1, List.getElem?_cons_zero, hload, hcells, c', hsl, Int.toNat_zero, Int.le_refl]
      simp only [hz1, strs, List.map_cons] at hsl
      generalize (if tk = .full then Tok.full else if (1 : Int) < (([HV.str (B a)] :: List.map (fun l => [HV.str (B l)]) rest).length : Nat) then tk else .none) = tk2 at hsl
      refine drawK' (fun S' => S' = S.set l (.row [.v (.int .i64 0), .v (.string ⟨#[]⟩), .v (.string ⟨#[]⟩), .v (.int .i64 0)]))
        [(21, .int .i64 w), (22, .sl tk 1 ([.str (B a)] :: rest.map fun l => [.str (B l)])), (23, .sl tk2 1 (rest.map fun l => [.str (B l)]))] [(8, .int .i64 w), (0, .sl tk2 1 (rest.map fun l => [.str (B l)]))] rfl rfl rfl rfl rfl ?_ ?_
      · simp (config := { contextual := true, decide := true }) only [↓pre, post, reduceIte, guardTmp, packRes, if_true, if_false, ite_true, ite_false, decide_eq_true_eq, decide_true, decide_false, decide_eq_false_iff_not, true_implies, false_implies, forall_const, implies_true, List.map_cons, List.map_nil, Bool.true_eq_false, Bool.false_eq_true, List.getElem?_cons_zero, List.getElem?_cons_succ, Option.getD_some, Option.bind_some, Option.isSome_some, Option.map_some, Option.map_none, some?_some, List.cons_append, List.nil_append, List.append_nil, Int.toNat_natCast, nn0, Nat.zero_add, Nat.mul_one, and_true, true_and, true_or, or_true, List.mem_cons, List.not_mem_nil, forall_eq_or_imp, forall_eq, reduceCtorEq, obls_cons, obls_nil, readsOf, tmpL, opL, optL, guardL, and_imp, Option.some.injEq, forall_eq', hsl]
      · rintro S' rfl
        simp (config := { contextual := true, decide := true }) only [↓pre, post, reduceIte, guardTmp, packRes, if_true, if_false, ite_true, ite_false, decide_eq_true_eq, decide_true, decide_false, decide_eq_false_iff_not, true_implies, false_implies, forall_const, implies_true, List.map_cons, List.map_nil, Bool.true_eq_false, Bool.false_eq_true, List.getElem?_cons_zero, List.getElem?_cons_succ, Option.getD_some, Option.bind_some, Option.isSome_some, Option.map_some, Option.map_none, some?_some, List.cons_append, List.nil_append, List.append_nil, Int.toNat_natCast, nn0, Nat.zero_add, Nat.mul_one, and_true, true_and, true_or, or_true, List.mem_cons, List.not_mem_nil, forall_eq_or_imp, forall_eq, List.cons_append, List.nil_append]
        refine callK_of (make_spec (ls := rest) (.inl rfl) (by simp at hl; omega) fun S2 h2 => ?_)
        have g2 := h2 _ _ (HS.set_same _ _ _)
        have hq := fun cs => h (S2.set l (.row cs)) (((Fr.new _ hn).trans h2).set _ hn)
        have hst : ∀ cs : List HV, cs.length = 4 → hstore Tryd.prog 27 S2 (.ptr l 0) (.agg cs) = some (S2.set l (.row cs)) := fun cs hc => hstore_agg ti27 g2 rfl hc
        have hld : ∀ cs : List HV, cs.length = 4 → hload Tryd.prog 27 (S2.set l (.row cs)) (.ptr l 0) = some (.agg cs) := fun cs hc => hload_agg ti27 rfl (HS.set_same _ _ _) hc
        have hk : namedF (a :: rest) e w = match makeOk rest [] with | none => (⟨0, [], [], 0⟩, false) | some n => if rest = [] ∧ w = e then (⟨0, [], [], 0⟩, false) else (⟨w, n, [], 0⟩, true) := by
          simp [namedF, c]
        rw [hk] at hq
        cases hm : makeOk rest [] with
        | none =>
          rw [hm] at hq
          simp (config := { contextual := true, decide := true }) only [↓pre, post, reduceIte, guardTmp, packRes, if_true, if_false, ite_true, ite_false, decide_eq_true_eq, decide_true, decide_false, decide_eq_false_iff_not, true_implies, false_implies, forall_const, implies_true, List.map_cons, List.map_nil, Bool.true_eq_false, Bool.false_eq_true, List.getElem?_cons_zero, List.getElem?_cons_succ, Option.getD_some, Option.bind_some, Option.isSome_some, Option.map_some, Option.map_none, some?_some, List.cons_append, List.nil_append, List.append_nil, Int.toNat_natCast, nn0, Nat.zero_add, Nat.mul_one, and_true, true_and, true_or, or_true, List.mem_cons, List.not_mem_nil, forall_eq_or_imp, forall_eq, nameRes, Bool.not_false, Bool.not_true, lenFits, Tryd.underlying62, hlen, List.length_cons, List.length_map, hbuild, hfill, splice, List.take_zero, List.take_succ_cons, List.drop_zero, List.drop_succ_cons, List.take_nil, List.drop_nil, HV.cellOk, HV.cells, List.length_cons, List.length_nil, ti27, Tryd.underlying27, sp27, hst, hld, List.cons_append, List.nil_append]
          exact hq _
        | some n =>
          rw [hm] at hq
          cases rest with
          | nil =>
            by_cases cw : w = e
            · have cw' : (w = e) = True := eq_true cw
              simp only [cw, and_self, if_true] at hq
              simp (config := { contextual := true, decide := true }) only [↓pre, post, reduceIte, guardTmp, packRes, if_true, if_false, ite_true, ite_false, decide_eq_true_eq, decide_true, decide_false, decide_eq_false_iff_not, true_implies, false_implies, forall_const, implies_true, List.map_cons, List.map_nil, Bool.true_eq_false, Bool.false_eq_true, List.getElem?_cons_zero, List.getElem?_cons_succ, Option.getD_some, Option.bind_some, Option.isSome_some, Option.map_some, Option.map_none, some?_some, List.cons_append, List.nil_append, List.append_nil, Int.toNat_natCast, nn0, Nat.zero_add, Nat.mul_one, and_true, true_and, true_or, or_true, List.mem_cons, List.not_mem_nil, forall_eq_or_imp, forall_eq, nameRes, Bool.not_false, Bool.not_true, lenFits, Tryd.underlying62, hlen, List.length_nil, hbuild, hfill, splice, List.take_zero, List.take_succ_cons, List.drop_zero, List.drop_succ_cons, List.take_nil, List.drop_nil, HV.cellOk, HV.cells, List.length_cons, List.length_nil, ti27, Tryd.underlying27, sp27, hst, hld, List.cons_append, List.nil_append, cw]
              exact hq _
            · have cw' : (w = e) = False := eq_false cw
              simp only [cw, and_false, if_false] at hq
              simp (config := { contextual := true, decide := true }) only [↓pre, post, reduceIte, guardTmp, packRes, if_true, if_false, ite_true, ite_false, decide_eq_true_eq, decide_true, decide_false, decide_eq_false_iff_not, true_implies, false_implies, forall_const, implies_true, List.map_cons, List.map_nil, Bool.true_eq_false, Bool.false_eq_true, List.getElem?_cons_zero, List.getElem?_cons_succ, Option.getD_some, Option.bind_some, Option.isSome_some, Option.map_some, Option.map_none, some?_some, List.cons_append, List.nil_append, List.append_nil, Int.toNat_natCast, nn0, Nat.zero_add, Nat.mul_one, and_true, true_and, true_or, or_true, List.mem_cons, List.not_mem_nil, forall_eq_or_imp, forall_eq, nameRes, Bool.not_false, Bool.not_true, lenFits, Tryd.underlying62, hlen, List.length_nil, hbuild, hfill, splice, List.take_zero, List.take_succ_cons, List.drop_zero, List.drop_succ_cons, List.take_nil, List.drop_nil, HV.cellOk, HV.cells, List.length_cons, List.length_nil, ti27, Tryd.underlying27, sp27, hst, hld, List.cons_append, List.nil_append, cw']
              exact hq _
          | cons b rest' =>
            have h00 : (((rest'.length + 1 : Nat) : Int) = 0) = False := eq_false (by omega)
            simp only [reduceCtorEq, false_and, if_false] at hq
            simp (config := { contextual := true, decide := true }) only [↓pre, post, reduceIte, guardTmp, packRes, if_true, if_false, ite_true, ite_false, decide_eq_true_eq, decide_true, decide_false, decide_eq_false_iff_not, true_implies, false_implies, forall_const, implies_true, List.map_cons, List.map_nil, Bool.true_eq_false, Bool.false_eq_true, List.getElem?_cons_zero, List.getElem?_cons_succ, Option.getD_some, Option.bind_some, Option.isSome_some, Option.map_some, Option.map_none, some?_some, List.cons_append, List.nil_append, List.append_nil, Int.toNat_natCast, nn0, Nat.zero_add, Nat.mul_one, and_true, true_and, true_or, or_true, List.mem_cons, List.not_mem_nil, forall_eq_or_imp, forall_eq, nameRes, Bool.not_false, Bool.not_true, lenFits, Tryd.underlying62, hlen, List.length_cons, List.length_map, h00, hbuild, hfill, splice, List.take_zero, List.take_succ_cons, List.drop_zero, List.drop_succ_cons, List.take_nil, List.drop_nil, HV.cellOk, HV.cells, List.length_cons, List.length_nil, ti27, Tryd.underlying27, sp27, hst, hld, List.cons_append, List.nil_append]
            exact hq _
    · have c' : (B a = ({ data := #[42] } : ByteArray)) = False := eq_false (fun e => c (B_inj.1 e))
      simp (config := { contextual := true, decide := true }) only [↓pre, post, reduceIte, guardTmp, packRes, if_true, if_false, ite_true, ite_false, decide_eq_true_eq, decide_true, decide_false, decide_eq_false_iff_not, true_implies, false_implies, forall_const, implies_true, List.map_cons, List.map_nil, Bool.true_eq_false, Bool.false_eq_true, List.getElem?_cons_zero, List.getElem?_cons_succ, Option.getD_some, Option.bind_some, Option.isSome_some, Option.map_some, Option.map_none, some?_some, List.cons_append, List.nil_append, List.append_nil, Int.toNat_natCast, nn0, Nat.zero_add, Nat.mul_one, and_true, true_and, true_or, or_true, List.mem_cons, List.not_mem_nil, forall_eq_or_imp, forall_eq, strs, lenFits, Tryd.underlying62, hlen, List.length_cons, List.length_map, h0', hindexAddr, hint, ti9, hz1, List.getElem?_cons_zero, hload, hcells, c', Int.toNat_zero, Int.le_refl]
      refine callK_of (make_spec (ls := a :: rest) (.inl rfl) (by simpa using hl) fun S2 h2 => ?_)
      have g2 := h2 _ _ (HS.set_same _ _ _)
      have hq := fun cs => h (S2.set l (.row cs)) (((Fr.new _ hn).trans h2).set _ hn)
      have hst : ∀ cs : List HV, cs.length = 4 → hstore Tryd.prog 27 S2 (.ptr l 0) (.agg cs) = some (S2.set l (.row cs)) := fun cs hc => hstore_agg ti27 g2 rfl hc
      have hld : ∀ cs : List HV, cs.length = 4 → hload Tryd.prog 27 (S2.set l (.row cs)) (.ptr l 0) = some (.agg cs) := fun cs hc => hload_agg ti27 rfl (HS.set_same _ _ _) hc
      have hk : namedF (a :: rest) e w = match makeOk (a :: rest) [] with | none => (⟨0, [], [], 0⟩, false) | some n => (⟨e, n, [], 0⟩, true) := by
        simp [namedF, c]
      rw [hk] at hq
      have h00 : (((rest.length + 1 : Nat) : Int) = 0) = False := eq_false (by omega)
      cases hm : makeOk (a :: rest) [] with
      | none =>
        rw [hm] at hq
        simp (config := { contextual := true, decide := true }) only [↓pre, post, reduceIte, guardTmp, packRes, if_true, if_false, ite_true, ite_false, decide_eq_true_eq, decide_true, decide_false, decide_eq_false_iff_not, true_implies, false_implies, forall_const, implies_true, List.map_cons, List.map_nil, Bool.true_eq_false, Bool.false_eq_true, List.getElem?_cons_zero, List.getElem?_cons_succ, Option.getD_some, Option.bind_some, Option.isSome_some, Option.map_some, Option.map_none, some?_some, List.cons_append, List.nil_append, List.append_nil, Int.toNat_natCast, nn0, Nat.zero_add, Nat.mul_one, and_true, true_and, true_or, or_true, List.mem_cons, List.not_mem_nil, forall_eq_or_imp, forall_eq, nameRes, Bool.not_false, Bool.not_true, lenFits, Tryd.underlying62, hlen, List.length_cons, List.length_map, h00, hbuild, hfill, splice, List.take_zero, List.take_succ_cons, List.drop_zero, List.drop_succ_cons, List.take_nil, List.drop_nil, HV.cellOk, HV.cells, List.length_cons, List.length_nil, ti27, Tryd.underlying27, sp27, hst, hld]
        exact hq _
      | some n =>
        rw [hm] at hq
        simp (config := { contextual := true, decide := true }) only [↓pre, post, reduceIte, guardTmp, packRes, if_true, if_false, ite_true, ite_false, decide_eq_true_eq, decide_true, decide_false, decide_eq_false_iff_not, true_implies, false_implies, forall_const, implies_true, List.map_cons, List.map_nil, Bool.true_eq_false, Bool.false_eq_true, List.getElem?_cons_zero, List.getElem?_cons_succ, Option.getD_some, Option.bind_some, Option.isSome_some, Option.map_some, Option.map_none, some?_some, List.cons_append, List.nil_append, List.append_nil, Int.toNat_natCast, nn0, Nat.zero_add, Nat.mul_one, and_true, true_and, true_or, or_true, List.mem_cons, List.not_mem_nil, forall_eq_or_imp, forall_eq, nameRes, Bool.not_false, Bool.not_true, lenFits, Tryd.underlying62, hlen, List.length_cons, List.length_map, h00, hbuild, hfill, splice, List.take_zero, List.take_succ_cons, List.drop_zero, List.drop_succ_cons, List.take_nil, List.drop_nil, HV.cellOk, HV.cells, List.length_cons, List.length_nil, ti27, Tryd.underlying27, sp27, hst, hld]
        exact hq _
end Go.HL
