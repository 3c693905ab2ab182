import Derived.Test.YtemjmjacmokidaaDoorD3
set_option linter.all false
namespace Go.HL
open Go Go.Proofs
attribute [local congr] brK_congr moveK_congr boxK_congr condK_congr guardK_congr some?_congr someS_congr storeK_congr allocK_congr callK_congr fnK_congr codeK_congr convK_congr
set_option maxRecDepth 10000
variable {gl : Nat → List HV}
def cutN : Nat → List UInt8 → Option (List (List UInt8))
  | _, [] => some []
  | 0, _ :: _ => none
  | n + 1, k :: rest => if 1 ≤ k.toNat ∧ k.toNat ≤ 63 ∧ k.toNat ≤ rest.length then (cutN n (rest.drop k.toNat)).map (rest.take k.toNat :: ·) else none
def labels (s : List UInt8) : Option (List (List UInt8)) := if s.length ≤ 254 ∧ s = s.map foldB then cutN s.length s else none

theorem labels_spec {S : HS} {s : List UInt8} {Q : HV → HS → Prop} (h : ∀ x S', Fr S S' → Sl S S' 9 1 x (strs ((labels s).getD [])) → Q (.tup [x, .bool (labels s).isSome]) S') :
    Om Tryd.prog (cfg gl) (.call 36 [.str (B s)] S Q) := by
  refine call_tmps [2, 3] 47 Tryd.func36 rfl rfl rfl rfl ?_
  by_cases c1 : 254 < s.length
  · have c1' : (254 < (s.length : Int)) = True := eq_true (by omega)
    simp (config := { contextual := true, decide := true }) only [↓pre, post, reduceIte, guardTmp, packRes, if_true, if_false, ite_true, ite_false, decide_eq_true_eq, decide_true, decide_false, decide_eq_false_iff_not, true_implies, false_implies, forall_const, implies_true, List.map_cons, List.map_nil, Bool.true_eq_false, Bool.false_eq_true, List.getElem?_cons_zero, List.getElem?_cons_succ, Option.getD_some, Option.bind_some, Option.isSome_some, Option.map_some, Option.map_none, some?_some, List.cons_append, List.nil_append, List.append_nil, Int.toNat_natCast, nn0, Nat.zero_add, Nat.mul_one, and_true, true_and, true_or, or_true, List.mem_cons, List.not_mem_nil, forall_eq_or_imp, forall_eq, lenFits, Tryd.underlying9, hlen, B_size, c1']
    have hn : labels s = none := by unfold labels; rw [if_neg (by omega)]
    have := h (.sl .full 0 []) S (.refl S)
    rw [hn] at this
    exact this .nil
  · have c1' : (254 < (s.length : Int)) = False := eq_false (by omega)
    simp (config := { contextual := true, decide := true }) only [↓pre, post, reduceIte, guardTmp, packRes, if_true, if_false, ite_true, ite_false, decide_eq_true_eq, decide_true, decide_false, decide_eq_false_iff_not, true_implies, false_implies, forall_const, implies_true, List.map_cons, List.map_nil, Bool.true_eq_false, Bool.false_eq_true, List.getElem?_cons_zero, List.getElem?_cons_succ, Option.getD_some, Option.bind_some, Option.isSome_some, Option.map_some, Option.map_none, some?_some, List.cons_append, List.nil_append, List.append_nil, Int.toNat_natCast, nn0, Nat.zero_add, Nat.mul_one, and_true, true_and, true_or, or_true, List.mem_cons, List.not_mem_nil, forall_eq_or_imp, forall_eq, lenFits, Tryd.underlying9, hlen, B_size, c1']
    refine callK_of (folded_spec s (by omega) _ _ fun S1 hf1 => ?_)
    by_cases c2 : s = s.map foldB
    · have c2' : (B s = B (s.map foldB)) = True := eq_true (by rw [← c2])
      simp (config := { contextual := true, decide := true }) only [↓pre, post, reduceIte, guardTmp, packRes, if_true, if_false, ite_true, ite_false, decide_eq_true_eq, decide_true, decide_false, decide_eq_false_iff_not, true_implies, false_implies, forall_const, implies_true, List.map_cons, List.map_nil, Bool.true_eq_false, Bool.false_eq_true, List.getElem?_cons_zero, List.getElem?_cons_succ, Option.getD_some, Option.bind_some, Option.isSome_some, Option.map_some, Option.map_none, some?_some, List.cons_append, List.nil_append, List.append_nil, Int.toNat_natCast, nn0, Nat.zero_add, Nat.mul_one, and_true, true_and, true_or, or_true, List.mem_cons, List.not_mem_nil, forall_eq_or_imp, forall_eq, lenFits, Tryd.underlying9, hlen, B_size, c1', c2']
      have hl : labels s = cutN s.length s := by unfold labels; rw [if_pos ⟨by omega, c2⟩]
      refine loopK (fun env S' => Fr S S' ∧ ∃ (s' : List UInt8) (out : List (List UInt8)) (n : Nat), env 5 = .str (B s') ∧ Sl S S' 9 1 (env 4) (strs out) ∧ s'.length ≤ n ∧ s'.length + out.length ≤ 254 ∧ labels s = (cutN n s').map (out ++ ·))
        (fun env _ => match env 5 with | .v (.string b) => b.size | _ => 0) ?_ ?_
      · simp (config := { contextual := true, decide := true }) only [↓pre, post, reduceIte, guardTmp, packRes, if_true, if_false, ite_true, ite_false, decide_eq_true_eq, decide_true, decide_false, decide_eq_false_iff_not, true_implies, false_implies, forall_const, implies_true, List.map_cons, List.map_nil, Bool.true_eq_false, Bool.false_eq_true, List.getElem?_cons_zero, List.getElem?_cons_succ, Option.getD_some, Option.bind_some, Option.isSome_some, Option.map_some, Option.map_none, some?_some, List.cons_append, List.nil_append, List.append_nil, Int.toNat_natCast, nn0, Nat.zero_add, Nat.mul_one, and_true, true_and, true_or, or_true, List.mem_cons, List.not_mem_nil, forall_eq_or_imp, forall_eq]
        exact ⟨hf1, s, [], s.length, rfl, .nil, Nat.le_refl _, by simp; omega, by rw [hl]; cases cutN s.length s <;> simp⟩
      · rintro env S' ⟨hfr, s', out, n, h5, h4, hn, hlen', hm⟩
        obtain ⟨tk, z, hx, hz⟩ := h4.sz
        cases s' with
        | nil =>
          simp (config := { contextual := true, decide := true }) only [↓pre, post, reduceIte, guardTmp, packRes, if_true, if_false, ite_true, ite_false, decide_eq_true_eq, decide_true, decide_false, decide_eq_false_iff_not, true_implies, false_implies, forall_const, implies_true, List.map_cons, List.map_nil, Bool.true_eq_false, Bool.false_eq_true, List.getElem?_cons_zero, List.getElem?_cons_succ, Option.getD_some, Option.bind_some, Option.isSome_some, Option.map_some, Option.map_none, some?_some, List.cons_append, List.nil_append, List.append_nil, Int.toNat_natCast, nn0, Nat.zero_add, Nat.mul_one, and_true, true_and, true_or, or_true, List.mem_cons, List.not_mem_nil, forall_eq_or_imp, forall_eq, h5, lenFits, Tryd.underlying9, hlen, B_size]
          have hm2 : labels s = some out := by rw [hm]; cases n <;> simp [cutN]
          have := h (env 4) S' hfr
          rw [hm2] at this
          exact this h4
        | cons k rest =>
          have hk8 := k.toNat_lt
          have h0' : (0 < ((rest.length + 1 : Nat) : Int)) = True := eq_true (by omega)
          have hix : hindex Tryd.prog 9 (.v (.string (B (k :: rest)))) (.v (.int .i64 0)) = some (.v (.int .u8 k.toNat)) := by simp [hindex, hint, Tryd.underlying9, B_get]
          have hwk : IntKind.i64.wrap (k.toNat : Int) = k.toNat := i64_nat (by omega)
          have fail : ¬ (1 ≤ k.toNat ∧ k.toNat ≤ 63 ∧ k.toNat ≤ rest.length) → Q (.tup [.sl .full 0 [], .v (.bool false)]) S' := by
            intro hc
            have hm2 : labels s = none := by
              rw [hm]
              cases n with
              | zero => simp [cutN]
              | succ n => simp only [cutN]; rw [if_neg hc]; rfl
            have := h (.sl .full 0 []) S' hfr
            rw [hm2] at this
            exact this .nil
          by_cases c3 : k.toNat < 1
          · have c3' : ((k.toNat : Int) < 1) = True := eq_true (by omega)
            simp (config := { contextual := true, decide := true }) only [↓pre, post, reduceIte, guardTmp, packRes, if_true, if_false, ite_true, ite_false, decide_eq_true_eq, decide_true, decide_false, decide_eq_false_iff_not, true_implies, false_implies, forall_const, implies_true, List.map_cons, List.map_nil, Bool.true_eq_false, Bool.false_eq_true, List.getElem?_cons_zero, List.getElem?_cons_succ, Option.getD_some, Option.bind_some, Option.isSome_some, Option.map_some, Option.map_none, some?_some, List.cons_append, List.nil_append, List.append_nil, Int.toNat_natCast, nn0, Nat.zero_add, Nat.mul_one, and_true, true_and, true_or, or_true, List.mem_cons, List.not_mem_nil, forall_eq_or_imp, forall_eq, h5, lenFits, Tryd.underlying9, hlen, B_size, List.length_cons, h0', hix, conv_int Tryd.underlying5 Tryd.underlying3, hwk, c3']
            exact fail (by omega)
          have c3' : ((k.toNat : Int) < 1) = False := eq_false (by omega)
          by_cases c4 : 63 < k.toNat
          · have c4' : (63 < (k.toNat : Int)) = True := eq_true (by omega)
            simp (config := { contextual := true, decide := true }) only [↓pre, post, reduceIte, guardTmp, packRes, if_true, if_false, ite_true, ite_false, decide_eq_true_eq, decide_true, decide_false, decide_eq_false_iff_not, true_implies, false_implies, forall_const, implies_true, List.map_cons, List.map_nil, Bool.true_eq_false, Bool.false_eq_true, List.getElem?_cons_zero, List.getElem?_cons_succ, Option.getD_some, Option.bind_some, Option.isSome_some, Option.map_some, Option.map_none, some?_some, List.cons_append, List.nil_append, List.append_nil, Int.toNat_natCast, nn0, Nat.zero_add, Nat.mul_one, and_true, true_and, true_or, or_true, List.mem_cons, List.not_mem_nil, forall_eq_or_imp, forall_eq, h5, lenFits, Tryd.underlying9, hlen, B_size, List.length_cons, h0', hix, conv_int Tryd.underlying5 Tryd.underlying3, hwk, c3', c4']
            exact fail (by omega)
          have c4' : (63 < (k.toNat : Int)) = False := eq_false (by omega)
          by_cases c5 : (k :: rest).length ≤ k.toNat
          · have c5' : (((rest.length + 1 : Nat) : Int) ≤ (k.toNat : Int)) = True := eq_true (by simp at c5; omega)
            simp (config := { contextual := true, decide := true }) only [↓pre, post, reduceIte, guardTmp, packRes, if_true, if_false, ite_true, ite_false, decide_eq_true_eq, decide_true, decide_false, decide_eq_false_iff_not, true_implies, false_implies, forall_const, implies_true, List.map_cons, List.map_nil, Bool.true_eq_false, Bool.false_eq_true, List.getElem?_cons_zero, List.getElem?_cons_succ, Option.getD_some, Option.bind_some, Option.isSome_some, Option.map_some, Option.map_none, some?_some, List.cons_append, List.nil_append, List.append_nil, Int.toNat_natCast, nn0, Nat.zero_add, Nat.mul_one, and_true, true_and, true_or, or_true, List.mem_cons, List.not_mem_nil, forall_eq_or_imp, forall_eq, h5, lenFits, Tryd.underlying9, hlen, B_size, List.length_cons, h0', hix, conv_int Tryd.underlying5 Tryd.underlying3, hwk, c3', c4', c5']
            exact fail (by simp at c5; omega)
          have c5' : (((rest.length + 1 : Nat) : Int) ≤ (k.toNat : Int)) = False := eq_false (by simp at c5; omega)
          have hkr : k.toNat ≤ rest.length := by simp at c5; omega
          have hw2 : IntKind.i64.wrap (1 + (k.toNat : Int)) = ((1 + k.toNat : Nat) : Int) := by rw [IntWalk.i64_in _ (by omega)]; omega
          have hsl : sliceV Tryd.prog 9 (.v (.string (B (k :: rest)))) (some (.v (.int .i64 1))) (some (.v (.int .i64 ((1 + k.toNat : Nat) : Int)))) none = some (.v (.string (B (rest.take k.toNat)))) := by
            rw [str_mid Tryd.underlying9 (by omega) (by omega) (by simp; omega)]
            simp [Nat.add_comm 1]
          have hsl2 : sliceV Tryd.prog 9 (.v (.string (B (k :: rest)))) (some (.v (.int .i64 ((1 + k.toNat : Nat) : Int)))) none none = some (.v (.string (B (rest.drop k.toNat)))) := by
            rw [str_from Tryd.underlying9 (by omega) (by simp; omega)]
            simp [Nat.add_comm 1]
          simp (config := { contextual := true, decide := true }) only [↓pre, post, reduceIte, guardTmp, packRes, if_true, if_false, ite_true, ite_false, decide_eq_true_eq, decide_true, decide_false, decide_eq_false_iff_not, true_implies, false_implies, forall_const, implies_true, List.map_cons, List.map_nil, Bool.true_eq_false, Bool.false_eq_true, List.getElem?_cons_zero, List.getElem?_cons_succ, Option.getD_some, Option.bind_some, Option.isSome_some, Option.map_some, Option.map_none, some?_some, List.cons_append, List.nil_append, List.append_nil, Int.toNat_natCast, nn0, Nat.zero_add, Nat.mul_one, and_true, true_and, true_or, or_true, List.mem_cons, List.not_mem_nil, forall_eq_or_imp, forall_eq, h5, lenFits, Tryd.underlying9, hlen, B_size, List.length_cons, h0', hix, conv_int Tryd.underlying5 Tryd.underlying3, hwk, c3', c4', c5', hw2, hsl, hsl2, hbuildSlice, hfill, zeros, Nat.zero_mul, Nat.one_mul, splice, chunks, List.replicate_succ, List.replicate_zero, List.flatten_cons, List.flatten_nil, List.take_zero, List.take_succ_cons, List.drop_zero, List.drop_succ_cons, List.take_nil, List.drop_nil, HV.cellOk, HV.cells, List.length_cons, List.length_nil, Tryd.underlying62, ti9, show (cfg gl).mode "name.go:52" = false from rfl, se62, srcKind, elemTy, hrow]
          refine happend_Sl h4 (by decide) (by simp) (by simp [strs, roomy]; simp at hlen'; omega) (by simp [strs, roomy]; simp at hlen'; omega) hfr fun x1 S1 hf1 hx1 _ => ?_
          simp (config := { contextual := true, decide := true }) only [↓pre, post, reduceIte, guardTmp, packRes, if_true, if_false, ite_true, ite_false, decide_eq_true_eq, decide_true, decide_false, decide_eq_false_iff_not, true_implies, false_implies, forall_const, implies_true, List.map_cons, List.map_nil, Bool.true_eq_false, Bool.false_eq_true, List.getElem?_cons_zero, List.getElem?_cons_succ, Option.getD_some, Option.bind_some, Option.isSome_some, Option.map_some, Option.map_none, some?_some, List.cons_append, List.nil_append, List.append_nil, Int.toNat_natCast, nn0, Nat.zero_add, Nat.mul_one, and_true, true_and, true_or, or_true, List.mem_cons, List.not_mem_nil, forall_eq_or_imp, forall_eq, h5, lenFits, Tryd.underlying9, hlen, B_size, hw2, hsl2]
          have hn1 : ∃ n', n = n' + 1 := ⟨n - 1, by simp at hn; omega⟩
          obtain ⟨n', rfl⟩ := hn1
          refine ⟨⟨hf1, _, out ++ [rest.take k.toNat], n', rfl, by simpa [strs] using hx1, by simp at hn ⊢; omega, by simp at hlen' ⊢; omega, ?_⟩, by simp; omega⟩
          rw [hm]
          simp only [cutN]
          rw [if_pos ⟨by omega, by omega, hkr⟩]
          cases cutN n' (rest.drop k.toNat) <;> simp
    · have c2' : (B s = B (s.map foldB)) = False := eq_false (by rw [B_inj]; exact c2)
      simp (config := { contextual := true, decide := true }) only [↓pre, post, reduceIte, guardTmp, packRes, if_true, if_false, ite_true, ite_false, decide_eq_true_eq, decide_true, decide_false, decide_eq_false_iff_not, true_implies, false_implies, forall_const, implies_true, List.map_cons, List.map_nil, Bool.true_eq_false, Bool.false_eq_true, List.getElem?_cons_zero, List.getElem?_cons_succ, Option.getD_some, Option.bind_some, Option.isSome_some, Option.map_some, Option.map_none, some?_some, List.cons_append, List.nil_append, List.append_nil, Int.toNat_natCast, nn0, Nat.zero_add, Nat.mul_one, and_true, true_and, true_or, or_true, List.mem_cons, List.not_mem_nil, forall_eq_or_imp, forall_eq, lenFits, Tryd.underlying9, hlen, B_size, c1', c2']
      have hn : labels s = none := by unfold labels; rw [if_neg (by rintro ⟨_, h⟩; exact c2 h)]
      have := h (.sl .full 0 []) S1 hf1
      rw [hn] at this
      exact this .nil
end Go.HL
