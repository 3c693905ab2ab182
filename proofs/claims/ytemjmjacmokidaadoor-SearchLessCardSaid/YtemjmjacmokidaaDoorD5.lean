import Derived.Test.YtemjmjacmokidaaDoorD4
set_option linter.all false
namespace Go.HL
open Go Go.Proofs
attribute [local congr] brK_congr moveK_congr boxK_congr condK_congr guardK_congr some?_congr someS_congr storeK_congr allocK_congr callK_congr fnK_congr codeK_congr convK_congr
set_option maxRecDepth 10000
variable {gl : Nat → List HV}
def may (s : List UInt8) : Bool := (labels s).isSome
theorem may_spec {S : HS} {s : List UInt8} {Q : HV → HS → Prop} (h : ∀ S', Fr S S' → Q (.bool (may s)) S') : Om Tryd.prog (cfg gl) (.call 46 [.str (B s)] S Q) := by
  refine call_tmps [2] 11 Tryd.func46 rfl rfl rfl rfl ?_
  simp (config := { contextual := true, decide := true }) only [↓pre, post, reduceIte, guardTmp, packRes, if_true, if_false, ite_true, ite_false, decide_eq_true_eq, decide_true, decide_false, decide_eq_false_iff_not, true_implies, false_implies, forall_const, implies_true, List.map_cons, List.map_nil, Bool.true_eq_false, Bool.false_eq_true, List.getElem?_cons_zero, List.getElem?_cons_succ, Option.getD_some, Option.bind_some, Option.isSome_some, Option.map_some, Option.map_none, some?_some, List.cons_append, List.nil_append, List.append_nil, Int.toNat_natCast, nn0, Nat.zero_add, Nat.mul_one, and_true, true_and, true_or, or_true, List.mem_cons, List.not_mem_nil, forall_eq_or_imp, forall_eq]
  refine callK_of (labels_spec fun x S1 h1 h2 => ?_)
  simp (config := { contextual := true, decide := true }) only [↓pre, post, reduceIte, guardTmp, packRes, if_true, if_false, ite_true, ite_false, decide_eq_true_eq, decide_true, decide_false, decide_eq_false_iff_not, true_implies, false_implies, forall_const, implies_true, List.map_cons, List.map_nil, Bool.true_eq_false, Bool.false_eq_true, List.getElem?_cons_zero, List.getElem?_cons_succ, Option.getD_some, Option.bind_some, Option.isSome_some, Option.map_some, Option.map_none, some?_some, List.cons_append, List.nil_append, List.append_nil, Int.toNat_natCast, nn0, Nat.zero_add, Nat.mul_one, and_true, true_and, true_or, or_true, List.mem_cons, List.not_mem_nil, forall_eq_or_imp, forall_eq]
  exact h S1 h1
def parent (s : List UInt8) : List UInt8 × Bool := match s with
  | [] => ([], false)
  | k :: rest => if may (k :: rest) then (rest.drop k.toNat, true) else ([], false)
theorem parent_cons {k : UInt8} {rest : List UInt8} : parent (k :: rest) = if may (k :: rest) = true then (rest.drop k.toNat, true) else ([], false) := rfl
theorem may_head {k : UInt8} {rest : List UInt8} (h : may (k :: rest) = true) : 1 ≤ k.toNat ∧ k.toNat ≤ 63 ∧ k.toNat ≤ rest.length ∧ rest.length ≤ 253 := by
  unfold may labels at h
  split at h
  · rename_i hc
    simp only [List.length_cons, cutN] at h hc
    split at h
    · rename_i h1; exact ⟨h1.1, h1.2.1, h1.2.2, by omega⟩
    · cases h
  · cases h
theorem parent_spec {S : HS} {s : List UInt8} {Q : HV → HS → Prop} (h : ∀ S', Fr S S' → Q (.tup [.str (B (parent s).1), .bool (parent s).2]) S') : Om Tryd.prog (cfg gl) (.call 26 [.str (B s)] S Q) := by
  refine call_tmps [2, 3] 18 Tryd.func26 rfl rfl rfl rfl ?_
  cases s with
  | nil =>
    simp (config := { contextual := true, decide := true }) only [↓pre, post, reduceIte, guardTmp, packRes, if_true, if_false, ite_true, ite_false, decide_eq_true_eq, decide_true, decide_false, decide_eq_false_iff_not, true_implies, false_implies, forall_const, implies_true, List.map_cons, List.map_nil, Bool.true_eq_false, Bool.false_eq_true, List.getElem?_cons_zero, List.getElem?_cons_succ, Option.getD_some, Option.bind_some, Option.isSome_some, Option.map_some, Option.map_none, some?_some, List.cons_append, List.nil_append, List.append_nil, Int.toNat_natCast, nn0, Nat.zero_add, Nat.mul_one, and_true, true_and, true_or, or_true, List.mem_cons, List.not_mem_nil, forall_eq_or_imp, forall_eq, lenFits, Tryd.underlying23, hlen, B_size, List.length_nil]
    exact h S (.refl S)
  | cons k rest =>
    have h0' : (((rest.length + 1 : Nat) : Int) = 0) = False := eq_false (by omega)
    simp (config := { contextual := true, decide := true }) only [↓pre, post, reduceIte, guardTmp, packRes, if_true, if_false, ite_true, ite_false, decide_eq_true_eq, decide_true, decide_false, decide_eq_false_iff_not, true_implies, false_implies, forall_const, implies_true, List.map_cons, List.map_nil, Bool.true_eq_false, Bool.false_eq_true, List.getElem?_cons_zero, List.getElem?_cons_succ, Option.getD_some, Option.bind_some, Option.isSome_some, Option.map_some, Option.map_none, some?_some, List.cons_append, List.nil_append, List.append_nil, Int.toNat_natCast, nn0, Nat.zero_add, Nat.mul_one, and_true, true_and, true_or, or_true, List.mem_cons, List.not_mem_nil, forall_eq_or_imp, forall_eq, lenFits, Tryd.underlying23, hlen, B_size, List.length_cons, h0']
    refine callK_of (may_spec fun S1 h1 => ?_)
    have hq := h S1 h1
    rw [parent_cons] at hq
    cases hm : may (k :: rest) with
    | false =>
      simp only [hm, if_true, Bool.false_eq_true, if_false] at hq
      simp (config := { contextual := true, decide := true }) only [↓pre, post, reduceIte, guardTmp, packRes, if_true, if_false, ite_true, ite_false, decide_eq_true_eq, decide_true, decide_false, decide_eq_false_iff_not, true_implies, false_implies, forall_const, implies_true, List.map_cons, List.map_nil, Bool.true_eq_false, Bool.false_eq_true, List.getElem?_cons_zero, List.getElem?_cons_succ, Option.getD_some, Option.bind_some, Option.isSome_some, Option.map_some, Option.map_none, some?_some, List.cons_append, List.nil_append, List.append_nil, Int.toNat_natCast, nn0, Nat.zero_add, Nat.mul_one, and_true, true_and, true_or, or_true, List.mem_cons, List.not_mem_nil, forall_eq_or_imp, forall_eq, lenFits, Tryd.underlying23, hlen, B_size, List.length_cons, h0', Bool.not_false, Bool.not_true]
      exact hq
    | true =>
      simp only [hm, if_true, Bool.false_eq_true, if_false] at hq
      obtain ⟨m1, m2, m3, m4⟩ := may_head hm
      have hix : hindex Tryd.prog 23 (.v (.string (B (k :: rest)))) (.v (.int .i64 0)) = some (.v (.int .u8 k.toNat)) := by simp [hindex, hint, Tryd.underlying23, B_get]
      have hwk : IntKind.i64.wrap (k.toNat : Int) = k.toNat := i64_nat (by omega)
      have hw2 : IntKind.i64.wrap (1 + (k.toNat : Int)) = ((1 + k.toNat : Nat) : Int) := by rw [IntWalk.i64_in _ (by omega)]; omega
      have hsl2 : sliceV Tryd.prog 23 (.v (.string (B (k :: rest)))) (some (.v (.int .i64 ((1 + k.toNat : Nat) : Int)))) none none = some (.v (.string (B (rest.drop k.toNat)))) := by
        rw [str_from Tryd.underlying23 (by omega) (by simp; omega)]
        simp [Nat.add_comm 1]
      simp (config := { contextual := true, decide := true }) only [↓pre, post, reduceIte, guardTmp, packRes, if_true, if_false, ite_true, ite_false, decide_eq_true_eq, decide_true, decide_false, decide_eq_false_iff_not, true_implies, false_implies, forall_const, implies_true, List.map_cons, List.map_nil, Bool.true_eq_false, Bool.false_eq_true, List.getElem?_cons_zero, List.getElem?_cons_succ, Option.getD_some, Option.bind_some, Option.isSome_some, Option.map_some, Option.map_none, some?_some, List.cons_append, List.nil_append, List.append_nil, Int.toNat_natCast, nn0, Nat.zero_add, Nat.mul_one, and_true, true_and, true_or, or_true, List.mem_cons, List.not_mem_nil, forall_eq_or_imp, forall_eq, lenFits, Tryd.underlying23, hlen, B_size, List.length_cons, h0', Bool.not_false, Bool.not_true, hix, hwk, hw2, hsl2, conv_int Tryd.underlying5 Tryd.underlying3]
      exact hq
def belowN : Nat → List UInt8 → List UInt8 → Bool
  | 0, _, _ => false
  | n + 1, s, on => if s = on then true else if (parent s).2 then belowN n (parent s).1 on else false
def below (s on : List UInt8) : Bool := (may s && may on) && belowN (s.length + 1) s on
theorem parent_len {s : List UInt8} (h : (parent s).2 = true) : (parent s).1.length < s.length := by
  cases s with
  | nil => simp [parent] at h
  | cons k rest =>
    rw [parent_cons] at h ⊢
    by_cases hm : may (k :: rest) = true
    · rw [if_pos hm]
      simp; omega
    · rw [if_neg hm] at h; cases h
theorem below_spec {S : HS} {s on : List UInt8} {Q : HV → HS → Prop} (h : ∀ S', Fr S S' → Q (.bool (below s on)) S') : Om Tryd.prog (cfg gl) (.call 56 [.str (B s), .str (B on)] S Q) := by
  refine call_tmps [4] 21 Tryd.func56 rfl rfl rfl rfl ?_
  simp (config := { contextual := true, decide := true }) only [↓pre, post, reduceIte, guardTmp, packRes, if_true, if_false, ite_true, ite_false, decide_eq_true_eq, decide_true, decide_false, decide_eq_false_iff_not, true_implies, false_implies, forall_const, implies_true, List.map_cons, List.map_nil, Bool.true_eq_false, Bool.false_eq_true, List.getElem?_cons_zero, List.getElem?_cons_succ, Option.getD_some, Option.bind_some, Option.isSome_some, Option.map_some, Option.map_none, some?_some, List.cons_append, List.nil_append, List.append_nil, Int.toNat_natCast, nn0, Nat.zero_add, Nat.mul_one, and_true, true_and, true_or, or_true, List.mem_cons, List.not_mem_nil, forall_eq_or_imp, forall_eq]
  refine callK_of (may_spec fun S1 h1 => ?_)
  cases hm : may s with
  | false =>
    simp (config := { contextual := true, decide := true }) only [↓pre, post, reduceIte, guardTmp, packRes, if_true, if_false, ite_true, ite_false, decide_eq_true_eq, decide_true, decide_false, decide_eq_false_iff_not, true_implies, false_implies, forall_const, implies_true, List.map_cons, List.map_nil, Bool.true_eq_false, Bool.false_eq_true, List.getElem?_cons_zero, List.getElem?_cons_succ, Option.getD_some, Option.bind_some, Option.isSome_some, Option.map_some, Option.map_none, some?_some, List.cons_append, List.nil_append, List.append_nil, Int.toNat_natCast, nn0, Nat.zero_add, Nat.mul_one, and_true, true_and, true_or, or_true, List.mem_cons, List.not_mem_nil, forall_eq_or_imp, forall_eq, hm]
    refine loopK (fun env S' => Fr S S' ∧ ∃ (s' : List UInt8) (m : Bool) (n : Nat), env 0 = .str (B s') ∧ env 1 = .str (B on) ∧ env 5 = .bool m ∧ s'.length < n ∧ below s on = (m && belowN n s' on))
      (fun env _ => match env 5, env 0 with | .v (.bool true), .v (.string b) => b.size + 1 | _, _ => 0) ?_ ?_
    · simp (config := { contextual := true, decide := true }) only [↓pre, post, reduceIte, guardTmp, packRes, if_true, if_false, ite_true, ite_false, decide_eq_true_eq, decide_true, decide_false, decide_eq_false_iff_not, true_implies, false_implies, forall_const, implies_true, List.map_cons, List.map_nil, Bool.true_eq_false, Bool.false_eq_true, List.getElem?_cons_zero, List.getElem?_cons_succ, Option.getD_some, Option.bind_some, Option.isSome_some, Option.map_some, Option.map_none, some?_some, List.cons_append, List.nil_append, List.append_nil, Int.toNat_natCast, nn0, Nat.zero_add, Nat.mul_one, and_true, true_and, true_or, or_true, List.mem_cons, List.not_mem_nil, forall_eq_or_imp, forall_eq]
      exact ⟨h1, s, _, s.length + 1, rfl, rfl, by omega, by simp [below, hm]⟩
    · rintro env S' ⟨hfr, s', m, n, e0, e1, e5, hn, hb⟩
      obtain ⟨n, rfl⟩ : ∃ n', n = n' + 1 := ⟨n - 1, by omega⟩
      cases m with
      | false =>
        simp (config := { contextual := true, decide := true }) only [↓pre, post, reduceIte, guardTmp, packRes, if_true, if_false, ite_true, ite_false, decide_eq_true_eq, decide_true, decide_false, decide_eq_false_iff_not, true_implies, false_implies, forall_const, implies_true, List.map_cons, List.map_nil, Bool.true_eq_false, Bool.false_eq_true, List.getElem?_cons_zero, List.getElem?_cons_succ, Option.getD_some, Option.bind_some, Option.isSome_some, Option.map_some, Option.map_none, some?_some, List.cons_append, List.nil_append, List.append_nil, Int.toNat_natCast, nn0, Nat.zero_add, Nat.mul_one, and_true, true_and, true_or, or_true, List.mem_cons, List.not_mem_nil, forall_eq_or_imp, forall_eq, e0, e1, e5]
        have := h S' hfr
        rw [hb] at this
        exact this
      | true =>
        by_cases c : s' = on
        · have c' : (B s' = B on) = True := eq_true (by rw [c])
          simp (config := { contextual := true, decide := true }) only [↓pre, post, reduceIte, guardTmp, packRes, if_true, if_false, ite_true, ite_false, decide_eq_true_eq, decide_true, decide_false, decide_eq_false_iff_not, true_implies, false_implies, forall_const, implies_true, List.map_cons, List.map_nil, Bool.true_eq_false, Bool.false_eq_true, List.getElem?_cons_zero, List.getElem?_cons_succ, Option.getD_some, Option.bind_some, Option.isSome_some, Option.map_some, Option.map_none, some?_some, List.cons_append, List.nil_append, List.append_nil, Int.toNat_natCast, nn0, Nat.zero_add, Nat.mul_one, and_true, true_and, true_or, or_true, List.mem_cons, List.not_mem_nil, forall_eq_or_imp, forall_eq, e0, e1, e5, c']
          have := h S' hfr
          rw [hb] at this
          simpa [belowN, c] using this
        · have c' : (B s' = B on) = False := eq_false (by rw [B_inj]; exact c)
          simp (config := { contextual := true, decide := true }) only [↓pre, post, reduceIte, guardTmp, packRes, if_true, if_false, ite_true, ite_false, decide_eq_true_eq, decide_true, decide_false, decide_eq_false_iff_not, true_implies, false_implies, forall_const, implies_true, List.map_cons, List.map_nil, Bool.true_eq_false, Bool.false_eq_true, List.getElem?_cons_zero, List.getElem?_cons_succ, Option.getD_some, Option.bind_some, Option.isSome_some, Option.map_some, Option.map_none, some?_some, List.cons_append, List.nil_append, List.append_nil, Int.toNat_natCast, nn0, Nat.zero_add, Nat.mul_one, and_true, true_and, true_or, or_true, List.mem_cons, List.not_mem_nil, forall_eq_or_imp, forall_eq, e0, e1, e5, c']
          refine callK_of (parent_spec fun S3 h3 => ?_)
          simp (config := { contextual := true, decide := true }) only [↓pre, post, reduceIte, guardTmp, packRes, if_true, if_false, ite_true, ite_false, decide_eq_true_eq, decide_true, decide_false, decide_eq_false_iff_not, true_implies, false_implies, forall_const, implies_true, List.map_cons, List.map_nil, Bool.true_eq_false, Bool.false_eq_true, List.getElem?_cons_zero, List.getElem?_cons_succ, Option.getD_some, Option.bind_some, Option.isSome_some, Option.map_some, Option.map_none, some?_some, List.cons_append, List.nil_append, List.append_nil, Int.toNat_natCast, nn0, Nat.zero_add, Nat.mul_one, and_true, true_and, true_or, or_true, List.mem_cons, List.not_mem_nil, forall_eq_or_imp, forall_eq, e0, e1, e5]
          simp only [belowN, c, if_false, Bool.true_and] at hb
          cases hp : (parent s').2 with
          | false =>
            refine ⟨⟨hfr.trans h3, _, _, (parent s').1.length + 1, rfl, rfl, by omega, ?_⟩, by simp [B_size]⟩
            rw [hb, hp]; simp
          | true =>
            have := parent_len hp
            refine ⟨⟨hfr.trans h3, _, _, n, rfl, rfl, by omega, ?_⟩, by simp [B_size]; omega⟩
            rw [hb, hp]; simp
  | true =>
    simp (config := { contextual := true, decide := true }) only [↓pre, post, reduceIte, guardTmp, packRes, if_true, if_false, ite_true, ite_false, decide_eq_true_eq, decide_true, decide_false, decide_eq_false_iff_not, true_implies, false_implies, forall_const, implies_true, List.map_cons, List.map_nil, Bool.true_eq_false, Bool.false_eq_true, List.getElem?_cons_zero, List.getElem?_cons_succ, Option.getD_some, Option.bind_some, Option.isSome_some, Option.map_some, Option.map_none, some?_some, List.cons_append, List.nil_append, List.append_nil, Int.toNat_natCast, nn0, Nat.zero_add, Nat.mul_one, and_true, true_and, true_or, or_true, List.mem_cons, List.not_mem_nil, forall_eq_or_imp, forall_eq, hm]
    refine callK_of (may_spec fun S2 h2 => ?_)
    have h1 := h1.trans h2
    simp (config := { contextual := true, decide := true }) only [↓pre, post, reduceIte, guardTmp, packRes, if_true, if_false, ite_true, ite_false, decide_eq_true_eq, decide_true, decide_false, decide_eq_false_iff_not, true_implies, false_implies, forall_const, implies_true, List.map_cons, List.map_nil, Bool.true_eq_false, Bool.false_eq_true, List.getElem?_cons_zero, List.getElem?_cons_succ, Option.getD_some, Option.bind_some, Option.isSome_some, Option.map_some, Option.map_none, some?_some, List.cons_append, List.nil_append, List.append_nil, Int.toNat_natCast, nn0, Nat.zero_add, Nat.mul_one, and_true, true_and, true_or, or_true, List.mem_cons, List.not_mem_nil, forall_eq_or_imp, forall_eq, hm]
    refine loopK (fun env S' => Fr S S' ∧ ∃ (s' : List UInt8) (m : Bool) (n : Nat), env 0 = .str (B s') ∧ env 1 = .str (B on) ∧ env 5 = .bool m ∧ s'.length < n ∧ below s on = (m && belowN n s' on))
      (fun env _ => match env 5, env 0 with | .v (.bool true), .v (.string b) => b.size + 1 | _, _ => 0) ?_ ?_
    · simp (config := { contextual := true, decide := true }) only [↓pre, post, reduceIte, guardTmp, packRes, if_true, if_false, ite_true, ite_false, decide_eq_true_eq, decide_true, decide_false, decide_eq_false_iff_not, true_implies, false_implies, forall_const, implies_true, List.map_cons, List.map_nil, Bool.true_eq_false, Bool.false_eq_true, List.getElem?_cons_zero, List.getElem?_cons_succ, Option.getD_some, Option.bind_some, Option.isSome_some, Option.map_some, Option.map_none, some?_some, List.cons_append, List.nil_append, List.append_nil, Int.toNat_natCast, nn0, Nat.zero_add, Nat.mul_one, and_true, true_and, true_or, or_true, List.mem_cons, List.not_mem_nil, forall_eq_or_imp, forall_eq]
      exact ⟨h1, s, _, s.length + 1, rfl, rfl, by omega, by simp [below, hm]⟩
    · rintro env S' ⟨hfr, s', m, n, e0, e1, e5, hn, hb⟩
      obtain ⟨n, rfl⟩ : ∃ n', n = n' + 1 := ⟨n - 1, by omega⟩
      cases m with
      | false =>
        simp (config := { contextual := true, decide := true }) only [↓pre, post, reduceIte, guardTmp, packRes, if_true, if_false, ite_true, ite_false, decide_eq_true_eq, decide_true, decide_false, decide_eq_false_iff_not, true_implies, false_implies, forall_const, implies_true, List.map_cons, List.map_nil, Bool.true_eq_false, Bool.false_eq_true, List.getElem?_cons_zero, List.getElem?_cons_succ, Option.getD_some, Option.bind_some, Option.isSome_some, Option.map_some, Option.map_none, some?_some, List.cons_append, List.nil_append, List.append_nil, Int.toNat_natCast, nn0, Nat.zero_add, Nat.mul_one, and_true, true_and, true_or, or_true, List.mem_cons, List.not_mem_nil, forall_eq_or_imp, forall_eq, e0, e1, e5]
        have := h S' hfr
        rw [hb] at this
        exact this
      | true =>
        by_cases c : s' = on
        · have c' : (B s' = B on) = True := eq_true (by rw [c])
          simp (config := { contextual := true, decide := true }) only [↓pre, post, reduceIte, guardTmp, packRes, if_true, if_false, ite_true, ite_false, decide_eq_true_eq, decide_true, decide_false, decide_eq_false_iff_not, true_implies, false_implies, forall_const, implies_true, List.map_cons, List.map_nil, Bool.true_eq_false, Bool.false_eq_true, List.getElem?_cons_zero, List.getElem?_cons_succ, Option.getD_some, Option.bind_some, Option.isSome_some, Option.map_some, Option.map_none, some?_some, List.cons_append, List.nil_append, List.append_nil, Int.toNat_natCast, nn0, Nat.zero_add, Nat.mul_one, and_true, true_and, true_or, or_true, List.mem_cons, List.not_mem_nil, forall_eq_or_imp, forall_eq, e0, e1, e5, c']
          have := h S' hfr
          rw [hb] at this
          simpa [belowN, c] using this
        · have c' : (B s' = B on) = False := eq_false (by rw [B_inj]; exact c)
          simp (config := { contextual := true, decide := true }) only [↓pre, post, reduceIte, guardTmp, packRes, if_true, if_false, ite_true, ite_false, decide_eq_true_eq, decide_true, decide_false, decide_eq_false_iff_not, true_implies, false_implies, forall_const, implies_true, List.map_cons, List.map_nil, Bool.true_eq_false, Bool.false_eq_true, List.getElem?_cons_zero, List.getElem?_cons_succ, Option.getD_some, Option.bind_some, Option.isSome_some, Option.map_some, Option.map_none, some?_some, List.cons_append, List.nil_append, List.append_nil, Int.toNat_natCast, nn0, Nat.zero_add, Nat.mul_one, and_true, true_and, true_or, or_true, List.mem_cons, List.not_mem_nil, forall_eq_or_imp, forall_eq, e0, e1, e5, c']
          refine callK_of (parent_spec fun S3 h3 => ?_)
          simp (config := { contextual := true, decide := true }) only [↓pre, post, reduceIte, guardTmp, packRes, if_true, if_false, ite_true, ite_false, decide_eq_true_eq, decide_true, decide_false, decide_eq_false_iff_not, true_implies, false_implies, forall_const, implies_true, List.map_cons, List.map_nil, Bool.true_eq_false, Bool.false_eq_true, List.getElem?_cons_zero, List.getElem?_cons_succ, Option.getD_some, Option.bind_some, Option.isSome_some, Option.map_some, Option.map_none, some?_some, List.cons_append, List.nil_append, List.append_nil, Int.toNat_natCast, nn0, Nat.zero_add, Nat.mul_one, and_true, true_and, true_or, or_true, List.mem_cons, List.not_mem_nil, forall_eq_or_imp, forall_eq, e0, e1, e5]
          simp only [belowN, c, if_false, Bool.true_and] at hb
          cases hp : (parent s').2 with
          | false =>
            refine ⟨⟨hfr.trans h3, _, _, (parent s').1.length + 1, rfl, rfl, by omega, ?_⟩, by simp [B_size]⟩
            rw [hb, hp]; simp
          | true =>
            have := parent_len hp
            refine ⟨⟨hfr.trans h3, _, _, n, rfl, rfl, by omega, ?_⟩, by simp [B_size]; omega⟩
            rw [hb, hp]; simp
end Go.HL
