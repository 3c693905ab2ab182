import Derived.Test.YtemjmjacmokidaaDoorD2
set_option linter.all false
namespace Go.HL
open Go Go.Proofs
attribute [local congr] brK_congr moveK_congr boxK_congr condK_congr guardK_congr some?_congr someS_congr storeK_congr allocK_congr callK_congr fnK_congr codeK_congr convK_congr
set_option maxRecDepth 10000
variable {gl : Nat → List HV}
def mk1 (l : List UInt8) : List UInt8 := UInt8.ofNat l.length :: l.map foldB
def makeOk (ls : List (List UInt8)) : List UInt8 → Option (List UInt8) := fun acc => match ls with
  | [] => some acc
  | l :: ls => if 1 ≤ l.length ∧ l.length ≤ 63 ∧ acc.length + 1 + l.length ≤ 254 then makeOk ls (acc ++ mk1 l) else none
theorem makeOk_cons {l : List UInt8} {ls : List (List UInt8)} {acc : List UInt8} : makeOk (l :: ls) acc = if 1 ≤ l.length ∧ l.length ≤ 63 ∧ acc.length + 1 + l.length ≤ 254 then makeOk ls (acc ++ mk1 l) else none := by rw [makeOk]
def strs (ls : List (List UInt8)) : List (List HV) := ls.map fun l => [HV.str (B l)]
def nameRes (r : Option (List UInt8)) : HV := match r with | some n => .tup [.str (B n), .bool true] | none => .tup [.str (B []), .bool false]

theorem make_spec {S : HS} {tk : Tok} {z : Nat} {ls : List (List UInt8)} {Q : HV → HS → Prop} (hz : z = 1 ∨ ls = []) (hl : ls.length < 1000000) (h : ∀ S', Fr S S' → Q (nameRes (makeOk ls [])) S') :
    Om Tryd.prog (cfg gl) (.call 15 [.sl tk z (strs ls)] S Q) := by
  refine call_tmps [2, 3] 38 Tryd.func15 rfl rfl rfl rfl ?_
  simp (config := { contextual := true, decide := true }) only [↓pre, post, reduceIte, guardTmp, packRes, if_true, if_false, ite_true, ite_false, decide_eq_true_eq, decide_true, decide_false, decide_eq_false_iff_not, true_implies, false_implies, forall_const, implies_true, List.map_cons, List.map_nil, Bool.true_eq_false, Bool.false_eq_true, List.getElem?_cons_zero, List.getElem?_cons_succ, Option.getD_some, Option.bind_some, Option.isSome_some, Option.map_some, Option.map_none, some?_some, List.cons_append, List.nil_append, List.append_nil, Int.toNat_natCast, nn0, Nat.zero_add, Nat.mul_one, and_true, true_and, true_or, or_true, List.mem_cons, List.not_mem_nil, forall_eq_or_imp, forall_eq, ti89, lenFits, Tryd.underlying62, hlen]
  intro l hln hlt
  refine loopK (fun env S' => env 7 = .sl tk z (strs ls) ∧ env 8 = .int .i64 ls.length ∧ env 4 = .ptr l 0 ∧ ∃ (k : Nat) (acc : List UInt8), k ≤ ls.length ∧ acc.length ≤ 254 ∧ env 9 = .int .i64 k ∧ Bd S S' l acc ∧ makeOk ls [] = makeOk (ls.drop k) acc)
    (fun env _ => match env 9 with | .v (.int _ k) => ls.length - k.toNat | _ => 0) ?_ ?_
  · simp (config := { contextual := true, decide := true }) only [↓pre, post, reduceIte, guardTmp, packRes, if_true, if_false, ite_true, ite_false, decide_eq_true_eq, decide_true, decide_false, decide_eq_false_iff_not, true_implies, false_implies, forall_const, implies_true, List.map_cons, List.map_nil, Bool.true_eq_false, Bool.false_eq_true, List.getElem?_cons_zero, List.getElem?_cons_succ, Option.getD_some, Option.bind_some, Option.isSome_some, Option.map_some, Option.map_none, some?_some, List.cons_append, List.nil_append, List.append_nil, Int.toNat_natCast, nn0, Nat.zero_add, Nat.mul_one, and_true, true_and, true_or, or_true, List.mem_cons, List.not_mem_nil, forall_eq_or_imp, forall_eq]
    refine ⟨by simp [strs], 0, [], by simp, by simp, rfl, Bd.init (.refl S) hln hlt, rfl⟩
  · rintro env S' ⟨h7, h8, h4, k, acc, hk, ha, h9, hb, hm⟩
    by_cases hlk : k < ls.length
    · have hlk' : ((k : Int) < (ls.length : Int)) = True := eq_true (by omega)
      have hg : (strs ls)[k]? = some [.str (B ls[k])] := by simp [strs, hlk]
      have hz1 : z = 1 := by rcases hz with h | h; exact h; subst h; simp at hlk
      have hd : ls.drop k = ls[k] :: ls.drop (k + 1) := List.drop_eq_getElem_cons hlk
      rw [hd] at hm
      rw [makeOk_cons] at hm
      by_cases c1 : ls[k].length < 1
      · have c1' : ((ls[k].length : Int) < 1) = True := eq_true (by omega)
        rw [if_neg (by omega)] at hm
        simp (config := { contextual := true, decide := true }) only [↓pre, post, reduceIte, guardTmp, packRes, if_true, if_false, ite_true, ite_false, decide_eq_true_eq, decide_true, decide_false, decide_eq_false_iff_not, true_implies, false_implies, forall_const, implies_true, List.map_cons, List.map_nil, Bool.true_eq_false, Bool.false_eq_true, List.getElem?_cons_zero, List.getElem?_cons_succ, Option.getD_some, Option.bind_some, Option.isSome_some, Option.map_some, Option.map_none, some?_some, List.cons_append, List.nil_append, List.append_nil, Int.toNat_natCast, nn0, Nat.zero_add, Nat.mul_one, and_true, true_and, true_or, or_true, List.mem_cons, List.not_mem_nil, forall_eq_or_imp, forall_eq, h7, h8, h4, h9, hlk', hindexAddr, hint, Tryd.underlying62, ti9, hg, hz1, hload, hcells, lenFits, Tryd.underlying9, hlen, B_size, c1']
        have := h S' hb.fr
        rw [hm] at this
        exact this
      · have c1' : ((ls[k].length : Int) < 1) = False := eq_false (by omega)
        by_cases c2 : 63 < ls[k].length
        · have c2' : (63 < (ls[k].length : Int)) = True := eq_true (by omega)
          rw [if_neg (by omega)] at hm
          simp (config := { contextual := true, decide := true }) only [↓pre, post, reduceIte, guardTmp, packRes, if_true, if_false, ite_true, ite_false, decide_eq_true_eq, decide_true, decide_false, decide_eq_false_iff_not, true_implies, false_implies, forall_const, implies_true, List.map_cons, List.map_nil, Bool.true_eq_false, Bool.false_eq_true, List.getElem?_cons_zero, List.getElem?_cons_succ, Option.getD_some, Option.bind_some, Option.isSome_some, Option.map_some, Option.map_none, some?_some, List.cons_append, List.nil_append, List.append_nil, Int.toNat_natCast, nn0, Nat.zero_add, Nat.mul_one, and_true, true_and, true_or, or_true, List.mem_cons, List.not_mem_nil, forall_eq_or_imp, forall_eq, h7, h8, h4, h9, hlk', hindexAddr, hint, Tryd.underlying62, ti9, hg, hz1, hload, hcells, lenFits, Tryd.underlying9, hlen, B_size, c1', c2']
          have := h S' hb.fr
          rw [hm] at this
          exact this
        · have c2' : (63 < (ls[k].length : Int)) = False := eq_false (by omega)
          simp (config := { contextual := true, decide := true }) only [↓pre, post, reduceIte, guardTmp, packRes, if_true, if_false, ite_true, ite_false, decide_eq_true_eq, decide_true, decide_false, decide_eq_false_iff_not, true_implies, false_implies, forall_const, implies_true, List.map_cons, List.map_nil, Bool.true_eq_false, Bool.false_eq_true, List.getElem?_cons_zero, List.getElem?_cons_succ, Option.getD_some, Option.bind_some, Option.isSome_some, Option.map_some, Option.map_none, some?_some, List.cons_append, List.nil_append, List.append_nil, Int.toNat_natCast, nn0, Nat.zero_add, Nat.mul_one, and_true, true_and, true_or, or_true, List.mem_cons, List.not_mem_nil, forall_eq_or_imp, forall_eq, h7, h8, h4, h9, hlk', hindexAddr, hint, Tryd.underlying62, ti9, hg, hz1, hload, hcells, lenFits, Tryd.underlying9, hlen, B_size, c1', c2']
          refine callK_of (len_spec hb ?_)
          by_cases c3 : 254 < acc.length + 1 + ls[k].length
          · have c3' : (254 < IntKind.i64.wrap (IntKind.i64.wrap ((acc.length : Int) + 1) + (ls[k].length : Int))) = True := eq_true (by rw [i64_succ (by omega), i64_add (by omega) (by omega)]; omega)
            rw [if_neg (by omega)] at hm
            simp (config := { contextual := true, decide := true }) only [↓pre, post, reduceIte, guardTmp, packRes, if_true, if_false, ite_true, ite_false, decide_eq_true_eq, decide_true, decide_false, decide_eq_false_iff_not, true_implies, false_implies, forall_const, implies_true, List.map_cons, List.map_nil, Bool.true_eq_false, Bool.false_eq_true, List.getElem?_cons_zero, List.getElem?_cons_succ, Option.getD_some, Option.bind_some, Option.isSome_some, Option.map_some, Option.map_none, some?_some, List.cons_append, List.nil_append, List.append_nil, Int.toNat_natCast, nn0, Nat.zero_add, Nat.mul_one, and_true, true_and, true_or, or_true, List.mem_cons, List.not_mem_nil, forall_eq_or_imp, forall_eq, h7, h8, h4, h9, lenFits, Tryd.underlying9, hlen, B_size, c3']
            have := h S' hb.fr
            rw [hm] at this
            exact this
          · have c3' : (254 < IntKind.i64.wrap (IntKind.i64.wrap ((acc.length : Int) + 1) + (ls[k].length : Int))) = False := eq_false (by rw [i64_succ (by omega), i64_add (by omega) (by omega)]; omega)
            rw [if_pos (by omega)] at hm
            have hw : IntKind.u8.wrap (ls[k].length : Int) = ((UInt8.ofNat ls[k].length).toNat : Int) := by
              simp only [IntKind.wrap, IntKind.signed, IntKind.bits, UInt8.toNat_ofNat']
              simp
            simp (config := { contextual := true, decide := true }) only [↓pre, post, reduceIte, guardTmp, packRes, if_true, if_false, ite_true, ite_false, decide_eq_true_eq, decide_true, decide_false, decide_eq_false_iff_not, true_implies, false_implies, forall_const, implies_true, List.map_cons, List.map_nil, Bool.true_eq_false, Bool.false_eq_true, List.getElem?_cons_zero, List.getElem?_cons_succ, Option.getD_some, Option.bind_some, Option.isSome_some, Option.map_some, Option.map_none, some?_some, List.cons_append, List.nil_append, List.append_nil, Int.toNat_natCast, nn0, Nat.zero_add, Nat.mul_one, and_true, true_and, true_or, or_true, List.mem_cons, List.not_mem_nil, forall_eq_or_imp, forall_eq, h7, h8, h4, h9, lenFits, Tryd.underlying9, hlen, B_size, c3', conv_int Tryd.underlying3 Tryd.underlying5, hw]
            refine callK_of (writeByte_spec hb (by omega) fun x1 S1 hb1 => ?_)
            simp (config := { contextual := true, decide := true }) only [↓pre, post, reduceIte, guardTmp, packRes, if_true, if_false, ite_true, ite_false, decide_eq_true_eq, decide_true, decide_false, decide_eq_false_iff_not, true_implies, false_implies, forall_const, implies_true, List.map_cons, List.map_nil, Bool.true_eq_false, Bool.false_eq_true, List.getElem?_cons_zero, List.getElem?_cons_succ, Option.getD_some, Option.bind_some, Option.isSome_some, Option.map_some, Option.map_none, some?_some, List.cons_append, List.nil_append, List.append_nil, Int.toNat_natCast, nn0, Nat.zero_add, Nat.mul_one, and_true, true_and, true_or, or_true, List.mem_cons, List.not_mem_nil, forall_eq_or_imp, forall_eq, h7, h8, h4, h9]
            refine callK_of (folded_spec _ (by omega) _ _ fun S2 hf2 => ?_)
            simp (config := { contextual := true, decide := true }) only [↓pre, post, reduceIte, guardTmp, packRes, if_true, if_false, ite_true, ite_false, decide_eq_true_eq, decide_true, decide_false, decide_eq_false_iff_not, true_implies, false_implies, forall_const, implies_true, List.map_cons, List.map_nil, Bool.true_eq_false, Bool.false_eq_true, List.getElem?_cons_zero, List.getElem?_cons_succ, Option.getD_some, Option.bind_some, Option.isSome_some, Option.map_some, Option.map_none, some?_some, List.cons_append, List.nil_append, List.append_nil, Int.toNat_natCast, nn0, Nat.zero_add, Nat.mul_one, and_true, true_and, true_or, or_true, List.mem_cons, List.not_mem_nil, forall_eq_or_imp, forall_eq, h7, h8, h4, h9]
            refine callK_of (writeString_spec (hb1.grow hf2) (by simp; omega) (by intro e; rw [List.map_eq_nil_iff] at e; rw [e] at c1; simp at c1) (by simp; omega) fun x3 S3 hb3 => ?_)
            simp (config := { contextual := true, decide := true }) only [↓pre, post, reduceIte, guardTmp, packRes, if_true, if_false, ite_true, ite_false, decide_eq_true_eq, decide_true, decide_false, decide_eq_false_iff_not, true_implies, false_implies, forall_const, implies_true, List.map_cons, List.map_nil, Bool.true_eq_false, Bool.false_eq_true, List.getElem?_cons_zero, List.getElem?_cons_succ, Option.getD_some, Option.bind_some, Option.isSome_some, Option.map_some, Option.map_none, some?_some, List.cons_append, List.nil_append, List.append_nil, Int.toNat_natCast, nn0, Nat.zero_add, Nat.mul_one, and_true, true_and, true_or, or_true, List.mem_cons, List.not_mem_nil, forall_eq_or_imp, forall_eq, h7, h8, h4, h9]
            rw [i64_succ (by omega)]
            refine ⟨⟨by rw [hz1], k + 1, _, by omega, ?_, rfl, hb3, ?_⟩, by simp; omega⟩
            · simp; omega
            · rw [hm]; simp [mk1]
    · obtain rfl : k = ls.length := by omega
      simp (config := { contextual := true, decide := true }) only [↓pre, post, reduceIte, guardTmp, packRes, if_true, if_false, ite_true, ite_false, decide_eq_true_eq, decide_true, decide_false, decide_eq_false_iff_not, true_implies, false_implies, forall_const, implies_true, List.map_cons, List.map_nil, Bool.true_eq_false, Bool.false_eq_true, List.getElem?_cons_zero, List.getElem?_cons_succ, Option.getD_some, Option.bind_some, Option.isSome_some, Option.map_some, Option.map_none, some?_some, List.cons_append, List.nil_append, List.append_nil, Int.toNat_natCast, nn0, Nat.zero_add, Nat.mul_one, and_true, true_and, true_or, or_true, List.mem_cons, List.not_mem_nil, forall_eq_or_imp, forall_eq, h7, h8, h4, h9, Int.lt_irrefl]
      refine callK_of (string_spec hb (by omega) ?_)
      simp (config := { contextual := true, decide := true }) only [↓pre, post, reduceIte, guardTmp, packRes, if_true, if_false, ite_true, ite_false, decide_eq_true_eq, decide_true, decide_false, decide_eq_false_iff_not, true_implies, false_implies, forall_const, implies_true, List.map_cons, List.map_nil, Bool.true_eq_false, Bool.false_eq_true, List.getElem?_cons_zero, List.getElem?_cons_succ, Option.getD_some, Option.bind_some, Option.isSome_some, Option.map_some, Option.map_none, some?_some, List.cons_append, List.nil_append, List.append_nil, Int.toNat_natCast, nn0, Nat.zero_add, Nat.mul_one, and_true, true_and, true_or, or_true, List.mem_cons, List.not_mem_nil, forall_eq_or_imp, forall_eq]
      rw [List.drop_length] at hm
      have := h S' hb.fr
      rw [hm] at this
      exact this
end Go.HL
