import Derived.Test.YtemjmjacmokidaaDoorD7
set_option linter.all false
namespace Go.HL
open Go Go.Proofs
attribute [local congr] brK_congr moveK_congr boxK_congr condK_congr guardK_congr some?_congr someS_congr storeK_congr allocK_congr callK_congr fnK_congr codeK_congr convK_congr
attribute [local congr] rangeK_congr hnext_congr
set_option maxRecDepth 10000
variable {gl : Nat → List HV}
def wClient : List UInt8 := [114, 112, 122, 45, 99, 108, 105, 101, 110, 116, 45, 105, 112]
def wIp : List UInt8 := [114, 112, 122, 45, 105, 112]
def wNs : List UInt8 := [114, 112, 122, 45, 110, 115, 100, 110, 97, 109, 101]
def wNsip : List UInt8 := [114, 112, 122, 45, 110, 115, 105, 112]
def kindEs : List HEntry := [⟨.int .i64 0, .str (B wClient), 0⟩, ⟨.int .i64 3, .str (B wIp), 1⟩, ⟨.int .i64 4, .str (B wNs), 2⟩, ⟨.int .i64 6, .str (B wNsip), 3⟩]
theorem kinds_spec {S : HS} {Q : HV → HS → Prop} (h : ∀ m S', Fr S S' → S m = none → S' m = some (.map kindEs 4) → Q (.mp m) S') : Om Tryd.prog (cfg gl) (.call 37 [] S Q) := by
  refine call_tmps [0] 3 Tryd.func37 rfl rfl rfl rfl ?_
  simp (config := { contextual := true, decide := true }) only [↓pre, post, reduceIte, guardTmp, packRes, if_true, if_false, ite_true, ite_false, decide_eq_true_eq, decide_true, decide_false, decide_eq_false_iff_not, true_implies, false_implies, forall_const, implies_true, List.map_cons, List.map_nil, Bool.true_eq_false, Bool.false_eq_true, List.getElem?_cons_zero, List.getElem?_cons_succ, Option.getD_some, Option.bind_some, Option.isSome_some, Option.map_some, Option.map_none, some?_some, List.cons_append, List.nil_append, List.append_nil, Int.toNat_natCast, nn0, Nat.zero_add, Nat.mul_one, and_true, true_and, true_or, or_true, List.mem_cons, List.not_mem_nil, forall_eq_or_imp, forall_eq]
  intro l hl
  have up : ∀ (S : HS) (es : List HEntry) (c : Nat) (n : Int) (x : HV), S l = some (.map es c) → (∀ e ∈ es, ∃ m, e.key = .int .i64 m ∧ n ≠ m) → hmapUpdate Tryd.prog 104 (.mp l) (.v (.int .i64 n)) x S = some (S.set l (.map (es ++ [⟨.int .i64 n, x, c⟩]) (c + 1))) :=
    fun S es c n x h1 h2 => mapUpdate_new mt104 Tryd.underlying22 h1 h2
  have u1 : hmapUpdate Tryd.prog 104 (.mp l) (.v (.int .i64 0)) (.v (.string { data := #[114, 112, 122, 45, 99, 108, 105, 101, 110, 116, 45, 105, 112] })) (S.set l (.map [] 0)) = some ((S.set l (.map [] 0)).set l (.map (kindEs.take 1) 1)) :=
    up _ [] 0 0 _ (HS.set_same _ _ _) (by simp)
  have u2 : ∀ S0 : HS, hmapUpdate Tryd.prog 104 (.mp l) (.v (.int .i64 3)) (.v (.string { data := #[114, 112, 122, 45, 105, 112] })) (S0.set l (.map (kindEs.take 1) 1)) = some ((S0.set l (.map (kindEs.take 1) 1)).set l (.map (kindEs.take 2) 2)) :=
    fun S0 => up _ (kindEs.take 1) 1 3 _ (HS.set_same _ _ _) (by simp [kindEs])
  have u3 : ∀ S0 : HS, hmapUpdate Tryd.prog 104 (.mp l) (.v (.int .i64 4)) (.v (.string { data := #[114, 112, 122, 45, 110, 115, 100, 110, 97, 109, 101] })) (S0.set l (.map (kindEs.take 2) 2)) = some ((S0.set l (.map (kindEs.take 2) 2)).set l (.map (kindEs.take 3) 3)) :=
    fun S0 => up _ (kindEs.take 2) 2 4 _ (HS.set_same _ _ _) (by simp [kindEs])
  have u4 : ∀ S0 : HS, hmapUpdate Tryd.prog 104 (.mp l) (.v (.int .i64 6)) (.v (.string { data := #[114, 112, 122, 45, 110, 115, 105, 112] })) (S0.set l (.map (kindEs.take 3) 3)) = some ((S0.set l (.map (kindEs.take 3) 3)).set l (.map kindEs 4)) :=
    fun S0 => up _ (kindEs.take 3) 3 6 _ (HS.set_same _ _ _) (by simp [kindEs])
  simp (config := { contextual := true, decide := true }) only [↓pre, post, reduceIte, guardTmp, packRes, if_true, if_false, ite_true, ite_false, decide_eq_true_eq, decide_true, decide_false, decide_eq_false_iff_not, true_implies, false_implies, forall_const, implies_true, List.map_cons, List.map_nil, Bool.true_eq_false, Bool.false_eq_true, List.getElem?_cons_zero, List.getElem?_cons_succ, Option.getD_some, Option.bind_some, Option.isSome_some, Option.map_some, Option.map_none, some?_some, List.cons_append, List.nil_append, List.append_nil, Int.toNat_natCast, nn0, Nat.zero_add, Nat.mul_one, and_true, true_and, true_or, or_true, List.mem_cons, List.not_mem_nil, forall_eq_or_imp, forall_eq, u1, u2, u3, u4]
  exact h l _ (((((Fr.refl S).set _ hl).set _ hl).set _ hl).set _ hl |>.set _ hl) hl (HS.set_same _ _ _)
theorem kind_iter {P : HEntry → Prop} (h0 : P ⟨.int .i64 0, .str (B wClient), 0⟩) (h1 : P ⟨.int .i64 3, .str (B wIp), 1⟩) (h2 : P ⟨.int .i64 4, .str (B wNs), 2⟩) (h3 : P ⟨.int .i64 6, .str (B wNsip), 3⟩) : ∀ e ∈ kindEs, P e := by
  intro e he
  simp only [kindEs, List.mem_cons, List.not_mem_nil, or_false] at he
  rcases he with rfl | rfl | rfl | rfl <;> assumption
theorem kind_find : ∀ e ∈ kindEs, kindEs.find? (·.born == e.born) = some e := kind_iter rfl rfl rfl rfl
theorem kind_born : ∀ e ∈ kindEs, e.born < 4 := kind_iter (by decide) (by decide) (by decide) (by decide)
theorem trig_len (t : Trig) : t.hv.length = 4 := rfl
def trig0 : Trig := ⟨0, [], [], 0⟩
theorem cutN_len : ∀ (n : Nat) (s : List UInt8) (ls : List (List UInt8)), cutN n s = some ls → ls.length ≤ s.length
  | _, [], ls, h => by cases ‹Nat› <;> (simp [cutN] at h; subst h; simp)
  | 0, _ :: _, ls, h => by simp [cutN] at h
  | n + 1, k :: rest, ls, h => by
    simp only [cutN] at h
    split at h
    · rw [Option.map_eq_some_iff] at h
      obtain ⟨q, h1, rfl⟩ := h
      have := cutN_len n _ _ h1
      simp at this ⊢
      omega
    · cases h
theorem labels_len {s : List UInt8} {ls : List (List UInt8)} (h : labels s = some ls) : ls.length ≤ 254 := by
  unfold labels at h
  split at h
  · rename_i hc; have := cutN_len _ _ _ h; omega
  · cases h
/-- What a name is that no kind's word ends. -/
theorem decode_plain {S : HS} {s : List UInt8} {ls : List (List UInt8)} {last : List UInt8} {Q : HV → HS → Prop} (hls : labels s = some ls) (hlast : ls.getLast? = some last) (hw : last ≠ wClient ∧ last ≠ wIp ∧ last ≠ wNs ∧ last ≠ wNsip)
    (h : ∀ S', Fr S S' → Q (.tup [.agg (namedF ls 1 2).1.hv, .bool (namedF ls 1 2).2]) S') : Om Tryd.prog (cfg gl) (.call 39 [.str (B s)] S Q) := by
  refine call_res [.cell 2 27, .tmp 3] 69 Tryd.func39 rfl rfl rfl rfl ?_
  simp (config := { contextual := true, decide := true }) only [↓pre, post, reduceIte, guardTmp, packRes, if_true, if_false, ite_true, ite_false, decide_eq_true_eq, decide_true, decide_false, decide_eq_false_iff_not, true_implies, false_implies, forall_const, implies_true, List.map_cons, List.map_nil, Bool.true_eq_false, Bool.false_eq_true, List.getElem?_cons_zero, List.getElem?_cons_succ, Option.getD_some, Option.bind_some, Option.isSome_some, Option.map_some, Option.map_none, some?_some, List.cons_append, List.nil_append, List.append_nil, Int.toNat_natCast, nn0, Nat.zero_add, Nat.mul_one, and_true, true_and, true_or, or_true, List.mem_cons, List.not_mem_nil, forall_eq_or_imp, forall_eq, ti27]
  intro l hn hlt
  refine callK_of (labels_spec fun x S1 h1 hx => ?_)
  rw [hls] at hx ⊢
  simp only [Option.getD_some, Option.isSome_some] at hx ⊢
  obtain ⟨tk, z, rfl, hz⟩ := hx.sz
  have hne : ls ≠ [] := by intro e; rw [e] at hlast; cases hlast
  have hpos : 0 < ls.length := List.length_pos_iff.2 hne
  have hsz : ls.length ≤ 254 := labels_len hls
  have hln : (strs ls).length = ls.length := by simp [strs]
  have hz1 : z = 1 := by rcases hz with h | h; exact h; simp [strs] at h; exact absurd h hne
  have h0' : (((ls.length : Nat) : Int) = 0) = False := eq_false (by omega)
  have hw1 : IntKind.i64.wrap ((ls.length : Int) - 1) = ((ls.length - 1 : Nat) : Int) := by rw [IntWalk.i64_in _ (by omega)]; omega
  have hg : (strs ls)[ls.length - 1]? = some [.str (B last)] := by
    rw [List.getLast?_eq_getElem?] at hlast
    simp [strs, hlast]
  obtain ⟨k', hsl⟩ := sl_to (P := Tryd.prog) (T := 62) (k := tk) (ki := .i64) (z := 1) (es := strs ls) (a := ((ls.length - 1 : Nat) : Int)) Tryd.underlying62 ti9 (.inl rfl) (by omega) (by rw [hln]; omega)
  simp (config := { contextual := true, decide := true }) only [↓pre, post, reduceIte, guardTmp, packRes, if_true, if_false, ite_true, ite_false, decide_eq_true_eq, decide_true, decide_false, decide_eq_false_iff_not, true_implies, false_implies, forall_const, implies_true, List.map_cons, List.map_nil, Bool.true_eq_false, Bool.false_eq_true, List.getElem?_cons_zero, List.getElem?_cons_succ, Option.getD_some, Option.bind_some, Option.isSome_some, Option.map_some, Option.map_none, some?_some, List.cons_append, List.nil_append, List.append_nil, Int.toNat_natCast, nn0, Nat.zero_add, Nat.mul_one, and_true, true_and, true_or, or_true, List.mem_cons, List.not_mem_nil, forall_eq_or_imp, forall_eq, Bool.not_true, lenFits, Tryd.underlying62, hlen, hln, h0', hw1, hindexAddr, hint, ti9, hz1, hg, hload, hcells, hsl]
  refine callK_of (kinds_spec fun m S2 h2 hm0 hm => ?_)
  simp (config := { contextual := true, decide := true }) only [↓pre, post, reduceIte, guardTmp, packRes, if_true, if_false, ite_true, ite_false, decide_eq_true_eq, decide_true, decide_false, decide_eq_false_iff_not, true_implies, false_implies, forall_const, implies_true, List.map_cons, List.map_nil, Bool.true_eq_false, Bool.false_eq_true, List.getElem?_cons_zero, List.getElem?_cons_succ, Option.getD_some, Option.bind_some, Option.isSome_some, Option.map_some, Option.map_none, some?_some, List.cons_append, List.nil_append, List.append_nil, Int.toNat_natCast, nn0, Nat.zero_add, Nat.mul_one, and_true, true_and, true_or, or_true, List.mem_cons, List.not_mem_nil, forall_eq_or_imp, forall_eq, ↓opK_range]
  refine rangeK_mp mt104 hm fun r hr => ?_
  simp (config := { contextual := true, decide := true }) only [↓pre, post, reduceIte, guardTmp, packRes, if_true, if_false, ite_true, ite_false, decide_eq_true_eq, decide_true, decide_false, decide_eq_false_iff_not, true_implies, false_implies, forall_const, implies_true, List.map_cons, List.map_nil, Bool.true_eq_false, Bool.false_eq_true, List.getElem?_cons_zero, List.getElem?_cons_succ, Option.getD_some, Option.bind_some, Option.isSome_some, Option.map_some, Option.map_none, some?_some, List.cons_append, List.nil_append, List.append_nil, Int.toNat_natCast, nn0, Nat.zero_add, Nat.mul_one, and_true, true_and, true_or, or_true, List.mem_cons, List.not_mem_nil, forall_eq_or_imp, forall_eq]
  have hmr : m ≠ r := ne_of_some_none hm hr
  have g2 := h2 _ _ (h1 _ _ (HS.set_same _ _ _))
  have hlr : l ≠ r := ne_of_some_none g2 hr
  refine loopK (fun env S' => Fr S2 S' ∧ env 37 = .ptr r 0 ∧ env 4 = .sl tk 1 (strs ls) ∧ env 6 = .str (B last) ∧ env 2 = .ptr l 0 ∧ ∃ seen, S' r = some (.iter m 4 seen 4))
    (fun _ S' => match S' r with | some (.iter _ _ seen _) => unseen kindEs seen | _ => 0) ?_ ?_
  · simp (config := { contextual := true, decide := true }) only [↓pre, post, reduceIte, guardTmp, packRes, if_true, if_false, ite_true, ite_false, decide_eq_true_eq, decide_true, decide_false, decide_eq_false_iff_not, true_implies, false_implies, forall_const, implies_true, List.map_cons, List.map_nil, Bool.true_eq_false, Bool.false_eq_true, List.getElem?_cons_zero, List.getElem?_cons_succ, Option.getD_some, Option.bind_some, Option.isSome_some, Option.map_some, Option.map_none, some?_some, List.cons_append, List.nil_append, List.append_nil, Int.toNat_natCast, nn0, Nat.zero_add, Nat.mul_one, and_true, true_and, true_or, or_true, List.mem_cons, List.not_mem_nil, forall_eq_or_imp, forall_eq]
    exact ⟨Fr.new _ hr, [], rfl⟩
  · rintro env S' ⟨hfr, e37, e4, e6, e2, seen, hs⟩
    simp (config := { contextual := true, decide := true }) only [↓pre, post, reduceIte, guardTmp, packRes, if_true, if_false, ite_true, ite_false, decide_eq_true_eq, decide_true, decide_false, decide_eq_false_iff_not, true_implies, false_implies, forall_const, implies_true, List.map_cons, List.map_nil, Bool.true_eq_false, Bool.false_eq_true, List.getElem?_cons_zero, List.getElem?_cons_succ, Option.getD_some, Option.bind_some, Option.isSome_some, Option.map_some, Option.map_none, some?_some, List.cons_append, List.nil_append, List.append_nil, Int.toNat_natCast, nn0, Nat.zero_add, Nat.mul_one, and_true, true_and, true_or, or_true, List.mem_cons, List.not_mem_nil, forall_eq_or_imp, forall_eq, ↓opK_next, e37]
    refine hnext_static hs (hfr _ _ hm) kind_born (fun _ => ?_) (fun e he hns => ?_)
    · simp (config := { contextual := true, decide := true }) only [↓pre, post, reduceIte, guardTmp, packRes, if_true, if_false, ite_true, ite_false, decide_eq_true_eq, decide_true, decide_false, decide_eq_false_iff_not, true_implies, false_implies, forall_const, implies_true, List.map_cons, List.map_nil, Bool.true_eq_false, Bool.false_eq_true, List.getElem?_cons_zero, List.getElem?_cons_succ, Option.getD_some, Option.bind_some, Option.isSome_some, Option.map_some, Option.map_none, some?_some, List.cons_append, List.nil_append, List.append_nil, Int.toNat_natCast, nn0, Nat.zero_add, Nat.mul_one, and_true, true_and, true_or, or_true, List.mem_cons, List.not_mem_nil, forall_eq_or_imp, forall_eq, e37, e4, e6, e2]
      refine callK_of (named_spec (.inl rfl) (by omega) fun S3 h3 => ?_)
      have g3 := h3 _ _ (hfr _ _ g2)
      have hst := hstore_agg (cs := (namedF ls 1 2).1.hv) ti27 g3 rfl rfl
      have hld : hload Tryd.prog 27 (S3.set l (.row (namedF ls 1 2).1.hv)) (.ptr l 0) = some (.agg (namedF ls 1 2).1.hv) := hload_agg ti27 rfl (HS.set_same _ _ _) rfl
      simp (config := { contextual := true, decide := true }) only [↓pre, post, reduceIte, guardTmp, packRes, if_true, if_false, ite_true, ite_false, decide_eq_true_eq, decide_true, decide_false, decide_eq_false_iff_not, true_implies, false_implies, forall_const, implies_true, List.map_cons, List.map_nil, Bool.true_eq_false, Bool.false_eq_true, List.getElem?_cons_zero, List.getElem?_cons_succ, Option.getD_some, Option.bind_some, Option.isSome_some, Option.map_some, Option.map_none, some?_some, List.cons_append, List.nil_append, List.append_nil, Int.toNat_natCast, nn0, Nat.zero_add, Nat.mul_one, and_true, true_and, true_or, or_true, List.mem_cons, List.not_mem_nil, forall_eq_or_imp, forall_eq, e37, e4, e6, e2, hst, hld]
      exact h _ (((((Fr.new _ hn).trans h1).trans h2).trans hfr).trans h3 |>.set _ hn)
    · have hen := hentry_static (S := S'.set r (.iter m 4 (seen ++ [e.born]) 4)) (HS.set_same _ _ _) (by rw [HS.set_ne _ _ hmr]; exact hfr _ _ hm) (kind_find e he)
      have hval : ∃ w, e.val = .str (B w) ∧ w ≠ last ∧ ∃ n, e.key = .int .i64 n := by
        revert he
        exact kind_iter (P := fun e => ∃ w, e.val = .str (B w) ∧ w ≠ last ∧ ∃ n, e.key = .int .i64 n) ⟨_, rfl, hw.1.symm, _, rfl⟩ ⟨_, rfl, hw.2.1.symm, _, rfl⟩ ⟨_, rfl, hw.2.2.1.symm, _, rfl⟩ ⟨_, rfl, hw.2.2.2.symm, _, rfl⟩ e
      obtain ⟨w, hv, hwl, n, hk⟩ := hval
      have c' : (B w = B last) = False := eq_false (by rw [B_inj]; exact hwl)
      rw [hv, hk] at hen ⊢
      simp (config := { contextual := true, decide := true }) only [↓pre, post, reduceIte, guardTmp, packRes, if_true, if_false, ite_true, ite_false, decide_eq_true_eq, decide_true, decide_false, decide_eq_false_iff_not, true_implies, false_implies, forall_const, implies_true, List.map_cons, List.map_nil, Bool.true_eq_false, Bool.false_eq_true, List.getElem?_cons_zero, List.getElem?_cons_succ, Option.getD_some, Option.bind_some, Option.isSome_some, Option.map_some, Option.map_none, some?_some, List.cons_append, List.nil_append, List.append_nil, Int.toNat_natCast, nn0, Nat.zero_add, Nat.mul_one, and_true, true_and, true_or, or_true, List.mem_cons, List.not_mem_nil, forall_eq_or_imp, forall_eq, ↓opK_entry, e37, e4, e6, e2, hen, c']
      rw [hs]
      exact ⟨⟨hfr.set _ hr, _, rfl⟩, unseen_lt he hns⟩
end Go.HL
