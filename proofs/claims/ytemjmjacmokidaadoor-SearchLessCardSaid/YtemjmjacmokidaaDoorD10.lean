import Derived.Test.YtemjmjacmokidaaDoorD9
set_option linter.all false
namespace Go.HL
open Go Go.Proofs
attribute [local congr] brK_congr moveK_congr boxK_congr condK_congr guardK_congr some?_congr someS_congr storeK_congr allocK_congr callK_congr fnK_congr codeK_congr convK_congr
attribute [local congr] rangeK_congr hnext_congr
set_option maxRecDepth 10000
variable {gl : Nat → List HV}
def wPass : List UInt8 := [114, 112, 122, 45, 112, 97, 115, 115, 116, 104, 114, 117]
def wDrop : List UInt8 := [114, 112, 122, 45, 100, 114, 111, 112]
def wTcp : List UInt8 := [114, 112, 122, 45, 116, 99, 112, 45, 111, 110, 108, 121]
def wordsL : List (Int × List (List UInt8)) := [(4, []), (5, [[42]]), (2, [wPass]), (3, [wDrop]), (6, [wTcp])]
def wordE (b : Nat) (k : Int) (ls : List (List UInt8)) : HEntry := ⟨.int .i64 k, .sl .full 1 (strs ls), b⟩
def wordEs : List HEntry := [wordE 0 4 [], wordE 1 5 [[42]], wordE 2 2 [wPass], wordE 3 3 [wDrop], wordE 4 6 [wTcp]]
theorem words_spec {S : HS} {Q : HV → HS → Prop} (h : ∀ m S', Fr S S' → S m = none → S' m = some (.map wordEs 5) → Q (.mp m) S') : Om Tryd.prog (cfg gl) (.call 75 [] S Q) := by
  refine call_tmps [0] 8 Tryd.func75 rfl rfl rfl rfl ?_
  simp (config := { contextual := true, decide := true }) only [↓pre, post, reduceIte, guardTmp, packRes, if_true, if_false, ite_true, ite_false, decide_eq_true_eq, decide_true, decide_false, decide_eq_false_iff_not, true_implies, false_implies, forall_const, implies_true, List.map_cons, List.map_nil, Bool.true_eq_false, Bool.false_eq_true, List.getElem?_cons_zero, List.getElem?_cons_succ, Option.getD_some, Option.bind_some, Option.isSome_some, Option.map_some, Option.map_none, some?_some, List.cons_append, List.nil_append, List.append_nil, Int.toNat_natCast, nn0, Nat.zero_add, Nat.mul_one, and_true, true_and, true_or, or_true, List.mem_cons, List.not_mem_nil, forall_eq_or_imp, forall_eq]
  intro l hl
  have up : ∀ (S : HS) (es : List HEntry) (c : Nat) (n : Int) (x : HV), S l = some (.map es c) → (∀ e ∈ es, ∃ m, e.key = .int .i64 m ∧ n ≠ m) → hmapUpdate Tryd.prog 158 (.mp l) (.v (.int .i64 n)) x S = some (S.set l (.map (es ++ [⟨.int .i64 n, x, c⟩]) (c + 1))) :=
    fun S es c n x h1 h2 => mapUpdate_new mt158 Tryd.underlying45 h1 h2
  have u1 : hmapUpdate Tryd.prog 158 (.mp l) (.v (.int .i64 4)) (.sl .full 1 []) (S.set l (.map [] 0)) = some ((S.set l (.map [] 0)).set l (.map (wordEs.take 1) 1)) :=
    up _ [] 0 4 _ (HS.set_same _ _ _) (by simp)
  have u2 : ∀ S0 : HS, hmapUpdate Tryd.prog 158 (.mp l) (.v (.int .i64 5)) (.sl .full 1 [[.v (.string { data := #[42] })]]) (S0.set l (.map (wordEs.take 1) 1)) = some ((S0.set l (.map (wordEs.take 1) 1)).set l (.map (wordEs.take 2) 2)) :=
    fun S0 => up _ (wordEs.take 1) 1 5 _ (HS.set_same _ _ _) (by simp [wordEs, wordE])
  have u3 : ∀ S0 : HS, hmapUpdate Tryd.prog 158 (.mp l) (.v (.int .i64 2)) (.sl .full 1 [[.v (.string { data := #[114, 112, 122, 45, 112, 97, 115, 115, 116, 104, 114, 117] })]]) (S0.set l (.map (wordEs.take 2) 2)) = some ((S0.set l (.map (wordEs.take 2) 2)).set l (.map (wordEs.take 3) 3)) :=
    fun S0 => up _ (wordEs.take 2) 2 2 _ (HS.set_same _ _ _) (by simp [wordEs, wordE])
  have u4 : ∀ S0 : HS, hmapUpdate Tryd.prog 158 (.mp l) (.v (.int .i64 3)) (.sl .full 1 [[.v (.string { data := #[114, 112, 122, 45, 100, 114, 111, 112] })]]) (S0.set l (.map (wordEs.take 3) 3)) = some ((S0.set l (.map (wordEs.take 3) 3)).set l (.map (wordEs.take 4) 4)) :=
    fun S0 => up _ (wordEs.take 3) 3 3 _ (HS.set_same _ _ _) (by simp [wordEs, wordE])
  have u5 : ∀ S0 : HS, hmapUpdate Tryd.prog 158 (.mp l) (.v (.int .i64 6)) (.sl .full 1 [[.v (.string { data := #[114, 112, 122, 45, 116, 99, 112, 45, 111, 110, 108, 121] })]]) (S0.set l (.map (wordEs.take 4) 4)) = some ((S0.set l (.map (wordEs.take 4) 4)).set l (.map wordEs 5)) :=
    fun S0 => up _ (wordEs.take 4) 4 6 _ (HS.set_same _ _ _) (by simp [wordEs, wordE])
  simp (config := { contextual := true, decide := true }) only [↓pre, post, reduceIte, guardTmp, packRes, if_true, if_false, ite_true, ite_false, decide_eq_true_eq, decide_true, decide_false, decide_eq_false_iff_not, true_implies, false_implies, forall_const, implies_true, List.map_cons, List.map_nil, Bool.true_eq_false, Bool.false_eq_true, List.getElem?_cons_zero, List.getElem?_cons_succ, Option.getD_some, Option.bind_some, Option.isSome_some, Option.map_some, Option.map_none, some?_some, List.cons_append, List.nil_append, List.append_nil, Int.toNat_natCast, nn0, Nat.zero_add, Nat.mul_one, and_true, true_and, true_or, or_true, List.mem_cons, List.not_mem_nil, forall_eq_or_imp, forall_eq, hbuildSlice, hfill, zeros, Nat.zero_mul, Nat.one_mul, splice, chunks, List.replicate_succ, List.replicate_zero, List.flatten_cons, List.flatten_nil, List.take_zero, List.take_succ_cons, List.drop_zero, List.drop_succ_cons, List.take_nil, List.drop_nil, HV.cellOk, HV.cells, List.length_cons, List.length_nil, Tryd.underlying62, ti9, show (cfg gl).mode "action.go:11" = false from rfl, u1, u2, u3, u4, u5]
  exact h l _ (((((((Fr.refl S).set _ hl).set _ hl).set _ hl).set _ hl).set _ hl).set _ hl) hl (HS.set_same _ _ _)
def nm (ls : List (List UInt8)) : List UInt8 := (makeOk ls []).getD []
def targetKind (n : List UInt8) : Option Int := (wordsL.find? fun p => nm p.2 = n).map (·.1)
structure Act where
  kind : Int
  target : List UInt8
  wild : Bool
def targetF (n : List UInt8) : Act := match targetKind n with
  | some k => ⟨k, [], false⟩
  | none => if 2 < n.length ∧ n.take 2 = nm [[42]] then ⟨7, n.drop 2, true⟩ else ⟨7, n, false⟩
def Act.hv (a : Act) (x : HV) : List HV := [.int .i64 a.kind, .str (B a.target), .bool a.wild, x]
theorem word_iter {P : HEntry → Prop} (h0 : P (wordE 0 4 [])) (h1 : P (wordE 1 5 [[42]])) (h2 : P (wordE 2 2 [wPass])) (h3 : P (wordE 3 3 [wDrop])) (h4 : P (wordE 4 6 [wTcp])) : ∀ e ∈ wordEs, P e := by
  intro e he
  simp only [wordEs, List.mem_cons, List.not_mem_nil, or_false] at he
  rcases he with rfl | rfl | rfl | rfl | rfl <;> assumption
theorem word_find : ∀ e ∈ wordEs, wordEs.find? (·.born == e.born) = some e := word_iter rfl rfl rfl rfl rfl
theorem word_born : ∀ e ∈ wordEs, e.born < 5 := word_iter (by decide) (by decide) (by decide) (by decide) (by decide)
theorem word_name : ∀ e ∈ wordEs, ∃ k ls, e = wordE e.born k ls ∧ ls.length ≤ 1 ∧ (makeOk ls []).isSome = true ∧ targetKind (nm ls) = some k :=
  word_iter ⟨_, _, rfl, by decide, by decide, by decide⟩ ⟨_, _, rfl, by decide, by decide, by decide⟩ ⟨_, _, rfl, by decide, by decide, by decide⟩ ⟨_, _, rfl, by decide, by decide, by decide⟩ ⟨_, _, rfl, by decide, by decide, by decide⟩
theorem target_none {n : List UInt8} (h : ∀ e ∈ wordEs, ∀ k ls, e = wordE e.born k ls → nm ls ≠ n) : targetKind n = none := by
  have := fun e he => h e he
  unfold targetKind
  rw [List.find?_eq_none.2]
  · rfl
  · intro p hp
    simp only [wordsL, List.mem_cons, List.not_mem_nil, or_false] at hp
    rcases hp with rfl | rfl | rfl | rfl | rfl
    · simpa using h (wordE 0 4 []) (by simp [wordEs]) _ _ rfl
    · simpa using h (wordE 1 5 [[42]]) (by simp [wordEs]) _ _ rfl
    · simpa using h (wordE 2 2 [wPass]) (by simp [wordEs]) _ _ rfl
    · simpa using h (wordE 3 3 [wDrop]) (by simp [wordEs]) _ _ rfl
    · simpa using h (wordE 4 6 [wTcp]) (by simp [wordEs]) _ _ rfl
end Go.HL
