import Derived.Test.YtemjmjacmokidaaDoorD1
set_option linter.all false
namespace Go.HL
open Go Go.Proofs
attribute [local congr] brK_congr moveK_congr boxK_congr condK_congr guardK_congr some?_congr someS_congr storeK_congr allocK_congr callK_congr fnK_congr codeK_congr convK_congr
set_option maxRecDepth 10000
variable {gl : Nat → List HV}
def u8s (bs : List UInt8) : List (List HV) := bs.map fun b => [HV.int .u8 b.toNat]
/-- A builder, laid behind S0. -/
structure Bd (S0 S : HS) (l : Nat) (bs : List UInt8) : Prop where
  fr : Fr S0 S
  new : S0 l = none
  ty : lt l = some 89
  ex : ∃ a k z, S l = some (.row [a, .sl k z (u8s bs)]) ∧ (a = .v (.pointer none) ∨ a = .ptr l 0) ∧
    ((bs = [] ∧ k = .full ∧ z = 0) ∨ (bs ≠ [] ∧ ∃ t, k = .live t ∧ z = 1 ∧ S t = some .tok ∧ lt t = some 5 ∧ S0 t = none ∧ t ≠ l))
theorem Bd.grow {S0 S S' : HS} {l : Nat} {bs : List UInt8} (h : Bd S0 S l bs) (k : Fr S S') : Bd S0 S' l bs := by
  obtain ⟨fr, new, ty, a, tk, z, h1, h2, h3⟩ := h
  refine ⟨fr.trans k, new, ty, a, tk, z, k _ _ h1, h2, ?_⟩
  rcases h3 with h3 | ⟨h3, t, h4, h5, h6, h7⟩
  · exact .inl h3
  · exact .inr ⟨h3, t, h4, h5, k _ _ h6, h7⟩
theorem Bd.init {S0 S : HS} {l : Nat} (h : Fr S0 S) (hl : S l = none) (ht : lt l = some 89) : Bd S0 (S.set l (.row [.v (.pointer none), .sl .full 0 []])) l [] :=
  ⟨h.set _ (h.none hl), h.none hl, ht, _, _, _, HS.set_same _ _ _, .inl rfl, .inl ⟨rfl, rfl, rfl⟩⟩

theorem len_spec {S0 S : HS} {l : Nat} {bs : List UInt8} {Q : HV → HS → Prop} (hb : Bd S0 S l bs) (h : Q (.int .i64 bs.length) S) : Om Tryd.prog (cfg gl) (.call 28 [.ptr l 0] S Q) := by
  obtain ⟨fr, new, ty, a, tk, z, h1, h2, h3⟩ := hb
  refine call_tmps [2] 8 Tryd.func28 rfl rfl rfl rfl ?_
  simp (config := { contextual := true, decide := true }) only [↓pre, post, reduceIte, guardTmp, packRes, if_true, if_false, ite_true, ite_false, decide_eq_true_eq, decide_true, decide_false, decide_eq_false_iff_not, true_implies, false_implies, forall_const, implies_true, List.map_cons, List.map_nil, Bool.true_eq_false, Bool.false_eq_true, List.getElem?_cons_zero, List.getElem?_cons_succ, Option.getD_some, Option.bind_some, Option.isSome_some, Option.map_some, Option.map_none, some?_some, List.cons_append, List.nil_append, List.append_nil, Int.toNat_natCast, nn0, Nat.zero_add, Nat.mul_one, and_true, true_and, true_or, or_true, List.mem_cons, List.not_mem_nil, forall_eq_or_imp, forall_eq, hfieldAddr, sp89, hload, ti31, hcells, h1, lenFits, Tryd.underlying31, hlen]
  simpa [u8s] using h

theorem copyCheck_spec {S0 S : HS} {l : Nat} {bs : List UInt8} {Q : HV → HS → Prop} (hb : Bd S0 S l bs) (h : ∀ S', Bd S0 S' l bs → Q (.tup []) S') : Om Tryd.prog (cfg gl) (.call 47 [.ptr l 0] S Q) := by
  obtain ⟨fr, new, ty, a, tk, z, h1, h2, h3⟩ := hb
  refine call_tmps [] 20 Tryd.func47 rfl rfl rfl rfl ?_
  rcases h2 with rfl | rfl
  · simp (config := { contextual := true, decide := true }) only [↓pre, post, reduceIte, guardTmp, packRes, if_true, if_false, ite_true, ite_false, decide_eq_true_eq, decide_true, decide_false, decide_eq_false_iff_not, true_implies, false_implies, forall_const, implies_true, List.map_cons, List.map_nil, Bool.true_eq_false, Bool.false_eq_true, List.getElem?_cons_zero, List.getElem?_cons_succ, Option.getD_some, Option.bind_some, Option.isSome_some, Option.map_some, Option.map_none, some?_some, List.cons_append, List.nil_append, List.append_nil, Int.toNat_natCast, nn0, Nat.zero_add, Nat.mul_one, and_true, true_and, true_or, or_true, List.mem_cons, List.not_mem_nil, forall_eq_or_imp, forall_eq, hfieldAddr, sp89, hload, ti87, hcells, h1, bin_eql_nil Tryd.underlying87, conv_to_unsafe Tryd.underlying87 Tryd.underlying142 ti89 (by decide) h1 (show 0 < 2 by decide)]
    refine callK_xt (.ptr l 0) ⟨rfl, rfl⟩ ?_
    have hst := hstore_one (v := .ptr l 0) (o := 0) ti87 rfl h1 rfl rfl (by simp)
    simp (config := { contextual := true, decide := true }) only [↓pre, post, reduceIte, guardTmp, packRes, if_true, if_false, ite_true, ite_false, decide_eq_true_eq, decide_true, decide_false, decide_eq_false_iff_not, true_implies, false_implies, forall_const, implies_true, List.map_cons, List.map_nil, Bool.true_eq_false, Bool.false_eq_true, List.getElem?_cons_zero, List.getElem?_cons_succ, Option.getD_some, Option.bind_some, Option.isSome_some, Option.map_some, Option.map_none, some?_some, List.cons_append, List.nil_append, List.append_nil, Int.toNat_natCast, nn0, Nat.zero_add, Nat.mul_one, and_true, true_and, true_or, or_true, List.mem_cons, List.not_mem_nil, forall_eq_or_imp, forall_eq, hfieldAddr, sp89, conv_of_unsafe Tryd.underlying142 Tryd.underlying87 ti89 (by decide) h1 rfl ty, hst]
    refine h _ ⟨fr.set _ new, new, ty, .ptr l 0, tk, z, HS.set_same _ _ _, .inr rfl, ?_⟩
    rcases h3 with h3 | ⟨h3, t, h4, h5, h6, h7, h8, h9⟩
    · exact .inl h3
    · exact .inr ⟨h3, t, h4, h5, by rw [HS.set_ne _ _ h9]; exact h6, h7, h8, h9⟩
  · simp (config := { contextual := true, decide := true }) only [↓pre, post, reduceIte, guardTmp, packRes, if_true, if_false, ite_true, ite_false, decide_eq_true_eq, decide_true, decide_false, decide_eq_false_iff_not, true_implies, false_implies, forall_const, implies_true, List.map_cons, List.map_nil, Bool.true_eq_false, Bool.false_eq_true, List.getElem?_cons_zero, List.getElem?_cons_succ, Option.getD_some, Option.bind_some, Option.isSome_some, Option.map_some, Option.map_none, some?_some, List.cons_append, List.nil_append, List.append_nil, Int.toNat_natCast, nn0, Nat.zero_add, Nat.mul_one, and_true, true_and, true_or, or_true, List.mem_cons, List.not_mem_nil, forall_eq_or_imp, forall_eq, hfieldAddr, sp89, hload, ti87, hcells, h1, bin_eql_ptr_nil Tryd.underlying87, bin_neq_ptr Tryd.underlying87 ti89 (by decide)]
    exact h S ⟨fr, new, ty, .ptr l 0, tk, z, h1, .inr rfl, h3⟩

theorem Bd.put {S0 S S' : HS} {l t : Nat} {bs cs : List UInt8} (hb : Bd S0 S l bs) {a : HV} {k : Tok} {z : Nat} (h1 : S l = some (.row [a, .sl k z (u8s bs)])) (ha : a = .v (.pointer none) ∨ a = .ptr l 0)
    (h3 : (bs = [] ∧ k = .full ∧ z = 0) ∨ (bs ≠ [] ∧ ∃ t, k = .live t ∧ z = 1 ∧ S t = some .tok ∧ lt t = some 5 ∧ S0 t = none ∧ t ≠ l)) (hcs : bs ++ cs ≠ [])
    (ht : S' t = some .tok) (hlt : lt t = some 5) (hn : S t = none) (hk : ∀ l x, S l = some x → k ≠ .live l → S' l = some x) : Bd S0 (S'.set l (.row [a, .sl (.live t) 1 (u8s (bs ++ cs))])) l (bs ++ cs) := by
  have htl : t ≠ l := (ne_of_some_none h1 hn).symm
  refine ⟨?_, hb.new, hb.ty, a, .live t, 1, HS.set_same _ _ _, ha, .inr ⟨hcs, t, rfl, rfl, by rw [HS.set_ne _ _ htl]; exact ht, hlt, hb.fr.none hn, htl⟩⟩
  refine Fr.set (fun j x hx => hk j x (hb.fr j x hx) ?_) _ hb.new
  rcases h3 with ⟨_, rfl, _⟩ | ⟨_, t0, rfl, _, _, _, h0, _⟩
  · simp
  · intro e; injection e with e; subst e; rw [h0] at hx; cases hx

theorem tokOk {S0 S : HS} {l : Nat} {bs : List UInt8} {k : Tok} {z : Nat} (h3 : (bs = [] ∧ k = .full ∧ z = 0) ∨ (bs ≠ [] ∧ ∃ t, k = .live t ∧ z = 1 ∧ S t = some .tok ∧ lt t = some 5 ∧ S0 t = none ∧ t ≠ l)) : TokOk S 5 1 k z (u8s bs) := by
  rcases h3 with ⟨rfl, rfl, rfl⟩ | ⟨_, t0, rfl, rfl, h, h', _⟩
  · exact .inl ⟨rfl, .inr rfl⟩
  · exact .inr ⟨t0, rfl, rfl, h, h'⟩

theorem ne_live {S0 S : HS} {l : Nat} {bs : List UInt8} {k : Tok} {z : Nat} (h3 : (bs = [] ∧ k = .full ∧ z = 0) ∨ (bs ≠ [] ∧ ∃ t, k = .live t ∧ z = 1 ∧ S t = some .tok ∧ lt t = some 5 ∧ S0 t = none ∧ t ≠ l)) : k ≠ .live l := by
  rcases h3 with ⟨rfl, rfl, rfl⟩ | ⟨_, t0, rfl, rfl, h, h', _, h9⟩
  · simp
  · intro e; injection e with e; exact h9 e
theorem writeByte_spec {S0 S : HS} {l : Nat} {bs : List UInt8} {b : UInt8} {Q : HV → HS → Prop} (hb : Bd S0 S l bs) (hl : bs.length < 1000000) (h : ∀ x S', Bd S0 S' l (bs ++ [b]) → Q x S') : Om Tryd.prog (cfg gl) (.call 29 [.ptr l 0, .int .u8 b.toNat] S Q) := by
  refine call_tmps [4] 17 Tryd.func29 rfl rfl rfl rfl ?_
  simp (config := { contextual := true, decide := true }) only [↓pre, post, reduceIte, guardTmp, packRes, if_true, if_false, ite_true, ite_false, decide_eq_true_eq, decide_true, decide_false, decide_eq_false_iff_not, true_implies, false_implies, forall_const, implies_true, List.map_cons, List.map_nil, Bool.true_eq_false, Bool.false_eq_true, List.getElem?_cons_zero, List.getElem?_cons_succ, Option.getD_some, Option.bind_some, Option.isSome_some, Option.map_some, Option.map_none, some?_some, List.cons_append, List.nil_append, List.append_nil, Int.toNat_natCast, nn0, Nat.zero_add, Nat.mul_one, and_true, true_and, true_or, or_true, List.mem_cons, List.not_mem_nil, forall_eq_or_imp, forall_eq]
  refine callK_of (copyCheck_spec hb fun S1 hb1 => ?_)
  have hb2 := hb1
  obtain ⟨fr, new, ty, a, tk, z, h1, h2, h3⟩ := hb2
  simp (config := { contextual := true, decide := true }) only [↓pre, post, reduceIte, guardTmp, packRes, if_true, if_false, ite_true, ite_false, decide_eq_true_eq, decide_true, decide_false, decide_eq_false_iff_not, true_implies, false_implies, forall_const, implies_true, List.map_cons, List.map_nil, Bool.true_eq_false, Bool.false_eq_true, List.getElem?_cons_zero, List.getElem?_cons_succ, Option.getD_some, Option.bind_some, Option.isSome_some, Option.map_some, Option.map_none, some?_some, List.cons_append, List.nil_append, List.append_nil, Int.toNat_natCast, nn0, Nat.zero_add, Nat.mul_one, and_true, true_and, true_or, or_true, List.mem_cons, List.not_mem_nil, forall_eq_or_imp, forall_eq, hfieldAddr, sp89, hload, ti31, hcells, h1, hbuildSlice, hfill, zeros, Nat.zero_mul, Nat.one_mul, splice, chunks, List.replicate_succ, List.replicate_zero, List.flatten_cons, List.flatten_nil, List.take_zero, List.take_succ_cons, List.drop_zero, List.drop_succ_cons, List.take_nil, List.drop_nil, HV.cellOk, HV.cells, List.length_cons, List.length_nil, Tryd.underlying31, ti5, show (cfg gl).mode "builder.go:97" = false from rfl, se31, srcKind, elemTy, hrow]
  refine happend_ok (by decide) (by simp) (by simp [u8s, roomy]; omega) (by simp [u8s, roomy]; omega) (tokOk h3) fun t S2 ht hlt hn hk => ?_
  have h1' := hk l _ h1 (ne_live h3)
  have hst := hstore_one (v := .sl (.live t) 1 (u8s (bs ++ [b]))) (o := 1) ti31 rfl h1' rfl rfl (by simp)
  simp only [u8s, List.map_append, List.map_cons, List.map_nil] at hst
  simp (config := { contextual := true, decide := true }) only [↓pre, post, reduceIte, guardTmp, packRes, if_true, if_false, ite_true, ite_false, decide_eq_true_eq, decide_true, decide_false, decide_eq_false_iff_not, true_implies, false_implies, forall_const, implies_true, List.map_cons, List.map_nil, Bool.true_eq_false, Bool.false_eq_true, List.getElem?_cons_zero, List.getElem?_cons_succ, Option.getD_some, Option.bind_some, Option.isSome_some, Option.map_some, Option.map_none, some?_some, List.cons_append, List.nil_append, List.append_nil, Int.toNat_natCast, nn0, Nat.zero_add, Nat.mul_one, and_true, true_and, true_or, or_true, List.mem_cons, List.not_mem_nil, forall_eq_or_imp, forall_eq, hfieldAddr, sp89, hst, u8s]
  have := hb1.put h1 h2 h3 (cs := [b]) (by simp) ht hlt hn hk
  exact h _ _ (by simpa [u8s] using this)
theorem writeString_spec {S0 S : HS} {l : Nat} {bs cs : List UInt8} {Q : HV → HS → Prop} (hb : Bd S0 S l bs) (hl : bs.length < 1000000) (hc : cs ≠ []) (hcl : cs.length < 1000000) (h : ∀ x S', Bd S0 S' l (bs ++ cs) → Q x S') : Om Tryd.prog (cfg gl) (.call 30 [.ptr l 0, .str (B cs)] S Q) := by
  refine call_tmps [4, 5] 19 Tryd.func30 rfl rfl rfl rfl ?_
  simp (config := { contextual := true, decide := true }) only [↓pre, post, reduceIte, guardTmp, packRes, if_true, if_false, ite_true, ite_false, decide_eq_true_eq, decide_true, decide_false, decide_eq_false_iff_not, true_implies, false_implies, forall_const, implies_true, List.map_cons, List.map_nil, Bool.true_eq_false, Bool.false_eq_true, List.getElem?_cons_zero, List.getElem?_cons_succ, Option.getD_some, Option.bind_some, Option.isSome_some, Option.map_some, Option.map_none, some?_some, List.cons_append, List.nil_append, List.append_nil, Int.toNat_natCast, nn0, Nat.zero_add, Nat.mul_one, and_true, true_and, true_or, or_true, List.mem_cons, List.not_mem_nil, forall_eq_or_imp, forall_eq]
  refine callK_of (copyCheck_spec hb fun S1 hb1 => ?_)
  have hb2 := hb1
  obtain ⟨fr, new, ty, a, tk, z, h1, h2, h3⟩ := hb2
  simp (config := { contextual := true, decide := true }) only [↓pre, post, reduceIte, guardTmp, packRes, if_true, if_false, ite_true, ite_false, decide_eq_true_eq, decide_true, decide_false, decide_eq_false_iff_not, true_implies, false_implies, forall_const, implies_true, List.map_cons, List.map_nil, Bool.true_eq_false, Bool.false_eq_true, List.getElem?_cons_zero, List.getElem?_cons_succ, Option.getD_some, Option.bind_some, Option.isSome_some, Option.map_some, Option.map_none, some?_some, List.cons_append, List.nil_append, List.append_nil, Int.toNat_natCast, nn0, Nat.zero_add, Nat.mul_one, and_true, true_and, true_or, or_true, List.mem_cons, List.not_mem_nil, forall_eq_or_imp, forall_eq, hfieldAddr, sp89, hload, ti31, hcells, h1, Tryd.underlying31, Tryd.underlying9, show (cfg gl).mode "builder.go:114" = false from rfl, se31, srcKind, elemTy, hrow]
  rw [B_data]
  have hln : (List.map (fun b : UInt8 => [HV.int .u8 b.toNat]) cs) = u8s cs := rfl
  refine ⟨by simp, ?_⟩
  rw [hln]
  refine happend_ok (by decide) (by simpa [u8s] using hc) (by simp [u8s, roomy]; omega) (by simp [u8s, roomy]; omega) (tokOk h3) fun t S2 ht hlt hn hk => ?_
  have h1' := hk l _ h1 (ne_live h3)
  have hst := hstore_one (v := .sl (.live t) 1 (u8s bs ++ u8s cs)) (o := 1) ti31 rfl h1' rfl rfl (by simp)
  simp (config := { contextual := true, decide := true }) only [↓pre, post, reduceIte, guardTmp, packRes, if_true, if_false, ite_true, ite_false, decide_eq_true_eq, decide_true, decide_false, decide_eq_false_iff_not, true_implies, false_implies, forall_const, implies_true, List.map_cons, List.map_nil, Bool.true_eq_false, Bool.false_eq_true, List.getElem?_cons_zero, List.getElem?_cons_succ, Option.getD_some, Option.bind_some, Option.isSome_some, Option.map_some, Option.map_none, some?_some, List.cons_append, List.nil_append, List.append_nil, Int.toNat_natCast, nn0, Nat.zero_add, Nat.mul_one, and_true, true_and, true_or, or_true, List.mem_cons, List.not_mem_nil, forall_eq_or_imp, forall_eq, hfieldAddr, sp89, hst, lenFits, Tryd.underlying9, hlen]
  have := hb1.put h1 h2 h3 (cs := cs) (by simp [hc]) ht hlt hn hk
  exact h _ _ (by simpa [u8s] using this)
theorem string_spec {S0 S : HS} {l : Nat} {bs : List UInt8} {Q : HV → HS → Prop} (hb : Bd S0 S l bs) (hl : bs.length < 1000000) (h : Q (.str (B bs)) S) : Om Tryd.prog (cfg gl) (.call 32 [.ptr l 0] S Q) := by
  refine call_tmps [2] 14 Tryd.func32 rfl rfl rfl rfl ?_
  obtain ⟨fr, new, ty, a, tk, z, h1, h2, h3⟩ := hb
  simp (config := { contextual := true, decide := true }) only [↓pre, post, reduceIte, guardTmp, packRes, if_true, if_false, ite_true, ite_false, decide_eq_true_eq, decide_true, decide_false, decide_eq_false_iff_not, true_implies, false_implies, forall_const, implies_true, List.map_cons, List.map_nil, Bool.true_eq_false, Bool.false_eq_true, List.getElem?_cons_zero, List.getElem?_cons_succ, Option.getD_some, Option.bind_some, Option.isSome_some, Option.map_some, Option.map_none, some?_some, List.cons_append, List.nil_append, List.append_nil, Int.toNat_natCast, nn0, Nat.zero_add, Nat.mul_one, and_true, true_and, true_or, or_true, List.mem_cons, List.not_mem_nil, forall_eq_or_imp, forall_eq]
  rcases h3 with ⟨rfl, rfl, rfl⟩ | ⟨hne, t, rfl, rfl, ht, hlt, h8, h9⟩
  · refine drawK (fun S' => S' = S) [(3, .ptr l 0), (4, .ptr l 0), (5, .ptr l 1), (6, .sl .full 0 []), (7, .v (.pointer none)), (8, .ptr l 0), (9, .ptr l 0), (10, .ptr l 1), (11, .sl .full 0 []), (12, .int .i64 0), (13, .str .empty), (2, .str .empty)] rfl rfl rfl rfl ?_ ?_
    · simp (config := { contextual := true, decide := true }) only [↓pre, post, reduceIte, guardTmp, packRes, if_true, if_false, ite_true, ite_false, decide_eq_true_eq, decide_true, decide_false, decide_eq_false_iff_not, true_implies, false_implies, forall_const, implies_true, List.map_cons, List.map_nil, Bool.true_eq_false, Bool.false_eq_true, List.getElem?_cons_zero, List.getElem?_cons_succ, Option.getD_some, Option.bind_some, Option.isSome_some, Option.map_some, Option.map_none, some?_some, List.cons_append, List.nil_append, List.append_nil, Int.toNat_natCast, nn0, Nat.zero_add, Nat.mul_one, and_true, true_and, true_or, or_true, List.mem_cons, List.not_mem_nil, forall_eq_or_imp, forall_eq, obls_cons, obls_nil, readsOf, tmpL, opL, optL, guardL, and_imp, Option.some.injEq, forall_eq', hfieldAddr, sp89, hload, ti31, hcells, h1, hbuiltin]
      simp [u8s, hlen, some?]
    · rintro S' rfl
      simp (config := { contextual := true, decide := true }) only [↓pre, post, reduceIte, guardTmp, packRes, if_true, if_false, ite_true, ite_false, decide_eq_true_eq, decide_true, decide_false, decide_eq_false_iff_not, true_implies, false_implies, forall_const, implies_true, List.map_cons, List.map_nil, Bool.true_eq_false, Bool.false_eq_true, List.getElem?_cons_zero, List.getElem?_cons_succ, Option.getD_some, Option.bind_some, Option.isSome_some, Option.map_some, Option.map_none, some?_some, List.cons_append, List.nil_append, List.append_nil, Int.toNat_natCast, nn0, Nat.zero_add, Nat.mul_one, and_true, true_and, true_or, or_true, List.mem_cons, List.not_mem_nil, forall_eq_or_imp, forall_eq]
      exact h
  · have hne' : ¬ u8s bs = [] := by simpa [u8s] using hne
    have hby : hbytes (u8s bs) = some bs := hbytes_map bs
    have hroom : ((u8s bs).length ≤ roomy) = True := eq_true (by simp [u8s, roomy]; omega)
    refine drawK (fun S' => S' = S) [(3, .ptr l 0), (4, .ptr l 0), (5, .ptr l 1), (6, .sl (.live t) 1 (u8s bs)), (7, .dp t 1 (u8s bs)), (8, .ptr l 0), (9, .ptr l 0), (10, .ptr l 1), (11, .sl (.live t) 1 (u8s bs)), (12, .int .i64 (u8s bs).length), (13, .str (B bs)), (2, .str (B bs))] rfl rfl rfl rfl ?_ ?_
    · simp (config := { contextual := true, decide := true }) only [↓pre, post, reduceIte, guardTmp, packRes, if_true, if_false, ite_true, ite_false, decide_eq_true_eq, decide_true, decide_false, decide_eq_false_iff_not, true_implies, false_implies, forall_const, implies_true, List.map_cons, List.map_nil, Bool.true_eq_false, Bool.false_eq_true, List.getElem?_cons_zero, List.getElem?_cons_succ, Option.getD_some, Option.bind_some, Option.isSome_some, Option.map_some, Option.map_none, some?_some, List.cons_append, List.nil_append, List.append_nil, Int.toNat_natCast, nn0, Nat.zero_add, Nat.mul_one, and_true, true_and, true_or, or_true, List.mem_cons, List.not_mem_nil, forall_eq_or_imp, forall_eq, obls_cons, obls_nil, readsOf, tmpL, opL, optL, guardL, and_imp, Option.some.injEq, forall_eq', hfieldAddr, sp89, hload, ti31, hcells, h1, hbuiltin, hne', hby, ht, hlt, Tryd.underlying124, ti5, lenFits, Tryd.underlying31, hlen, hroom, ne_eq, not_false_eq_true, not_true_eq_false]
      simp [B]
    · rintro S' rfl
      simp (config := { contextual := true, decide := true }) only [↓pre, post, reduceIte, guardTmp, packRes, if_true, if_false, ite_true, ite_false, decide_eq_true_eq, decide_true, decide_false, decide_eq_false_iff_not, true_implies, false_implies, forall_const, implies_true, List.map_cons, List.map_nil, Bool.true_eq_false, Bool.false_eq_true, List.getElem?_cons_zero, List.getElem?_cons_succ, Option.getD_some, Option.bind_some, Option.isSome_some, Option.map_some, Option.map_none, some?_some, List.cons_append, List.nil_append, List.append_nil, Int.toNat_natCast, nn0, Nat.zero_add, Nat.mul_one, and_true, true_and, true_or, or_true, List.mem_cons, List.not_mem_nil, forall_eq_or_imp, forall_eq]
      exact h
end Go.HL
