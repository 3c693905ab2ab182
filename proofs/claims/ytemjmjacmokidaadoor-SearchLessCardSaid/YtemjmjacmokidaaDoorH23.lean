import Derived.Test.YtemjmjacmokidaaDoorH22
import Derived.IntWalk
set_option linter.all false
/-! HL, part 23: memory, lemma by lemma. -/
namespace Go.HL
open Go
variable {P : Program} {C : Cfg}
theorem splice_one {cs : List HV} {o : Nat} {v : HV} (h : o < cs.length) : splice cs o [v] = cs.set o v := by
  unfold splice
  rw [List.set_eq_take_append_cons_drop, if_pos h]
  simp
theorem hstore_one {T : TypeId} {S : HS} {i : TyI} {l o : Nat} {cs : List HV} {v : HV} (ht : tyI P T = some i) (hs : i.size = 1) (hS : S l = some (.row cs)) (hv : v.cellOk = true) (h1 : v.cells = [v]) (ho : o < cs.length) :
    hstore P T S (.ptr l o) v = some (S.set l (.row (cs.set o v))) := by
  have : o + 1 ≤ cs.length := by omega
  simp [hstore, ht, hS, hv, h1, hs, this, splice_one ho]
theorem hload_one {T : TypeId} {S : HS} {i : TyI} {l o : Nat} {cs : List HV} {v : HV} (ht : tyI P T = some i) (ha : i.agg = false) (hS : S l = some (.row cs)) (hg : cs[o]? = some v) : hload P T S (.ptr l o) = some v := by
  simp only [hload, ht, hcells, hS, ha, hg]
  rfl
theorem indexAddr_ms {T e : TypeId} {j : TyI} {k : IntKind} {i : Int} {l o n c : Nat} (hT : P.underlying T = some (.slice e)) (hj : tyI P e = some j) (h0 : 0 ≤ i) (h1 : i < n) :
    hindexAddr P T (.ms l o n c) (.v (.int k i)) = some (.ptr l (o + i.toNat * j.size)) := by
  simp [hindexAddr, hint, hT, hj, h0, h1]
theorem indexAddr_sl {T e : TypeId} {j : TyI} {k : IntKind} {i : Nat} {tk : Tok} {z : Nat} {es : List (List HV)} {c : List HV} (hT : P.underlying T = some (.slice e)) (hj : tyI P e = some j) (hz : z = j.size) (h1 : es[i]? = some c) :
    hindexAddr P T (.sl tk z es) (.v (.int k i)) = some (.ep c 0) := by
  simp [hindexAddr, hint, hT, hj, hz, h1]
theorem hindex_str {T : TypeId} {k : IntKind} {i : Nat} {l : List UInt8} {b : UInt8} (hT : P.underlying T = some .string) (h : l[i]? = some b) : hindex P T (.v (.string (B l))) (.v (.int k i)) = some (.v (.int .u8 b.toNat)) := by
  simp [hindex, hint, hT, B_get, h]
theorem hbytes_map (l : List UInt8) : hbytes (l.map fun b => [HV.int .u8 b.toNat]) = some l := by
  induction l with
  | nil => rfl
  | cons b l ih => simp [hbytes, ih]
theorem chunks_one (rest : List HV) : ∀ (l : List HV), chunks 1 l.length (l ++ rest) = l.map fun x => [x]
  | [] => rfl
  | x :: l => by simp [chunks, chunks_one rest l]
theorem conv_ms_str {pos : String} {src dst e : TypeId} {l c n : Nat} {s : List UInt8} {rest : List HV} {S : HS} {K : HV → HS → Prop} (hd : P.underlying dst = some .string) (hs : P.underlying src = some (.slice e)) (he : P.underlying e = some (.int .u8))
    (hS : S l = some (.row (s.map (fun b => HV.int .u8 b.toNat) ++ rest))) (hn : n = s.length) : convK P C pos src dst (.ms l 0 n c) S K = K (.v (.string (B s))) S := by
  subst hn
  have h1 : hrow 1 S (.ms l 0 s.length c) = some (s.map fun b => [HV.int .u8 b.toNat]) := by
    have := chunks_one rest (s.map fun b => HV.int .u8 b.toNat)
    simp only [List.length_map, List.map_map] at this
    simp [hrow, hS, this]
  simp only [convK, hd, hs, he, h1, hbytes_map, some?, true_and]
  rfl
theorem conv_sl_str {pos : String} {src dst e : TypeId} {k : Tok} {z : Nat} {s : List UInt8} {S : HS} {K : HV → HS → Prop} (hd : P.underlying dst = some .string) (hs : P.underlying src = some (.slice e)) (he : P.underlying e = some (.int .u8))
    (hz : z = 1 ∨ s = []) : convK P C pos src dst (.sl k z (s.map fun b => [HV.int .u8 b.toNat])) S K = K (.v (.string (B s))) S := by
  have h1 : hrow 1 S (.sl k z (s.map fun b => [HV.int .u8 b.toNat])) = some (s.map fun b => [HV.int .u8 b.toNat]) := by
    simp [hrow, hz]
  simp only [convK, hd, hs, he, h1, hbytes_map, some?, true_and]
  rfl
theorem i64_nat {n : Nat} (h : n < 9223372036854775808) : IntKind.i64.wrap (n : Int) = n := IntWalk.i64_in _ (by omega)
theorem i64_succ {n : Nat} (h : n < 4611686018427387904) : IntKind.i64.wrap ((n : Int) + 1) = ((n + 1 : Nat) : Int) := by rw [IntWalk.i64_in _ (by omega)]; omega
theorem i64_add {n m : Nat} (h : n < 4611686018427387904) (k : m < 4611686018427387904) : IntKind.i64.wrap ((n : Int) + (m : Int)) = ((n + m : Nat) : Int) := by rw [IntWalk.i64_in _ (by omega)]; omega
theorem i64_sub {n m : Nat} (h : n < 4611686018427387904) (k : m ≤ n) : IntKind.i64.wrap ((n : Int) - (m : Int)) = ((n - m : Nat) : Int) := by rw [IntWalk.i64_in _ (by omega)]; omega
section
variable {T e : TypeId} {x y : Operand} {l o o' : Nat}
theorem equal_val {T : TypeId} {a b : Value} {r : Bool} (h : ∀ d, (Op.equalIn (d + 1) T a b).val? P = some r) : (Op.equal T a b).val? P = some r := h 9999
theorem bin_eql_nil (hT : P.underlying T = some (.pointer e)) : binH P .eql T x y (.v (.pointer none)) (.v (.pointer none)) = some (.v (.bool true)) := by
  have h : (Op.equal T (.pointer none) (.pointer none)).val? P = some true := equal_val fun d => by
    simp only [Op.equalIn, underlying, program, bind, Sem.bind, Sem.val?, hT, pure, Option.isNone_none]
  have h2 : (binOp .eql T (.pointer none) (.pointer none)).val? P = some (.bool true) := by
    simp only [binOp, bind, Sem.val?_bind, h, Option.bind_some, pure, Sem.val?]
  show (match heqNil P T (.v (.pointer none)) (.v (.pointer none)) with | some t => some (HV.bool t) | none => binPure P .eql T x y (.v (.pointer none)) (.v (.pointer none))) = _
  simp only [heqNil, binPure, toVal, eqGuard_at_pointer, hvOf, bind, Sem.val?_bind, h2, pure, Sem.val?, Option.bind_some, okVal, okLeaf, plain, ofVal, ofLeaf, if_true]
theorem bin_eql_ptr_nil (hT : P.underlying T = some (.pointer e)) : binH P .eql T x y (.ptr l o) (.v (.pointer none)) = some (.v (.bool false)) := by
  simp [binH, heqNil, hT]
theorem bin_neq_ptr_nil (hT : P.underlying T = some (.pointer e)) : binH P .neq T x y (.ptr l o) (.v (.pointer none)) = some (.v (.bool true)) := by
  simp [binH, heqNil, hT]
theorem bin_neq_ptr (hT : P.underlying T = some (.pointer e)) {j : TyI} (hj : tyI P e = some j) (h0 : 0 < j.size) : binH P .neq T x y (.ptr l o) (.ptr l o') = some (.v (.bool !decide (o = o'))) := by
  obtain ⟨inf, d, z, h1, h2, h3, h4, h5, h6, h7, h8, h9⟩ := tyI_spec hj
  have : inf.size ≠ 0 := by omega
  simp [binH, heqNil, hT, h1, this]
  by_cases h : o = o' <;> simp [h]
end
theorem conv_to_unsafe {pos : String} {src dst t : TypeId} {i : TyI} {l q : Nat} {cs : List HV} {S : HS} {K : HV → HS → Prop} (hs : P.underlying src = some (.pointer t)) (hd : P.underlying dst = some .unsafePointer) (hi : tyI P t = some i) (h0 : 0 < i.size)
    (hl : S l = some (.row cs)) (hq : q < cs.length) : convK P C pos src dst (.ptr l q) S K = K (.ptr l q) S := by
  simp [convK, hs, hd, hi, h0, hl, hq]
theorem conv_of_unsafe {pos : String} {src dst u : TypeId} {i : TyI} {l : Nat} {cs : List HV} {S : HS} {K : HV → HS → Prop} (hs : P.underlying src = some .unsafePointer) (hd : P.underlying dst = some (.pointer u)) (hi : tyI P u = some i) (h0 : 0 < i.size)
    (hl : S l = some (.row cs)) (hq : cs.length = i.size) (hlt : lt l = some u) : convK P C pos src dst (.ptr l 0) S K = K (.ptr l 0) S := by
  simp [convK, hs, hd, hi, h0, hl, hq, hlt]
/-- May it be appended to? -/
def TokOk (S : HS) (e : TypeId) (n : Nat) (k : Tok) (z : Nat) (es : List (List HV)) : Prop :=
  (k = .full ∧ (z = n ∨ es = [])) ∨ ∃ t, k = .live t ∧ z = n ∧ S t = some .tok ∧ lt t = some e
theorem happend_ok {e : TypeId} {i : TyI} {k : Tok} {z : Nat} {es ys : List (List HV)} {S : HS} {K : HV → HS → Prop} (hz0 : 0 < i.size) (hys : ys ≠ []) (hb1 : (es.length + ys.length) * i.bytes ≤ roomy) (hb2 : es.length + ys.length ≤ roomy)
    (htok : TokOk S e i.size k z es) (h : ∀ t S', S' t = some .tok → lt t = some e → S t = none → (∀ l x, S l = some x → k ≠ .live l → S' l = some x) → K (.sl (.live t) i.size (es ++ ys)) S') :
    happend false e i (.sl k z es) ys S K := by
  unfold happend
  rw [if_neg hys]
  refine ⟨hz0, hb1, hb2, ?_⟩
  simp only [Bool.false_eq_true, if_false]
  rcases htok with ⟨rfl, hz⟩ | ⟨t0, rfl, hz, ht, hlt⟩
  · exact ⟨hz, fun t hn hl => h t _ (HS.set_same _ _ _) hl hn (fun l x hl _ => Fr.new _ hn l x hl)⟩
  · refine ⟨hz, ht, fun t hn hl => ?_⟩
    have hl' : lt t = some e := by rcases hl with h | h; exact h; rw [h, hlt]
    refine h t _ (HS.set_same _ _ _) hl' hn (fun l x hx hne => ?_)
    have h1 : l ≠ t := ne_of_some_none hx hn
    have h2 : l ≠ t0 := fun e => hne (by rw [e])
    rw [HS.set_ne _ _ h1, HS.set_ne _ _ h2]
    exact hx
/-- A slice that was made behind S0, and may be appended to. -/
def Sl (S0 S : HS) (e : TypeId) (n : Nat) (x : HV) (es : List (List HV)) : Prop :=
  ∃ k z, x = .sl k z es ∧ ((es = [] ∧ k = .full ∧ z = 0) ∨ (es ≠ [] ∧ ∃ t, k = .live t ∧ z = n ∧ S t = some .tok ∧ lt t = some e ∧ S0 t = none))
theorem Sl.nil {S0 S : HS} {e : TypeId} {n : Nat} : Sl S0 S e n (.sl .full 0 []) [] := ⟨_, _, rfl, .inl ⟨rfl, rfl, rfl⟩⟩
theorem Sl.grow {S0 S S' : HS} {e : TypeId} {n : Nat} {x : HV} {es : List (List HV)} (h : Sl S0 S e n x es) (hf : Fr S S') : Sl S0 S' e n x es := by
  obtain ⟨k, z, h1, h2⟩ := h
  refine ⟨k, z, h1, ?_⟩
  rcases h2 with h | ⟨h, t, h3, h4, h5, h6⟩
  · exact .inl h
  · exact .inr ⟨h, t, h3, h4, hf _ _ h5, h6⟩
theorem Sl.sz {S0 S : HS} {e : TypeId} {n : Nat} {x : HV} {es : List (List HV)} (h : Sl S0 S e n x es) : ∃ k z, x = .sl k z es ∧ (z = n ∨ es = []) := by
  obtain ⟨k, z, h1, ⟨h, _, _⟩ | ⟨_, t, _, h4, _⟩⟩ := h
  · exact ⟨k, z, h1, .inr h⟩
  · exact ⟨k, z, h1, .inl h4⟩
theorem happend_Sl {S0 S : HS} {e : TypeId} {i : TyI} {x : HV} {es ys : List (List HV)} {K : HV → HS → Prop} (hx : Sl S0 S e i.size x es) (hz0 : 0 < i.size) (hys : ys ≠ []) (hb1 : (es.length + ys.length) * i.bytes ≤ roomy) (hb2 : es.length + ys.length ≤ roomy) (hf : Fr S0 S)
    (h : ∀ x' S', Fr S0 S' → Sl S0 S' e i.size x' (es ++ ys) → (∀ l o, S l = some o → o ≠ .tok → S' l = some o) → K x' S') : happend false e i x ys S K := by
  obtain ⟨k, z, rfl, h2⟩ := hx
  have htok : TokOk S e i.size k z es := by
    rcases h2 with ⟨h, rfl, rfl⟩ | ⟨_, t, rfl, h4, h5, h6, _⟩
    · exact .inl ⟨rfl, .inr h⟩
    · exact .inr ⟨t, rfl, h4, h5, h6⟩
  refine happend_ok hz0 hys hb1 hb2 htok fun t S' ht hlt hn hk => h _ _ (fun l o hl => hk l o (hf l o hl) ?_) ⟨_, _, rfl, .inr ⟨by simp [hys], t, rfl, rfl, ht, hlt, hf.none hn⟩⟩ (fun l o hl ho => hk l o hl ?_)
  · rintro rfl
    rcases h2 with ⟨_, h, _⟩ | ⟨_, t', h, _, _, _, h7⟩
    · cases h
    · cases h; rw [h7] at hl; cases hl
  · rintro rfl
    rcases h2 with ⟨_, h, _⟩ | ⟨_, t', h, _, h5, _⟩
    · cases h
    · cases h; rw [h5] at hl; cases hl; exact ho rfl
theorem str_mid {T : TypeId} {l : List UInt8} {k k' : IntKind} {a b : Int} (hT : P.underlying T = some .string) (h0 : 0 ≤ a) (h1 : a ≤ b) (h2 : b ≤ l.length) :
    sliceV P T (.v (.string (B l))) (some (.v (.int k a))) (some (.v (.int k' b))) none = some (.v (.string (B ((l.take b.toNat).drop a.toNat)))) := by
  have h3 : a ≤ (b.toNat : Int) := by omega
  have h4 : 0 ≤ b := by omega
  have h5 : a ≤ max b 0 := by omega
  have hb : (Instr.sliceBounds false (B l).size (B l).size (some (.int k a)) (some (.int k' b)) none).val? P = some (a.toNat, b.toNat, l.length) := by
    simp [Instr.sliceBounds, bind, Sem.bind, pure, Sem.val?, Sem.val?_bind, B_size, Instr.sliceBound, asIntOf, h0, h5, h2, h4]
  simp only [sliceV, strSl, optVals, toVal, List.all_cons, List.all_nil, Option.isSome_some, Bool.and_self, if_true, Option.map_some, Option.map_none, Option.getD_some, hvOf, Instr.sliceAt, Instr.slice, underlying, program, bind, Sem.bind, pure]
  simp only [Sem.val?, Option.bind, hT, Option.isSome_none, Bool.false_eq_true, if_false, Sem.val?_bind, hb, Option.bind_some, okVal, okLeaf, plain, ofVal, ofLeaf, if_true]
  rw [B_extract]
theorem str_to {T : TypeId} {l : List UInt8} {k' : IntKind} {b : Int} (hT : P.underlying T = some .string) (h4 : 0 ≤ b) (h2 : b ≤ l.length) :
    sliceV P T (.v (.string (B l))) none (some (.v (.int k' b))) none = some (.v (.string (B (l.take b.toNat)))) := by
  have hb : (Instr.sliceBounds false (B l).size (B l).size none (some (.int k' b)) none).val? P = some (0, b.toNat, l.length) := by
    simp [Instr.sliceBounds, bind, Sem.bind, pure, Sem.val?, Sem.val?_bind, B_size, Instr.sliceBound, asIntOf, h2, h4]
  simp only [sliceV, strSl, optVals, toVal, List.all_cons, List.all_nil, Option.isSome_some, Bool.and_self, if_true, Option.map_some, Option.map_none, Option.getD_some, hvOf, Instr.sliceAt, Instr.slice, underlying, program, bind, Sem.bind, pure]
  simp only [Sem.val?, Option.bind, hT, Option.isSome_none, Bool.false_eq_true, if_false, Sem.val?_bind, hb, Option.bind_some, okVal, okLeaf, plain, ofVal, ofLeaf, if_true]
  rw [B_extract, List.drop_zero]
theorem bin_str_lss {T : TypeId} {x y : Operand} {s t : ByteArray} : binH P .lss T x y (.v (.string s)) (.v (.string t)) = some (.v (.bool (Op.bytesLess s.toList t.toList))) := by
  simp [binH, heqNil, binPure_str, hvOf, binOp, Op.stringOp, Sem.val?, okVal, ofVal, okLeaf, ofLeaf, plain, pure]
theorem B_list (l : List UInt8) : (B l).toList = l := by rw [ByteArray.toList_eq, B_data]
theorem hstore_agg {T : TypeId} {S : HS} {i : TyI} {l : Nat} {cs0 cs : List HV} (ht : tyI P T = some i) (hS : S l = some (.row cs0)) (h0 : cs0.length = i.size) (hl : cs.length = i.size) :
    hstore P T S (.ptr l 0) (.agg cs) = some (S.set l (.row cs)) := by
  have : splice cs0 0 cs = cs := by simp [splice, hl, ← h0]
  simp [hstore, ht, hS, HV.cellOk, HV.cells, hl, h0, this]
theorem hload_agg {T : TypeId} {S : HS} {i : TyI} {l : Nat} {cs : List HV} (ht : tyI P T = some i) (ha : i.agg = true) (hS : S l = some (.row cs)) (h0 : cs.length = i.size) : hload P T S (.ptr l 0) = some (.agg cs) := by
  simp [hload, ht, hcells, hS, ha, ← h0]
theorem sl_from {T e : TypeId} {i : TyI} {k : Tok} {ki : IntKind} {z : Nat} {es : List (List HV)} {a : Int} (hT : P.underlying T = some (.slice e)) (hi : tyI P e = some i) (hz : z = i.size ∨ es = []) (h0 : 0 ≤ a) (h1 : a ≤ es.length) :
    sliceV P T (.sl k z es) (some (.v (.int ki a))) none none = some (.sl (if k = .full then .full else if a < es.length then k else .none) z (es.drop a.toNat)) := by
  have h2 : (a.toNat < es.length) = (a < (es.length : Int)) := propext (by omega)
  simp [sliceV, slHV, hT, hi, hz, bnd, hint, h0, h1, h2]
theorem sl_to {T e : TypeId} {i : TyI} {k : Tok} {ki : IntKind} {z : Nat} {es : List (List HV)} {a : Int} (hT : P.underlying T = some (.slice e)) (hi : tyI P e = some i) (hz : z = i.size ∨ es = []) (h0 : 0 ≤ a) (h1 : a ≤ es.length) :
    ∃ k', sliceV P T (.sl k z es) none (some (.v (.int ki a))) none = some (.sl k' z (es.take a.toNat)) := by
  simp [sliceV, slHV, hT, hi, hz, bnd, hint, h0, h1]
end Go.HL
