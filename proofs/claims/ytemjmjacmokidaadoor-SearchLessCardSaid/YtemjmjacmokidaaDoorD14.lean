import Derived.Test.YtemjmjacmokidaaDoorD13
set_option linter.all false
namespace Go.HL
open Go Go.Proofs
attribute [local congr] brK_congr moveK_congr boxK_congr condK_congr guardK_congr some?_congr someS_congr storeK_congr allocK_congr callK_congr fnK_congr codeK_congr convK_congr
attribute [local congr] rangeK_congr hnext_congr
set_option maxRecDepth 10000
set_option maxHeartbeats 1000000
variable {gl : Nat → List HV}
structure Pol where
  origin : List UInt8
  zone : List Rec
  live : Bool
  over : Int
def Pol.hv (p : Pol) (k : Tok) (z : Nat) : List HV := [.str (B p.origin), .sl k z (recs p.zone), .bool p.live, .int .i64 p.over]
def DecodesTo (gl : Nat → List HV) (s : List UInt8) (t : Trig) (b : Bool) : Prop := ∀ (S : HS) (Q : HV → HS → Prop), (∀ S', Fr S S' → Q (.tup [.agg t.hv, .bool b]) S') → Om Tryd.prog (cfg gl) (.call 39 [.str (B s)] S Q)
def nodeV (p : Pol) (n : List UInt8) (dt : Trig) (db : Bool) (x : HV) : HV :=
  if (strip n p.origin).2 = true ∧ db = true ∧ (ofF (p.zone.filter fun r => r.name = n)).2.2 = true then .tup [.agg dt.hv, overV (ofF (p.zone.filter fun r => r.name = n)).1 x p.over, .bool true]
  else .tup [.agg trig0.hv, .agg act0, .bool false]
theorem _root_.Go.HL.Sl.weak {S0 S1 S : HS} {e : TypeId} {n : Nat} {x : HV} {es : List (List HV)} (h : Sl S1 S e n x es) (hf : Fr S0 S1) : Sl S0 S e n x es := by
  obtain ⟨k, z, h1, h2⟩ := h
  refine ⟨k, z, h1, ?_⟩
  rcases h2 with h | ⟨h, t, h3, h4, h5, h6, h7⟩
  · exact .inl h
  · exact .inr ⟨h, t, h3, h4, h5, h6, hf.none h7⟩
theorem _root_.Go.HL.Sl.setRow {S0 S : HS} {e : TypeId} {n l : Nat} {x : HV} {es : List (List HV)} {cs cs' : List HV} (h : Sl S0 S e n x es) (hl : S l = some (.row cs)) : Sl S0 (S.set l (.row cs')) e n x es := by
  obtain ⟨k, z, h1, h2⟩ := h
  refine ⟨k, z, h1, ?_⟩
  rcases h2 with h | ⟨h, t, h3, h4, h5, h6, h7⟩
  · exact .inl h
  · exact .inr ⟨h, t, h3, h4, by rw [HS.set_ne _ _ (by rintro rfl; rw [hl] at h5; cases h5)]; exact h5, h6, h7⟩
structure NJ (S0 S : HS) (lp l9 l11 l4 l5 : Nat) (p : Pol) (k : Tok) (z : Nat) (dt : Trig) (a : Act) (x : HV) (es : List (List HV)) : Prop where
  fr : Fr S0 S
  sl : Sl S0 S 57 4 x es
  gp : S lp = some (.row [.str (B p.origin), .sl k z (recs p.zone), .bool p.live, .int .i64 p.over])
  g9 : S l9 = some (.row dt.hv)
  g11 : S l11 = some (.row (a.hv x))
  g4 : ∃ cs, cs.length = 4 ∧ S l4 = some (.row cs)
  g5 : ∃ cs, cs.length = 4 ∧ S l5 = some (.row cs)
theorem NJ.grow {S0 S S' : HS} {lp l9 l11 l4 l5 : Nat} {p : Pol} {k : Tok} {z : Nat} {dt : Trig} {a : Act} {x : HV} {es : List (List HV)} (h : NJ S0 S lp l9 l11 l4 l5 p k z dt a x es) (f : Fr S S') : NJ S0 S' lp l9 l11 l4 l5 p k z dt a x es :=
  ⟨h.fr.trans f, h.sl.grow f, f _ _ h.gp, f _ _ h.g9, f _ _ h.g11, let ⟨c, h1, h2⟩ := h.g4; ⟨c, h1, f _ _ h2⟩, let ⟨c, h1, h2⟩ := h.g5; ⟨c, h1, f _ _ h2⟩⟩
theorem NJ.set4 {S0 S : HS} {lp l9 l11 l4 l5 : Nat} {p : Pol} {k : Tok} {z : Nat} {dt : Trig} {a : Act} {x : HV} {es : List (List HV)} (h : NJ S0 S lp l9 l11 l4 l5 p k z dt a x es) (n0 : S0 l4 = none) (np : lp ≠ l4) (n9 : l9 ≠ l4) (n11 : l11 ≠ l4) (n5 : l5 ≠ l4) {cs : List HV} (hc : cs.length = 4) :
    NJ S0 (S.set l4 (.row cs)) lp l9 l11 l4 l5 p k z dt a x es := by
  obtain ⟨c, h1, h2⟩ := h.g4
  exact ⟨h.fr.set _ n0, h.sl.setRow h2, by rw [HS.set_ne _ _ np]; exact h.gp, by rw [HS.set_ne _ _ n9]; exact h.g9, by rw [HS.set_ne _ _ n11]; exact h.g11, ⟨cs, hc, HS.set_same _ _ _⟩, by rw [HS.set_ne _ _ n5]; exact h.g5⟩
theorem NJ.set5 {S0 S : HS} {lp l9 l11 l4 l5 : Nat} {p : Pol} {k : Tok} {z : Nat} {dt : Trig} {a : Act} {x : HV} {es : List (List HV)} (h : NJ S0 S lp l9 l11 l4 l5 p k z dt a x es) (n0 : S0 l5 = none) (np : lp ≠ l5) (n9 : l9 ≠ l5) (n11 : l11 ≠ l5) (n4 : l4 ≠ l5) {cs : List HV} (hc : cs.length = 4) :
    NJ S0 (S.set l5 (.row cs)) lp l9 l11 l4 l5 p k z dt a x es := by
  obtain ⟨c, h1, h2⟩ := h.g5
  exact ⟨h.fr.set _ n0, h.sl.setRow h2, by rw [HS.set_ne _ _ np]; exact h.gp, by rw [HS.set_ne _ _ n9]; exact h.g9, by rw [HS.set_ne _ _ n11]; exact h.g11, by rw [HS.set_ne _ _ n4]; exact h.g4, ⟨cs, hc, HS.set_same _ _ _⟩⟩
def overC (a : Act) (x : HV) (kd : Int) : List HV := if overK kd then a.hv x else (⟨kd, [], false⟩ : Act).hv (.sl .full 0 [])
theorem overC_eq {a : Act} {x : HV} {kd : Int} : overV a x kd = .agg (overC a x kd) := by unfold overV overC; split <;> rfl
theorem overC_len {a : Act} {x : HV} {kd : Int} : (overC a x kd).length = 4 := by unfold overC; split <;> rfl
theorem node_spec {S : HS} {p : Pol} {n : List UInt8} {k : Tok} {z : Nat} {dt : Trig} {db : Bool} {Q : HV → HS → Prop} (hz : z = 4 ∨ p.zone = []) (hl : p.zone.length < 1000000) (hdec : DecodesTo gl (strip n p.origin).1 dt db)
    (h : ∀ x S', Fr S S' → Sl S S' 57 4 x (recs (ofF (p.zone.filter fun r => r.name = n)).2.1) → Q (nodeV p n dt db x) S') : Om Tryd.prog (cfg gl) (.call 33 [.agg (p.hv k z), .str (B n)] S Q) := by
  refine call_res [.cell 4 27, .cell 5 48, .tmp 6] 50 Tryd.func33 rfl rfl rfl rfl ?_
  simp (config := { contextual := true, decide := true }) only [↓pre, post, reduceIte, guardTmp, packRes, if_true, if_false, ite_true, ite_false, decide_eq_true_eq, decide_true, decide_false, decide_eq_false_iff_not, true_implies, false_implies, forall_const, implies_true, List.map_cons, List.map_nil, Bool.true_eq_false, Bool.false_eq_true, List.getElem?_cons_zero, List.getElem?_cons_succ, Option.getD_some, Option.bind_some, Option.isSome_some, Option.map_some, Option.map_none, some?_some, List.cons_append, List.nil_append, List.append_nil, Int.toNat_natCast, nn0, Nat.zero_add, Nat.mul_one, and_true, true_and, true_or, or_true, List.mem_cons, List.not_mem_nil, forall_eq_or_imp, forall_eq, HV.cellOk, HV.cells, ti48, ti27]
  intro lp hlp l4 hl4 hty4 l5 hl5 hty5
  generalize hS1 : S.set lp (.row (p.hv k z)) = S1 at *
  have gp : S1 lp = some (.row (p.hv k z)) := by rw [← hS1]; exact HS.set_same _ _ _
  have f1 : Fr S S1 := by rw [← hS1]; exact Fr.new _ hlp
  generalize hS2 : S1.set l4 _ = S2 at *
  have g4 : S2 l4 = some (.row trig0.hv) := by rw [← hS2]; exact HS.set_same _ _ _
  have f2 : Fr S1 S2 := by rw [← hS2]; exact Fr.new _ hl4
  generalize hS3 : S2.set l5 _ = S3 at *
  have g5 : S3 l5 = some (.row act0) := by rw [← hS3]; exact HS.set_same _ _ _
  have f3 : Fr S2 S3 := by rw [← hS3]; exact Fr.new _ hl5
  have gp3 := f3 _ _ (f2 _ _ gp)
  simp only [Pol.hv] at gp3
  simp (config := { contextual := true, decide := true }) only [↓pre, post, reduceIte, guardTmp, packRes, if_true, if_false, ite_true, ite_false, decide_eq_true_eq, decide_true, decide_false, decide_eq_false_iff_not, true_implies, false_implies, forall_const, implies_true, List.map_cons, List.map_nil, Bool.true_eq_false, Bool.false_eq_true, List.getElem?_cons_zero, List.getElem?_cons_succ, Option.getD_some, Option.bind_some, Option.isSome_some, Option.map_some, Option.map_none, some?_some, List.cons_append, List.nil_append, List.append_nil, Int.toNat_natCast, nn0, Nat.zero_add, Nat.mul_one, and_true, true_and, true_or, or_true, List.mem_cons, List.not_mem_nil, forall_eq_or_imp, forall_eq, hfieldAddr, sp60, hload, hcells, ti23, gp3]
  refine callK_of (strip_spec fun S4 f4 => ?_)
  simp (config := { contextual := true, decide := true }) only [↓pre, post, reduceIte, guardTmp, packRes, if_true, if_false, ite_true, ite_false, decide_eq_true_eq, decide_true, decide_false, decide_eq_false_iff_not, true_implies, false_implies, forall_const, implies_true, List.map_cons, List.map_nil, Bool.true_eq_false, Bool.false_eq_true, List.getElem?_cons_zero, List.getElem?_cons_succ, Option.getD_some, Option.bind_some, Option.isSome_some, Option.map_some, Option.map_none, some?_some, List.cons_append, List.nil_append, List.append_nil, Int.toNat_natCast, nn0, Nat.zero_add, Nat.mul_one, and_true, true_and, true_or, or_true, List.mem_cons, List.not_mem_nil, forall_eq_or_imp, forall_eq]
  refine callK_of (hdec _ _ fun S5 f5 => ?_)
  simp (config := { contextual := true, decide := true }) only [↓pre, post, reduceIte, guardTmp, packRes, if_true, if_false, ite_true, ite_false, decide_eq_true_eq, decide_true, decide_false, decide_eq_false_iff_not, true_implies, false_implies, forall_const, implies_true, List.map_cons, List.map_nil, Bool.true_eq_false, Bool.false_eq_true, List.getElem?_cons_zero, List.getElem?_cons_succ, Option.getD_some, Option.bind_some, Option.isSome_some, Option.map_some, Option.map_none, some?_some, List.cons_append, List.nil_append, List.append_nil, Int.toNat_natCast, nn0, Nat.zero_add, Nat.mul_one, and_true, true_and, true_or, or_true, List.mem_cons, List.not_mem_nil, forall_eq_or_imp, forall_eq, ti27]
  intro l9 hl9 hty9
  generalize hS6 : S5.set l9 _ = S6 at *
  have g9 : S6 l9 = some (.row trig0.hv) := by rw [← hS6]; exact HS.set_same _ _ _
  have f6 : Fr S5 S6 := by rw [← hS6]; exact Fr.new _ hl9
  have hst9 := hstore_agg (cs := dt.hv) ti27 g9 rfl rfl
  have f7 : Fr S5 (S6.set l9 (.row dt.hv)) := f6.set _ hl9
  have g9' : (S6.set l9 (.row dt.hv)) l9 = some (.row dt.hv) := HS.set_same _ _ _
  have gp7 := f7 _ _ (f5 _ _ (f4 _ _ gp3))
  simp (config := { contextual := true, decide := true }) only [↓pre, post, reduceIte, guardTmp, packRes, if_true, if_false, ite_true, ite_false, decide_eq_true_eq, decide_true, decide_false, decide_eq_false_iff_not, true_implies, false_implies, forall_const, implies_true, List.map_cons, List.map_nil, Bool.true_eq_false, Bool.false_eq_true, List.getElem?_cons_zero, List.getElem?_cons_succ, Option.getD_some, Option.bind_some, Option.isSome_some, Option.map_some, Option.map_none, some?_some, List.cons_append, List.nil_append, List.append_nil, Int.toNat_natCast, nn0, Nat.zero_add, Nat.mul_one, and_true, true_and, true_or, or_true, List.mem_cons, List.not_mem_nil, forall_eq_or_imp, forall_eq, hst9]
  generalize (S6.set l9 (.row dt.hv)) = S7 at *
  simp (config := { contextual := true, decide := true }) only [↓pre, post, reduceIte, guardTmp, packRes, if_true, if_false, ite_true, ite_false, decide_eq_true_eq, decide_true, decide_false, decide_eq_false_iff_not, true_implies, false_implies, forall_const, implies_true, List.map_cons, List.map_nil, Bool.true_eq_false, Bool.false_eq_true, List.getElem?_cons_zero, List.getElem?_cons_succ, Option.getD_some, Option.bind_some, Option.isSome_some, Option.map_some, Option.map_none, some?_some, List.cons_append, List.nil_append, List.append_nil, Int.toNat_natCast, nn0, Nat.zero_add, Nat.mul_one, and_true, true_and, true_or, or_true, List.mem_cons, List.not_mem_nil, forall_eq_or_imp, forall_eq, hfieldAddr, sp60, hload, hcells, ti58, gp7]
  refine callK_of (at_spec hz hl fun y S8 f8 hy => ?_)
  obtain ⟨ky, zy, rfl, hzy⟩ := hy.sz
  simp (config := { contextual := true, decide := true }) only [↓pre, post, reduceIte, guardTmp, packRes, if_true, if_false, ite_true, ite_false, decide_eq_true_eq, decide_true, decide_false, decide_eq_false_iff_not, true_implies, false_implies, forall_const, implies_true, List.map_cons, List.map_nil, Bool.true_eq_false, Bool.false_eq_true, List.getElem?_cons_zero, List.getElem?_cons_succ, Option.getD_some, Option.bind_some, Option.isSome_some, Option.map_some, Option.map_none, some?_some, List.cons_append, List.nil_append, List.append_nil, Int.toNat_natCast, nn0, Nat.zero_add, Nat.mul_one, and_true, true_and, true_or, or_true, List.mem_cons, List.not_mem_nil, forall_eq_or_imp, forall_eq]
  refine callK_of (of_spec (hzy.imp id (fun h => by simpa [recs] using h)) (by have := List.length_filter_le (fun r : Rec => decide (r.name = n)) p.zone; omega) fun x S9 f9 hx => ?_)
  obtain ⟨kx, zx, rfl, hzx⟩ := hx.sz
  simp (config := { contextual := true, decide := true }) only [↓pre, post, reduceIte, guardTmp, packRes, if_true, if_false, ite_true, ite_false, decide_eq_true_eq, decide_true, decide_false, decide_eq_false_iff_not, true_implies, false_implies, forall_const, implies_true, List.map_cons, List.map_nil, Bool.true_eq_false, Bool.false_eq_true, List.getElem?_cons_zero, List.getElem?_cons_succ, Option.getD_some, Option.bind_some, Option.isSome_some, Option.map_some, Option.map_none, some?_some, List.cons_append, List.nil_append, List.append_nil, Int.toNat_natCast, nn0, Nat.zero_add, Nat.mul_one, and_true, true_and, true_or, or_true, List.mem_cons, List.not_mem_nil, forall_eq_or_imp, forall_eq, ti48]
  intro l11 hl11 hty11
  generalize hS10 : S9.set l11 _ = S10 at *
  have g11 : S10 l11 = some (.row act0) := by rw [← hS10]; exact HS.set_same _ _ _
  have f10 : Fr S9 S10 := by rw [← hS10]; exact Fr.new _ hl11
  generalize hAr : (ofF (p.zone.filter fun r => r.name = n)) = Ar at *
  have hst11 := hstore_agg (cs := Ar.1.hv (.sl kx zx (recs Ar.2.1))) ti48 g11 rfl rfl
  have f11 : Fr S9 (S10.set l11 (.row (Ar.1.hv (.sl kx zx (recs Ar.2.1))))) := f10.set _ hl11
  have g11' : (S10.set l11 (.row (Ar.1.hv (.sl kx zx (recs Ar.2.1))))) l11 = some (.row (Ar.1.hv (.sl kx zx (recs Ar.2.1)))) := HS.set_same _ _ _
  have F9 : Fr S3 S9 := (((f4.trans f5).trans f7).trans f8).trans f9
  have nl4 : S l4 = none := f1.none hl4
  have nl5 : S l5 = none := (f1.trans f2).none hl5
  have ne45 : l4 ≠ l5 := ne_of_some_none g4 hl5
  have F03 : Fr S S3 := (f1.trans f2).trans f3
  have hxS : Sl S S9 57 4 (.sl kx zx (recs Ar.2.1)) (recs Ar.2.1) := hx.weak (((F03.trans f4).trans f5).trans f7 |>.trans f8)
  generalize (S10.set l11 (.row (Ar.1.hv (.sl kx zx (recs Ar.2.1))))) = S11 at *
  have hz4 : hstore Tryd.prog 27 S11 (.ptr l4 0) (.agg [.v (.int .i64 0), .v (.string ⟨#[]⟩), .v (.string ⟨#[]⟩), .v (.int .i64 0)]) = some (S11.set l4 (.row [.v (.int .i64 0), .v (.string ⟨#[]⟩), .v (.string ⟨#[]⟩), .v (.int .i64 0)])) := hstore_agg ti27 (f11 _ _ (F9 _ _ (f3 _ _ g4))) rfl rfl
  have hz5 := hstore_agg (P := Tryd.prog) (T := 48) (S := S11.set l4 (.row [.v (.int .i64 0), .v (.string ⟨#[]⟩), .v (.string ⟨#[]⟩), .v (.int .i64 0)])) (cs0 := act0) (cs := [.v (.int .i64 0), .v (.string ⟨#[]⟩), .v (.bool false), .sl .full 0 []]) ti48 (by rw [HS.set_ne _ _ ne45.symm]; exact f11 _ _ (F9 _ _ g5)) rfl rfl
  have hw4 := hload_agg (P := Tryd.prog) (T := 27) (S := (S11.set l4 (.row [.v (.int .i64 0), .v (.string ⟨#[]⟩), .v (.string ⟨#[]⟩), .v (.int .i64 0)])).set l5 (.row [.v (.int .i64 0), .v (.string ⟨#[]⟩), .v (.bool false), .sl .full 0 []])) (l := l4) ti27 rfl (by rw [HS.set_ne _ _ ne45]; exact HS.set_same _ _ _) rfl
  have hw5 := hload_agg (P := Tryd.prog) (T := 48) (S := (S11.set l4 (.row [.v (.int .i64 0), .v (.string ⟨#[]⟩), .v (.string ⟨#[]⟩), .v (.int .i64 0)])).set l5 (.row [.v (.int .i64 0), .v (.string ⟨#[]⟩), .v (.bool false), .sl .full 0 []])) (l := l5) ti48 rfl (HS.set_same _ _ _) rfl
  have hfin := fun hneg : ¬ ((strip n p.origin).2 = true ∧ db = true ∧ Ar.2.2 = true) => (show Q (.tup [.agg trig0.hv, .agg act0, .bool false]) ((S11.set l4 (.row [.v (.int .i64 0), .v (.string ⟨#[]⟩), .v (.string ⟨#[]⟩), .v (.int .i64 0)])).set l5 (.row [.v (.int .i64 0), .v (.string ⟨#[]⟩), .v (.bool false), .sl .full 0 []])) by
    have := h (.sl kx zx (recs Ar.2.1)) ((S11.set l4 (.row [.v (.int .i64 0), .v (.string ⟨#[]⟩), .v (.string ⟨#[]⟩), .v (.int .i64 0)])).set l5 (.row [.v (.int .i64 0), .v (.string ⟨#[]⟩), .v (.bool false), .sl .full 0 []])) ((((F03.trans F9).trans f11).set _ nl4).set _ nl5)
      (((hxS.grow f11).setRow (f11 _ _ (F9 _ _ (f3 _ _ g4)))).setRow (by rw [HS.set_ne _ _ ne45.symm]; exact f11 _ _ (F9 _ _ g5)))
    unfold nodeV at this
    rw [hAr, if_neg hneg] at this
    exact this)
  cases hs : (strip n p.origin).2 <;> cases db <;> cases hd : Ar.2.2
  case true.true.true =>
    simp (config := { contextual := true, decide := true }) only [↓pre, post, reduceIte, guardTmp, packRes, if_true, if_false, ite_true, ite_false, decide_eq_true_eq, decide_true, decide_false, decide_eq_false_iff_not, true_implies, false_implies, forall_const, implies_true, List.map_cons, List.map_nil, Bool.true_eq_false, Bool.false_eq_true, List.getElem?_cons_zero, List.getElem?_cons_succ, Option.getD_some, Option.bind_some, Option.isSome_some, Option.map_some, Option.map_none, some?_some, List.cons_append, List.nil_append, List.append_nil, Int.toNat_natCast, nn0, Nat.zero_add, Nat.mul_one, and_true, true_and, true_or, or_true, List.mem_cons, List.not_mem_nil, forall_eq_or_imp, forall_eq, hst11, hs, hd, Bool.not_true, Bool.not_false]
    have J0 : NJ S S11 lp l9 l11 l4 l5 p k z dt Ar.1 (.sl kx zx (recs Ar.2.1)) (recs Ar.2.1) :=
      ⟨(F03.trans F9).trans f11, hxS.grow f11, f11 _ _ (F9 _ _ gp3), f11 _ _ (f9 _ _ (f8 _ _ g9')), g11', ⟨_, rfl, f11 _ _ (F9 _ _ (f3 _ _ g4))⟩, ⟨_, rfl, f11 _ _ (F9 _ _ g5)⟩⟩
    have np4 : lp ≠ l4 := ne_of_some_none gp hl4
    have np5 : lp ≠ l5 := ne_of_some_none (f2 _ _ gp) hl5
    have n94 : l9 ≠ l4 := (ne_of_some_none (f5 _ _ (f4 _ _ (f3 _ _ g4))) hl9).symm
    have n95 : l9 ≠ l5 := (ne_of_some_none (f5 _ _ (f4 _ _ g5)) hl9).symm
    have n114 : l11 ≠ l4 := (ne_of_some_none (F9 _ _ (f3 _ _ g4)) hl11).symm
    have n115 : l11 ≠ l5 := (ne_of_some_none (F9 _ _ g5) hl11).symm
    refine drawP extMono (fun S' => NJ S S' lp l9 l11 l4 l5 p k z dt Ar.1 (.sl kx zx (recs Ar.2.1)) (recs Ar.2.1))
      [(5, fun S' => S' l4 = some (.row dt.hv)), (6, fun S' => S' l5 = some (.row (overC Ar.1 (.sl kx zx (recs Ar.2.1)) p.over)))]
      [(45, .agg dt.hv), (46, .agg (Ar.1.hv (.sl kx zx (recs Ar.2.1)))), (47, .ptr lp 3), (48, .int .i64 p.over), (49, .agg (overC Ar.1 (.sl kx zx (recs Ar.2.1)) p.over)), (6, .bool true)] [] J0 rfl rfl rfl rfl rfl ?_ ?_
    · refine ⟨?_, ?_, ?_, ?_, ?_, ?_, ?_, ?_, trivial⟩
      all_goals
        intro env S' hJ hr
        have j9 := hload_agg ti27 rfl hJ.g9 rfl
        have j11 := hload_agg ti48 rfl hJ.g11 rfl
        have jp := hJ.gp
      · simp (config := { contextual := true, decide := true }) only [↓pre, post, reduceIte, guardTmp, packRes, if_true, if_false, ite_true, ite_false, decide_eq_true_eq, decide_true, decide_false, decide_eq_false_iff_not, true_implies, false_implies, forall_const, implies_true, List.map_cons, List.map_nil, Bool.true_eq_false, Bool.false_eq_true, List.getElem?_cons_zero, List.getElem?_cons_succ, Option.getD_some, Option.bind_some, Option.isSome_some, Option.map_some, Option.map_none, some?_some, List.cons_append, List.nil_append, List.append_nil, Int.toNat_natCast, nn0, Nat.zero_add, Nat.mul_one, and_true, true_and, true_or, or_true, List.mem_cons, List.not_mem_nil, forall_eq_or_imp, forall_eq, reduceCtorEq, obls_cons, obls_nil, readsOf, tmpL, opL, optL, guardL, and_imp, Option.some.injEq, forall_eq'] at hr
        simp (config := { contextual := true, decide := true }) only [↓pre, post, reduceIte, guardTmp, packRes, if_true, if_false, ite_true, ite_false, decide_eq_true_eq, decide_true, decide_false, decide_eq_false_iff_not, true_implies, false_implies, forall_const, implies_true, List.map_cons, List.map_nil, Bool.true_eq_false, Bool.false_eq_true, List.getElem?_cons_zero, List.getElem?_cons_succ, Option.getD_some, Option.bind_some, Option.isSome_some, Option.map_some, Option.map_none, some?_some, List.cons_append, List.nil_append, List.append_nil, Int.toNat_natCast, nn0, Nat.zero_add, Nat.mul_one, and_true, true_and, true_or, or_true, List.mem_cons, List.not_mem_nil, forall_eq_or_imp, forall_eq, oblsP_cons, oblsP_nil, presL_cons, presL_nil, ne_eq, not_true_eq_false, not_false_eq_true, reduceCtorEq, obls_cons, obls_nil, readsOf, tmpL, opL, optL, guardL, and_imp, Option.some.injEq, forall_eq', hr, j9, hJ]
      · simp (config := { contextual := true, decide := true }) only [↓pre, post, reduceIte, guardTmp, packRes, if_true, if_false, ite_true, ite_false, decide_eq_true_eq, decide_true, decide_false, decide_eq_false_iff_not, true_implies, false_implies, forall_const, implies_true, List.map_cons, List.map_nil, Bool.true_eq_false, Bool.false_eq_true, List.getElem?_cons_zero, List.getElem?_cons_succ, Option.getD_some, Option.bind_some, Option.isSome_some, Option.map_some, Option.map_none, some?_some, List.cons_append, List.nil_append, List.append_nil, Int.toNat_natCast, nn0, Nat.zero_add, Nat.mul_one, and_true, true_and, true_or, or_true, List.mem_cons, List.not_mem_nil, forall_eq_or_imp, forall_eq, reduceCtorEq, obls_cons, obls_nil, readsOf, tmpL, opL, optL, guardL, and_imp, Option.some.injEq, forall_eq'] at hr
        simp (config := { contextual := true, decide := true }) only [↓pre, post, reduceIte, guardTmp, packRes, if_true, if_false, ite_true, ite_false, decide_eq_true_eq, decide_true, decide_false, decide_eq_false_iff_not, true_implies, false_implies, forall_const, implies_true, List.map_cons, List.map_nil, Bool.true_eq_false, Bool.false_eq_true, List.getElem?_cons_zero, List.getElem?_cons_succ, Option.getD_some, Option.bind_some, Option.isSome_some, Option.map_some, Option.map_none, some?_some, List.cons_append, List.nil_append, List.append_nil, Int.toNat_natCast, nn0, Nat.zero_add, Nat.mul_one, and_true, true_and, true_or, or_true, List.mem_cons, List.not_mem_nil, forall_eq_or_imp, forall_eq, oblsP_cons, oblsP_nil, presL_cons, presL_nil, ne_eq, not_true_eq_false, not_false_eq_true, reduceCtorEq, obls_cons, obls_nil, readsOf, tmpL, opL, optL, guardL, and_imp, Option.some.injEq, forall_eq', hr, j11, hJ]
      · simp (config := { contextual := true, decide := true }) only [↓pre, post, reduceIte, guardTmp, packRes, if_true, if_false, ite_true, ite_false, decide_eq_true_eq, decide_true, decide_false, decide_eq_false_iff_not, true_implies, false_implies, forall_const, implies_true, List.map_cons, List.map_nil, Bool.true_eq_false, Bool.false_eq_true, List.getElem?_cons_zero, List.getElem?_cons_succ, Option.getD_some, Option.bind_some, Option.isSome_some, Option.map_some, Option.map_none, some?_some, List.cons_append, List.nil_append, List.append_nil, Int.toNat_natCast, nn0, Nat.zero_add, Nat.mul_one, and_true, true_and, true_or, or_true, List.mem_cons, List.not_mem_nil, forall_eq_or_imp, forall_eq, reduceCtorEq, obls_cons, obls_nil, readsOf, tmpL, opL, optL, guardL, and_imp, Option.some.injEq, forall_eq'] at hr
        simp (config := { contextual := true, decide := true }) only [↓pre, post, reduceIte, guardTmp, packRes, if_true, if_false, ite_true, ite_false, decide_eq_true_eq, decide_true, decide_false, decide_eq_false_iff_not, true_implies, false_implies, forall_const, implies_true, List.map_cons, List.map_nil, Bool.true_eq_false, Bool.false_eq_true, List.getElem?_cons_zero, List.getElem?_cons_succ, Option.getD_some, Option.bind_some, Option.isSome_some, Option.map_some, Option.map_none, some?_some, List.cons_append, List.nil_append, List.append_nil, Int.toNat_natCast, nn0, Nat.zero_add, Nat.mul_one, and_true, true_and, true_or, or_true, List.mem_cons, List.not_mem_nil, forall_eq_or_imp, forall_eq, oblsP_cons, oblsP_nil, presL_cons, presL_nil, ne_eq, not_true_eq_false, not_false_eq_true, reduceCtorEq, obls_cons, obls_nil, readsOf, tmpL, opL, optL, guardL, and_imp, Option.some.injEq, forall_eq', hr, hfieldAddr, sp60, hJ]
      · simp (config := { contextual := true, decide := true }) only [↓pre, post, reduceIte, guardTmp, packRes, if_true, if_false, ite_true, ite_false, decide_eq_true_eq, decide_true, decide_false, decide_eq_false_iff_not, true_implies, false_implies, forall_const, implies_true, List.map_cons, List.map_nil, Bool.true_eq_false, Bool.false_eq_true, List.getElem?_cons_zero, List.getElem?_cons_succ, Option.getD_some, Option.bind_some, Option.isSome_some, Option.map_some, Option.map_none, some?_some, List.cons_append, List.nil_append, List.append_nil, Int.toNat_natCast, nn0, Nat.zero_add, Nat.mul_one, and_true, true_and, true_or, or_true, List.mem_cons, List.not_mem_nil, forall_eq_or_imp, forall_eq, reduceCtorEq, obls_cons, obls_nil, readsOf, tmpL, opL, optL, guardL, and_imp, Option.some.injEq, forall_eq'] at hr
        simp (config := { contextual := true, decide := true }) only [↓pre, post, reduceIte, guardTmp, packRes, if_true, if_false, ite_true, ite_false, decide_eq_true_eq, decide_true, decide_false, decide_eq_false_iff_not, true_implies, false_implies, forall_const, implies_true, List.map_cons, List.map_nil, Bool.true_eq_false, Bool.false_eq_true, List.getElem?_cons_zero, List.getElem?_cons_succ, Option.getD_some, Option.bind_some, Option.isSome_some, Option.map_some, Option.map_none, some?_some, List.cons_append, List.nil_append, List.append_nil, Int.toNat_natCast, nn0, Nat.zero_add, Nat.mul_one, and_true, true_and, true_or, or_true, List.mem_cons, List.not_mem_nil, forall_eq_or_imp, forall_eq, oblsP_cons, oblsP_nil, presL_cons, presL_nil, ne_eq, not_true_eq_false, not_false_eq_true, reduceCtorEq, obls_cons, obls_nil, readsOf, tmpL, opL, optL, guardL, and_imp, Option.some.injEq, forall_eq', hr, hload, hcells, jp, ti45, hJ]
      · simp (config := { contextual := true, decide := true }) only [↓pre, post, reduceIte, guardTmp, packRes, if_true, if_false, ite_true, ite_false, decide_eq_true_eq, decide_true, decide_false, decide_eq_false_iff_not, true_implies, false_implies, forall_const, implies_true, List.map_cons, List.map_nil, Bool.true_eq_false, Bool.false_eq_true, List.getElem?_cons_zero, List.getElem?_cons_succ, Option.getD_some, Option.bind_some, Option.isSome_some, Option.map_some, Option.map_none, some?_some, List.cons_append, List.nil_append, List.append_nil, Int.toNat_natCast, nn0, Nat.zero_add, Nat.mul_one, and_true, true_and, true_or, or_true, List.mem_cons, List.not_mem_nil, forall_eq_or_imp, forall_eq, reduceCtorEq, obls_cons, obls_nil, readsOf, tmpL, opL, optL, guardL, and_imp, Option.some.injEq, forall_eq'] at hr
        simp (config := { contextual := true, decide := true }) only [↓pre, post, reduceIte, guardTmp, packRes, if_true, if_false, ite_true, ite_false, decide_eq_true_eq, decide_true, decide_false, decide_eq_false_iff_not, true_implies, false_implies, forall_const, implies_true, List.map_cons, List.map_nil, Bool.true_eq_false, Bool.false_eq_true, List.getElem?_cons_zero, List.getElem?_cons_succ, Option.getD_some, Option.bind_some, Option.isSome_some, Option.map_some, Option.map_none, some?_some, List.cons_append, List.nil_append, List.append_nil, Int.toNat_natCast, nn0, Nat.zero_add, Nat.mul_one, and_true, true_and, true_or, or_true, List.mem_cons, List.not_mem_nil, forall_eq_or_imp, forall_eq, oblsP_cons, oblsP_nil, presL_cons, presL_nil, ne_eq, not_true_eq_false, not_false_eq_true, reduceCtorEq, obls_cons, obls_nil, readsOf, tmpL, opL, optL, guardL, and_imp, Option.some.injEq, forall_eq', hr, hJ]
        refine callK_of (over_spec fun S2' f2' => ?_)
        rw [overC_eq]
        simp (config := { contextual := true, decide := true }) only [↓pre, post, reduceIte, guardTmp, packRes, if_true, if_false, ite_true, ite_false, decide_eq_true_eq, decide_true, decide_false, decide_eq_false_iff_not, true_implies, false_implies, forall_const, implies_true, List.map_cons, List.map_nil, Bool.true_eq_false, Bool.false_eq_true, List.getElem?_cons_zero, List.getElem?_cons_succ, Option.getD_some, Option.bind_some, Option.isSome_some, Option.map_some, Option.map_none, some?_some, List.cons_append, List.nil_append, List.append_nil, Int.toNat_natCast, nn0, Nat.zero_add, Nat.mul_one, and_true, true_and, true_or, or_true, List.mem_cons, List.not_mem_nil, forall_eq_or_imp, forall_eq, oblsP_cons, oblsP_nil, presL_cons, presL_nil, ne_eq, not_true_eq_false, not_false_eq_true, reduceCtorEq, obls_cons, obls_nil, readsOf, tmpL, opL, optL, guardL, and_imp, Option.some.injEq, forall_eq', hJ.grow f2']
        exact ⟨f2' _ _, f2' _ _⟩
      · simp (config := { contextual := true, decide := true }) only [↓pre, post, reduceIte, guardTmp, packRes, if_true, if_false, ite_true, ite_false, decide_eq_true_eq, decide_true, decide_false, decide_eq_false_iff_not, true_implies, false_implies, forall_const, implies_true, List.map_cons, List.map_nil, Bool.true_eq_false, Bool.false_eq_true, List.getElem?_cons_zero, List.getElem?_cons_succ, Option.getD_some, Option.bind_some, Option.isSome_some, Option.map_some, Option.map_none, some?_some, List.cons_append, List.nil_append, List.append_nil, Int.toNat_natCast, nn0, Nat.zero_add, Nat.mul_one, and_true, true_and, true_or, or_true, List.mem_cons, List.not_mem_nil, forall_eq_or_imp, forall_eq, reduceCtorEq, obls_cons, obls_nil, readsOf, tmpL, opL, optL, guardL, and_imp, Option.some.injEq, forall_eq'] at hr
        obtain ⟨c, h1, h2⟩ := hJ.g4
        have hst := hstore_agg (cs := dt.hv) ti27 h2 h1 rfl
        simp (config := { contextual := true, decide := true }) only [↓pre, post, reduceIte, guardTmp, packRes, if_true, if_false, ite_true, ite_false, decide_eq_true_eq, decide_true, decide_false, decide_eq_false_iff_not, true_implies, false_implies, forall_const, implies_true, List.map_cons, List.map_nil, Bool.true_eq_false, Bool.false_eq_true, List.getElem?_cons_zero, List.getElem?_cons_succ, Option.getD_some, Option.bind_some, Option.isSome_some, Option.map_some, Option.map_none, some?_some, List.cons_append, List.nil_append, List.append_nil, Int.toNat_natCast, nn0, Nat.zero_add, Nat.mul_one, and_true, true_and, true_or, or_true, List.mem_cons, List.not_mem_nil, forall_eq_or_imp, forall_eq, oblsP_cons, oblsP_nil, presL_cons, presL_nil, ne_eq, not_true_eq_false, not_false_eq_true, reduceCtorEq, obls_cons, obls_nil, readsOf, tmpL, opL, optL, guardL, and_imp, Option.some.injEq, forall_eq', hr, hst, hJ.set4 nl4 np4 n94 n114 ne45.symm (cs := dt.hv) rfl]
        intro h5
        rw [HS.set_ne _ _ ne45.symm]
        exact h5
      · simp (config := { contextual := true, decide := true }) only [↓pre, post, reduceIte, guardTmp, packRes, if_true, if_false, ite_true, ite_false, decide_eq_true_eq, decide_true, decide_false, decide_eq_false_iff_not, true_implies, false_implies, forall_const, implies_true, List.map_cons, List.map_nil, Bool.true_eq_false, Bool.false_eq_true, List.getElem?_cons_zero, List.getElem?_cons_succ, Option.getD_some, Option.bind_some, Option.isSome_some, Option.map_some, Option.map_none, some?_some, List.cons_append, List.nil_append, List.append_nil, Int.toNat_natCast, nn0, Nat.zero_add, Nat.mul_one, and_true, true_and, true_or, or_true, List.mem_cons, List.not_mem_nil, forall_eq_or_imp, forall_eq, reduceCtorEq, obls_cons, obls_nil, readsOf, tmpL, opL, optL, guardL, and_imp, Option.some.injEq, forall_eq'] at hr
        obtain ⟨c, h1, h2⟩ := hJ.g5
        have hst := hstore_agg (cs := overC Ar.1 (.sl kx zx (recs Ar.2.1)) p.over) ti48 h2 h1 overC_len
        simp (config := { contextual := true, decide := true }) only [↓pre, post, reduceIte, guardTmp, packRes, if_true, if_false, ite_true, ite_false, decide_eq_true_eq, decide_true, decide_false, decide_eq_false_iff_not, true_implies, false_implies, forall_const, implies_true, List.map_cons, List.map_nil, Bool.true_eq_false, Bool.false_eq_true, List.getElem?_cons_zero, List.getElem?_cons_succ, Option.getD_some, Option.bind_some, Option.isSome_some, Option.map_some, Option.map_none, some?_some, List.cons_append, List.nil_append, List.append_nil, Int.toNat_natCast, nn0, Nat.zero_add, Nat.mul_one, and_true, true_and, true_or, or_true, List.mem_cons, List.not_mem_nil, forall_eq_or_imp, forall_eq, oblsP_cons, oblsP_nil, presL_cons, presL_nil, ne_eq, not_true_eq_false, not_false_eq_true, reduceCtorEq, obls_cons, obls_nil, readsOf, tmpL, opL, optL, guardL, and_imp, Option.some.injEq, forall_eq', hr, hst, hJ.set5 nl5 np5 n95 n115 ne45 (cs := overC Ar.1 (.sl kx zx (recs Ar.2.1)) p.over) overC_len]
        intro h5
        rw [HS.set_ne _ _ ne45]
        exact h5
      · simp (config := { contextual := true, decide := true }) only [↓pre, post, reduceIte, guardTmp, packRes, if_true, if_false, ite_true, ite_false, decide_eq_true_eq, decide_true, decide_false, decide_eq_false_iff_not, true_implies, false_implies, forall_const, implies_true, List.map_cons, List.map_nil, Bool.true_eq_false, Bool.false_eq_true, List.getElem?_cons_zero, List.getElem?_cons_succ, Option.getD_some, Option.bind_some, Option.isSome_some, Option.map_some, Option.map_none, some?_some, List.cons_append, List.nil_append, List.append_nil, Int.toNat_natCast, nn0, Nat.zero_add, Nat.mul_one, and_true, true_and, true_or, or_true, List.mem_cons, List.not_mem_nil, forall_eq_or_imp, forall_eq, reduceCtorEq, obls_cons, obls_nil, readsOf, tmpL, opL, optL, guardL, and_imp, Option.some.injEq, forall_eq'] at hr
        simp (config := { contextual := true, decide := true }) only [↓pre, post, reduceIte, guardTmp, packRes, if_true, if_false, ite_true, ite_false, decide_eq_true_eq, decide_true, decide_false, decide_eq_false_iff_not, true_implies, false_implies, forall_const, implies_true, List.map_cons, List.map_nil, Bool.true_eq_false, Bool.false_eq_true, List.getElem?_cons_zero, List.getElem?_cons_succ, Option.getD_some, Option.bind_some, Option.isSome_some, Option.map_some, Option.map_none, some?_some, List.cons_append, List.nil_append, List.append_nil, Int.toNat_natCast, nn0, Nat.zero_add, Nat.mul_one, and_true, true_and, true_or, or_true, List.mem_cons, List.not_mem_nil, forall_eq_or_imp, forall_eq, oblsP_cons, oblsP_nil, presL_cons, presL_nil, ne_eq, not_true_eq_false, not_false_eq_true, reduceCtorEq, obls_cons, obls_nil, readsOf, tmpL, opL, optL, guardL, and_imp, Option.some.injEq, forall_eq', hr, hJ]
    · intro S' hJ hpost
      have p4 := hpost _ (List.mem_cons_self)
      have p5 := hpost _ (List.mem_cons_of_mem _ List.mem_cons_self)
      simp only at p4 p5
      have r4 := hload_agg (P := Tryd.prog) ti27 rfl p4 rfl
      have r5 := hload_agg (P := Tryd.prog) ti48 rfl p5 overC_len
      simp (config := { contextual := true, decide := true }) only [↓pre, post, reduceIte, guardTmp, packRes, if_true, if_false, ite_true, ite_false, decide_eq_true_eq, decide_true, decide_false, decide_eq_false_iff_not, true_implies, false_implies, forall_const, implies_true, List.map_cons, List.map_nil, Bool.true_eq_false, Bool.false_eq_true, List.getElem?_cons_zero, List.getElem?_cons_succ, Option.getD_some, Option.bind_some, Option.isSome_some, Option.map_some, Option.map_none, some?_some, List.cons_append, List.nil_append, List.append_nil, Int.toNat_natCast, nn0, Nat.zero_add, Nat.mul_one, and_true, true_and, true_or, or_true, List.mem_cons, List.not_mem_nil, forall_eq_or_imp, forall_eq, r4, r5]
      have := h _ S' hJ.fr hJ.sl
      unfold nodeV at this
      rw [hAr, hs, hd, if_pos ⟨rfl, rfl, rfl⟩, overC_eq] at this
      exact this
  all_goals
    simp (config := { contextual := true, decide := true }) only [↓pre, post, reduceIte, guardTmp, packRes, if_true, if_false, ite_true, ite_false, decide_eq_true_eq, decide_true, decide_false, decide_eq_false_iff_not, true_implies, false_implies, forall_const, implies_true, List.map_cons, List.map_nil, Bool.true_eq_false, Bool.false_eq_true, List.getElem?_cons_zero, List.getElem?_cons_succ, Option.getD_some, Option.bind_some, Option.isSome_some, Option.map_some, Option.map_none, some?_some, List.cons_append, List.nil_append, List.append_nil, Int.toNat_natCast, nn0, Nat.zero_add, Nat.mul_one, and_true, true_and, true_or, or_true, List.mem_cons, List.not_mem_nil, forall_eq_or_imp, forall_eq, hst11, hs, hd, Bool.not_true, Bool.not_false, hbuild, hfill, splice, List.take_zero, List.take_succ_cons, List.drop_zero, List.drop_succ_cons, List.take_nil, List.drop_nil, HV.cellOk, HV.cells, List.length_cons, List.length_nil, ti48, Tryd.underlying48, sp48, ti27, Tryd.underlying27, sp27, hz4, hz5, hw4, hw5]
    exact hfin (by simp [hs, hd])
end Go.HL
