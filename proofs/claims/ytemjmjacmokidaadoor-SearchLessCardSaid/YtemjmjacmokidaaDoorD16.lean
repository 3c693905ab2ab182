import Derived.Test.YtemjmjacmokidaaDoorD15
set_option linter.all false
namespace Go.HL
open Go Go.Proofs
attribute [local congr] brK_congr moveK_congr boxK_congr condK_congr guardK_congr some?_congr someS_congr storeK_congr allocK_congr callK_congr fnK_congr codeK_congr convK_congr
attribute [local congr] rangeK_congr hnext_congr
set_option maxRecDepth 10000
set_option maxHeartbeats 2000000
variable {gl : Nat → List HV}
def nRpz : List UInt8 := [3, 114, 112, 122]
def nEx : List UInt8 := [2, 101, 120]
def nExRpz : List UInt8 := [2, 101, 120, 3, 114, 112, 122]
def recA : Rec := ⟨nExRpz, 5, 0, []⟩
def polA : Pol := ⟨nRpz, [recA], true, 0⟩
def trigA : Trig := ⟨1, nEx, [], 0⟩
def actA : Act := ⟨4, [], false⟩
theorem stripA : strip nExRpz nRpz = (nEx, true) := by decide
theorem labelsA : labels nEx = some [[101, 120]] := by decide
theorem namedA : namedF [[101, 120]] 1 2 = (trigA, true) := by
  have : makeOk [[101, 120]] [] = some nEx := by decide
  simp [namedF, this, trigA]
theorem decodeA : DecodesTo gl nEx trigA true := fun S Q h =>
  decode_plain labelsA (last := [101, 120]) rfl (by decide) (fun S' hf => by rw [namedA]; exact h S' hf)
theorem ofA : ofF [recA] = (actA, [], true) := by
  have h1 : ¬ ∃ r ∈ [recA], badR [recA].length r := by simp [badR, recA]
  have h2 : targetF [] = actA := by unfold targetF; rw [show targetKind [] = some 4 by decide]; rfl
  unfold ofF
  rw [if_neg h1]
  simp [recA, h2]
theorem nodeA {S : HS} {k : Tok} {Q : HV → HS → Prop} (h : ∀ k2 z2 S', Fr S S' → Q (.tup [.agg trigA.hv, .agg (actA.hv (.sl k2 z2 [])), .bool true]) S') : Om Tryd.prog (cfg gl) (.call 33 [.agg (polA.hv k 4), .str (B nExRpz)] S Q) := by
  refine node_spec (p := polA) (dt := trigA) (db := true) (.inl rfl) (by simp [polA]) (by rw [show (strip nExRpz polA.origin).1 = nEx from congrArg Prod.fst stripA]; exact decodeA) fun x S' hf hx => ?_
  have e1 : (polA.zone.filter fun r => r.name = nExRpz) = [recA] := by simp [polA, recA]
  have e2 : strip nExRpz polA.origin = (nEx, true) := stripA
  rw [e1, ofA] at hx
  obtain ⟨k2, z2, rfl, _⟩ := hx.sz
  have : nodeV polA nExRpz trigA true (.sl k2 z2 []) = .tup [.agg trigA.hv, .agg (actA.hv (.sl k2 z2 [])), .bool true] := by
    unfold nodeV
    rw [e1, e2, ofA, if_pos ⟨rfl, rfl, rfl⟩]
    rfl
  simp only [recs, List.map_nil]
  rw [this]
  exact h k2 z2 S' hf
theorem searchOfA {S : HS} {kp kz : Tok} {tk1 tk2 tk3 : Tok} {z1 z2 z3 : Nat} {e1 e2 e3 : List (List HV)} {cl : List UInt8} {Q : HV → HS → Prop}
    (h : ∀ k2 z2 S', Fr S S' → Q (.tup [.agg (.int .i64 0 :: (trigA.hv ++ actA.hv (.sl k2 z2 []))), .bool true]) S') :
    Om Tryd.prog (cfg gl) (.call 16 [.sl kp 4 [polA.hv kz 4], .agg (factsHV cl nEx (.sl tk1 z1 e1) (.sl tk2 z2 e2) (.sl tk3 z3 e3))] S Q) := by
  refine call_res [.cell 4 50, .tmp 5] 66 Tryd.func16 rfl rfl rfl rfl ?_
  simp (config := { contextual := true, decide := true }) only [↓pre, post, reduceIte, guardTmp, packRes, if_true, if_false, ite_true, ite_false, decide_eq_true_eq, decide_true, decide_false, decide_eq_false_iff_not, true_implies, false_implies, forall_const, implies_true, List.map_cons, List.map_nil, Bool.true_eq_false, Bool.false_eq_true, List.getElem?_cons_zero, List.getElem?_cons_succ, Option.getD_some, Option.bind_some, Option.isSome_some, Option.map_some, Option.map_none, some?_some, List.cons_append, List.nil_append, List.append_nil, Int.toNat_natCast, nn0, Nat.zero_add, Nat.mul_one, and_true, true_and, true_or, or_true, List.mem_cons, List.not_mem_nil, forall_eq_or_imp, forall_eq, HV.cellOk, HV.cells, ti50]
  intro lf hlf l4 hl4 hty4 lb hlb htyb
  generalize hS1 : S.set lf _ = S1 at *
  have gf : S1 lf = some (.row (factsHV cl nEx (.sl tk1 z1 e1) (.sl tk2 z2 e2) (.sl tk3 z3 e3))) := by rw [← hS1]; exact HS.set_same _ _ _
  have f1 : Fr S S1 := by rw [← hS1]; exact Fr.new _ hlf
  generalize hS2 : S1.set l4 _ = S2 at *
  have f2 : Fr S1 S2 := by rw [← hS2]; exact Fr.new _ hl4
  have g4 : ∃ cs, cs.length = 9 ∧ S2 l4 = some (.row cs) := ⟨_, rfl, by rw [← hS2]; exact HS.set_same _ _ _⟩
  generalize hS3 : S2.set lb _ = S3 at *
  have f3 : Fr S2 S3 := by rw [← hS3]; exact Fr.new _ hlb
  have gb : ∃ cs, cs.length = 9 ∧ S3 lb = some (.row cs) := ⟨_, rfl, by rw [← hS3]; exact HS.set_same _ _ _⟩
  simp (config := { contextual := true, decide := true }) only [↓pre, post, reduceIte, guardTmp, packRes, if_true, if_false, ite_true, ite_false, decide_eq_true_eq, decide_true, decide_false, decide_eq_false_iff_not, true_implies, false_implies, forall_const, implies_true, List.map_cons, List.map_nil, Bool.true_eq_false, Bool.false_eq_true, List.getElem?_cons_zero, List.getElem?_cons_succ, Option.getD_some, Option.bind_some, Option.isSome_some, Option.map_some, Option.map_none, some?_some, List.cons_append, List.nil_append, List.append_nil, Int.toNat_natCast, nn0, Nat.zero_add, Nat.mul_one, and_true, true_and, true_or, or_true, List.mem_cons, List.not_mem_nil, forall_eq_or_imp, forall_eq, lenFits, Tryd.underlying61, hlen, List.length_cons, List.length_nil]
  refine loop_round ?_
  simp (config := { contextual := true, decide := true }) only [↓pre, post, reduceIte, guardTmp, packRes, if_true, if_false, ite_true, ite_false, decide_eq_true_eq, decide_true, decide_false, decide_eq_false_iff_not, true_implies, false_implies, forall_const, implies_true, List.map_cons, List.map_nil, Bool.true_eq_false, Bool.false_eq_true, List.getElem?_cons_zero, List.getElem?_cons_succ, Option.getD_some, Option.bind_some, Option.isSome_some, Option.map_some, Option.map_none, some?_some, List.cons_append, List.nil_append, List.append_nil, Int.toNat_natCast, nn0, Nat.zero_add, Nat.mul_one, and_true, true_and, true_or, or_true, List.mem_cons, List.not_mem_nil, forall_eq_or_imp, forall_eq, ↓againK_normal, ↓againK_exit, ↓againK_goto, ↓againK_ret, hindexAddr, hint, Tryd.underlying61, ti60, hload, hcells, Pol.hv, Int.toNat_zero, Int.le_refl, hbuild, hfill, splice, List.take_zero, List.take_succ_cons, List.drop_zero, List.drop_succ_cons, List.take_nil, List.drop_nil, HV.cellOk, HV.cells, List.length_cons, List.length_nil]
  intro lq hlq htyq
  generalize hS4 : S3.set lq _ = S4 at *
  have gq0 : S4 lq = some (.row [.v (.string ⟨#[]⟩), .sl .full 0 [], .v (.bool false), .v (.int .i64 0)]) := by rw [← hS4]; exact HS.set_same _ _ _
  have f4 : Fr S3 (S4.set lq (.row (polA.hv kz 4))) := by rw [← hS4]; exact (Fr.new _ hlq).set _ hlq
  have hstq := hstore_agg (P := Tryd.prog) (T := 60) (cs := polA.hv kz 4) ti60 gq0 rfl rfl
  have gq : (S4.set lq (.row (polA.hv kz 4))) lq = some (.row (polA.hv kz 4)) := HS.set_same _ _ _
  generalize S4.set lq (.row (polA.hv kz 4)) = S5 at *
  simp only [Pol.hv, show polA.live = true from rfl, show recs polA.zone = [recA.hv] from rfl] at hstq gq
  simp (config := { contextual := true, decide := true }) only [↓pre, post, reduceIte, guardTmp, packRes, if_true, if_false, ite_true, ite_false, decide_eq_true_eq, decide_true, decide_false, decide_eq_false_iff_not, true_implies, false_implies, forall_const, implies_true, List.map_cons, List.map_nil, Bool.true_eq_false, Bool.false_eq_true, List.getElem?_cons_zero, List.getElem?_cons_succ, Option.getD_some, Option.bind_some, Option.isSome_some, Option.map_some, Option.map_none, some?_some, List.cons_append, List.nil_append, List.append_nil, Int.toNat_natCast, nn0, Nat.zero_add, Nat.mul_one, and_true, true_and, true_or, or_true, List.mem_cons, List.not_mem_nil, forall_eq_or_imp, forall_eq, ↓againK_normal, ↓againK_exit, ↓againK_goto, ↓againK_ret, hstq, show polA.live = true from rfl, show recs polA.zone = [recA.hv] from rfl, hfieldAddr, sp60, hload, hcells, gq, ti4, ti58, Bool.not_true, lenFits, Tryd.underlying58, hlen, List.length_cons, List.length_nil]
  refine loop_round ?_
  simp only [Rec.hv] at gq
  simp (config := { contextual := true, decide := true }) only [↓pre, post, reduceIte, guardTmp, packRes, if_true, if_false, ite_true, ite_false, decide_eq_true_eq, decide_true, decide_false, decide_eq_false_iff_not, true_implies, false_implies, forall_const, implies_true, List.map_cons, List.map_nil, Bool.true_eq_false, Bool.false_eq_true, List.getElem?_cons_zero, List.getElem?_cons_succ, Option.getD_some, Option.bind_some, Option.isSome_some, Option.map_some, Option.map_none, some?_some, List.cons_append, List.nil_append, List.append_nil, Int.toNat_natCast, nn0, Nat.zero_add, Nat.mul_one, and_true, true_and, true_or, or_true, List.mem_cons, List.not_mem_nil, forall_eq_or_imp, forall_eq, ↓againK_normal, ↓againK_exit, ↓againK_goto, ↓againK_ret, Rec.hv, hindexAddr, hint, Tryd.underlying58, ti57, hload, hcells, Int.toNat_zero, Int.le_refl, hbuild, hfill, splice, List.take_zero, List.take_succ_cons, List.drop_zero, List.drop_succ_cons, List.take_nil, List.drop_nil, HV.cellOk, HV.cells, List.length_cons, List.length_nil]
  intro lr hlr htyr
  generalize hS6 : S5.set lr _ = S6 at *
  have gr0 : S6 lr = some (.row [.v (.string ⟨#[]⟩), .v (.int .u16 0), .v (.int .u32 0), .v (.string ⟨#[]⟩)]) := by rw [← hS6]; exact HS.set_same _ _ _
  have f6 : Fr S5 (S6.set lr (.row recA.hv)) := by rw [← hS6]; exact (Fr.new _ hlr).set _ hlr
  have hstr := hstore_agg (P := Tryd.prog) (T := 57) (cs := recA.hv) ti57 gr0 rfl rfl
  have gr : (S6.set lr (.row recA.hv)) lr = some (.row recA.hv) := HS.set_same _ _ _
  generalize S6.set lr (.row recA.hv) = S7 at *
  simp only [Rec.hv] at hstr gr
  have gq7 := f6 _ _ gq
  simp (config := { contextual := true, decide := true }) only [↓pre, post, reduceIte, guardTmp, packRes, if_true, if_false, ite_true, ite_false, decide_eq_true_eq, decide_true, decide_false, decide_eq_false_iff_not, true_implies, false_implies, forall_const, implies_true, List.map_cons, List.map_nil, Bool.true_eq_false, Bool.false_eq_true, List.getElem?_cons_zero, List.getElem?_cons_succ, Option.getD_some, Option.bind_some, Option.isSome_some, Option.map_some, Option.map_none, some?_some, List.cons_append, List.nil_append, List.append_nil, Int.toNat_natCast, nn0, Nat.zero_add, Nat.mul_one, and_true, true_and, true_or, or_true, List.mem_cons, List.not_mem_nil, forall_eq_or_imp, forall_eq, ↓againK_normal, ↓againK_exit, ↓againK_goto, ↓againK_ret, hstr, gq7, ti60, hfieldAddr, sp57, hload, hcells, gr, ti23, hbuild, hfill, splice, List.take_zero, List.take_succ_cons, List.drop_zero, List.drop_succ_cons, List.take_nil, List.drop_nil, HV.cellOk, HV.cells, List.length_cons, List.length_nil]
  have hargs : (HV.agg [HV.str (B polA.origin), HV.sl kz 4 [[HV.str (B recA.name), HV.int .u16 recA.type, HV.int .u32 recA.ttl, HV.str (B recA.data)]], HV.bool true, HV.int .i64 polA.over]) = .agg (polA.hv kz 4) := rfl
  have hname : recA.name = nExRpz := rfl
  rw [hargs, hname]
  refine callK_of (nodeA fun k2 z2 S8 f8 => ?_)
  simp (config := { contextual := true, decide := true }) only [↓pre, post, reduceIte, guardTmp, packRes, if_true, if_false, ite_true, ite_false, decide_eq_true_eq, decide_true, decide_false, decide_eq_false_iff_not, true_implies, false_implies, forall_const, implies_true, List.map_cons, List.map_nil, Bool.true_eq_false, Bool.false_eq_true, List.getElem?_cons_zero, List.getElem?_cons_succ, Option.getD_some, Option.bind_some, Option.isSome_some, Option.map_some, Option.map_none, some?_some, List.cons_append, List.nil_append, List.append_nil, Int.toNat_natCast, nn0, Nat.zero_add, Nat.mul_one, and_true, true_and, true_or, or_true, List.mem_cons, List.not_mem_nil, forall_eq_or_imp, forall_eq, ↓againK_normal, ↓againK_exit, ↓againK_goto, ↓againK_ret, ti27, ti48]
  intro lt' hlt' htyt la hla htya
  have nta : lt' ≠ la := ne_of_some_none (HS.set_same _ _ _) hla
  have gT : ((S8.set lt' (.row trig0.hv)).set la (.row act0)) lt' = some (.row trig0.hv) := by rw [HS.set_ne _ _ nta]; exact HS.set_same _ _ _
  have gA : ((S8.set lt' (.row trig0.hv)).set la (.row act0)) la = some (.row act0) := HS.set_same _ _ _
  have fTA : Fr S8 ((S8.set lt' (.row trig0.hv)).set la (.row act0)) := (Fr.new _ hlt').trans (Fr.new _ hla)
  have nla : S8 la = none := (Fr.new _ hlt').none hla
  simp only [trig0, Trig.hv, act0, show B [] = (⟨#[]⟩ : ByteArray) from rfl] at gT gA fTA
  generalize hS9 : ((S8.set lt' _).set la _) = S9 at *
  have hT := hstore_agg (P := Tryd.prog) (T := 27) (cs := trigA.hv) ti27 gT rfl rfl
  have gA2 : (S9.set lt' (.row trigA.hv)) la = some (.row act0) := by rw [HS.set_ne _ _ nta.symm]; exact gA
  have hA := hstore_agg (P := Tryd.prog) (T := 48) (cs := actA.hv (.sl k2 z2 [])) ti48 gA2 rfl rfl
  have f9 : Fr S8 ((S9.set lt' (.row trigA.hv)).set la (.row (actA.hv (.sl k2 z2 [])))) := (fTA.set _ hlt').set _ nla
  have gT2 : ((S9.set lt' (.row trigA.hv)).set la (.row (actA.hv (.sl k2 z2 [])))) lt' = some (.row trigA.hv) := by rw [HS.set_ne _ _ nta]; exact HS.set_same _ _ _
  have gA3 : ((S9.set lt' (.row trigA.hv)).set la (.row (actA.hv (.sl k2 z2 [])))) la = some (.row (actA.hv (.sl k2 z2 []))) := HS.set_same _ _ _
  generalize hS10 : (S9.set lt' (.row trigA.hv)).set la _ = S10 at *
  simp only [Trig.hv, Act.hv] at hT hA gT2 gA3
  have F10 : Fr S3 S10 := (((f4.trans f6).trans f8).trans f9)
  have gf10 := F10 _ _ (f3 _ _ (f2 _ _ gf))
  simp only [factsHV] at gf10
  have hk1 : (actA.kind = 1) = False := eq_false (by decide)
  simp (config := { contextual := true, decide := true }) only [↓pre, post, reduceIte, guardTmp, packRes, if_true, if_false, ite_true, ite_false, decide_eq_true_eq, decide_true, decide_false, decide_eq_false_iff_not, true_implies, false_implies, forall_const, implies_true, List.map_cons, List.map_nil, Bool.true_eq_false, Bool.false_eq_true, List.getElem?_cons_zero, List.getElem?_cons_succ, Option.getD_some, Option.bind_some, Option.isSome_some, Option.map_some, Option.map_none, some?_some, List.cons_append, List.nil_append, List.append_nil, Int.toNat_natCast, nn0, Nat.zero_add, Nat.mul_one, and_true, true_and, true_or, or_true, List.mem_cons, List.not_mem_nil, forall_eq_or_imp, forall_eq, ↓againK_normal, ↓againK_exit, ↓againK_goto, ↓againK_ret, Trig.hv, Act.hv, hT, hA, hfieldAddr, sp48, hload, hcells, gA3, gT2, gf10, ti45, ti27, ti65, hbuild, hfill, splice, List.take_zero, List.take_succ_cons, List.drop_zero, List.drop_succ_cons, List.take_nil, List.drop_nil, HV.cellOk, HV.cells, List.length_cons, List.length_nil, hk1, Bool.not_false]
  refine callK_of (matches_qname (t := trigA) rfl fun S11 f11 => ?_)
  rw [show decide (nEx = trigA.name) = true by decide]
  obtain ⟨cb, hcb, gb⟩ := gb
  obtain ⟨c4, hc4, g4⟩ := g4
  have gb11 := f11 _ _ (F10 _ _ gb)
  have lb11 := hload_agg (P := Tryd.prog) (T := 50) ti50 rfl gb11 hcb
  have gT11 := f11 _ _ gT2
  have gA11 := f11 _ _ gA3
  have lT11 := hload_agg (P := Tryd.prog) (T := 27) ti27 rfl gT11 rfl
  have lA11 := hload_agg (P := Tryd.prog) (T := 48) ti48 rfl gA11 rfl
  simp (config := { contextual := true, decide := true }) only [↓pre, post, reduceIte, guardTmp, packRes, if_true, if_false, ite_true, ite_false, decide_eq_true_eq, decide_true, decide_false, decide_eq_false_iff_not, true_implies, false_implies, forall_const, implies_true, List.map_cons, List.map_nil, Bool.true_eq_false, Bool.false_eq_true, List.getElem?_cons_zero, List.getElem?_cons_succ, Option.getD_some, Option.bind_some, Option.isSome_some, Option.map_some, Option.map_none, some?_some, List.cons_append, List.nil_append, List.append_nil, Int.toNat_natCast, nn0, Nat.zero_add, Nat.mul_one, and_true, true_and, true_or, or_true, List.mem_cons, List.not_mem_nil, forall_eq_or_imp, forall_eq, ↓againK_normal, ↓againK_exit, ↓againK_goto, ↓againK_ret, lT11, lA11, lb11]
  refine callK_of (better_first fun S12 f12 => ?_)
  have gb12 := f12 _ _ gb11
  have lT12 := hload_agg (P := Tryd.prog) (T := 27) ti27 rfl (f12 _ _ gT11) rfl
  have lA12 := hload_agg (P := Tryd.prog) (T := 48) ti48 rfl (f12 _ _ gA11) rfl
  let vd : List HV := .int .i64 0 :: (trigA.hv ++ actA.hv (.sl k2 z2 []))
  have hstb := hstore_agg (P := Tryd.prog) (T := 50) (cs := vd) ti50 gb12 hcb rfl
  simp only [vd, Trig.hv, Act.hv, List.cons_append, List.nil_append] at hstb
  simp (config := { contextual := true, decide := true }) only [↓pre, post, reduceIte, guardTmp, packRes, if_true, if_false, ite_true, ite_false, decide_eq_true_eq, decide_true, decide_false, decide_eq_false_iff_not, true_implies, false_implies, forall_const, implies_true, List.map_cons, List.map_nil, Bool.true_eq_false, Bool.false_eq_true, List.getElem?_cons_zero, List.getElem?_cons_succ, Option.getD_some, Option.bind_some, Option.isSome_some, Option.map_some, Option.map_none, some?_some, List.cons_append, List.nil_append, List.append_nil, Int.toNat_natCast, nn0, Nat.zero_add, Nat.mul_one, and_true, true_and, true_or, or_true, List.mem_cons, List.not_mem_nil, forall_eq_or_imp, forall_eq, ↓againK_normal, ↓againK_exit, ↓againK_goto, ↓againK_ret, lT12, lA12, hbuild, hfill, splice, List.take_zero, List.take_succ_cons, List.drop_zero, List.drop_succ_cons, List.take_nil, List.drop_nil, HV.cellOk, HV.cells, List.length_cons, List.length_nil, Tryd.underlying50, ti50, sp50, hstb, show IntKind.i64.wrap (0 + 1) = 1 by decide]
  refine loop_round ?_
  simp (config := { contextual := true, decide := true }) only [↓pre, post, reduceIte, guardTmp, packRes, if_true, if_false, ite_true, ite_false, decide_eq_true_eq, decide_true, decide_false, decide_eq_false_iff_not, true_implies, false_implies, forall_const, implies_true, List.map_cons, List.map_nil, Bool.true_eq_false, Bool.false_eq_true, List.getElem?_cons_zero, List.getElem?_cons_succ, Option.getD_some, Option.bind_some, Option.isSome_some, Option.map_some, Option.map_none, some?_some, List.cons_append, List.nil_append, List.append_nil, Int.toNat_natCast, nn0, Nat.zero_add, Nat.mul_one, and_true, true_and, true_or, or_true, List.mem_cons, List.not_mem_nil, forall_eq_or_imp, forall_eq, ↓againK_normal, ↓againK_exit, ↓againK_goto, ↓againK_ret, Int.lt_irrefl, Int.natCast_one, show IntKind.i64.wrap (0 + 1) = 1 by decide, Nat.zero_add]
  refine loop_round ?_
  have n4b : l4 ≠ lb := ne_of_some_none g4 hlb
  have g4' := f12 _ _ (f11 _ _ (F10 _ _ (f3 _ _ g4)))
  have lbE := hload_agg (P := Tryd.prog) (T := 50) (S := S12.set lb (.row vd)) (l := lb) ti50 rfl (HS.set_same _ _ _) rfl
  have st4 := hstore_agg (P := Tryd.prog) (T := 50) (S := S12.set lb (.row vd)) (cs := vd) (l := l4) ti50 (by rw [HS.set_ne _ _ n4b]; exact g4') hc4 rfl
  have ld4 := hload_agg (P := Tryd.prog) (T := 50) (S := (S12.set lb (.row vd)).set l4 (.row vd)) (l := l4) ti50 rfl (HS.set_same _ _ _) rfl
  simp only [vd, Trig.hv, Act.hv, List.cons_append, List.nil_append] at lbE st4 ld4
  simp (config := { contextual := true, decide := true }) only [↓pre, post, reduceIte, guardTmp, packRes, if_true, if_false, ite_true, ite_false, decide_eq_true_eq, decide_true, decide_false, decide_eq_false_iff_not, true_implies, false_implies, forall_const, implies_true, List.map_cons, List.map_nil, Bool.true_eq_false, Bool.false_eq_true, List.getElem?_cons_zero, List.getElem?_cons_succ, Option.getD_some, Option.bind_some, Option.isSome_some, Option.map_some, Option.map_none, some?_some, List.cons_append, List.nil_append, List.append_nil, Int.toNat_natCast, nn0, Nat.zero_add, Nat.mul_one, and_true, true_and, true_or, or_true, List.mem_cons, List.not_mem_nil, forall_eq_or_imp, forall_eq, ↓againK_normal, ↓againK_exit, ↓againK_goto, ↓againK_ret, Int.lt_irrefl, Int.natCast_one, show IntKind.i64.wrap (0 + 1) = 1 by decide, Nat.zero_add, lbE, st4, ld4]
  refine h k2 z2 _ ?_
  exact ((((((f1.trans f2).trans f3).trans F10).trans f11).trans f12).set _ ((f1.trans f2).none hlb)).set _ (f1.none hl4)
end Go.HL
