/- Proved here: the card of bolter/bolterlaw19.SearchLess: at every input that the row admits, the call returns true, and each argument reads afterwards as it read before.
   Conditions: the row's and the card's own (the listed package-level variables hold what the program's text lays; the card ties them to the text). The walk: Go.HL.searchLess_spec. -/
import Derived.Test.YtemjmjacmokidaaDoorD19
set_option linter.all false
namespace Go.HL
open Go Go.Proofs Go.ChangeShapes Go.WideShapes Go.RowKit
set_option maxRecDepth 100000
namespace D
theorem trodAll_len {P : Program} {H : Type} {enc : TypeId × Value → H} {W : World} {sp : Nat → Bool} {hd : Bool} : ∀ {ts : List TypeId} {vs : List Value} {ds : List (DataW H)} {ps : List MemPlace}, DataW.TrodAll enc P W 0 sp hd ts vs ds ps → ds.length = ts.length
  | [], [], [], _, _ => rfl
  | _ :: _, _ :: _, _ :: _, _, ⟨_, _, _, h, _⟩ => by rw [List.length_cons, List.length_cons, trodAll_len h]
theorem pt27 : plainTy Tryd.prog 6 27 = true := by kernel_rfl
theorem rd27 : Tryd.prog.readableRec 27 = true ∧ 27 < Tryd.prog.types.size := ⟨by kernel_rfl, of_decide_eq_true (by kernel_rfl)⟩
theorem lifted (os : Os) (started : os.Started) (H : Type) (enc : TypeId × Value → H) :
    ReturnsInHanded {} Tryd.checked os 3 .any (fun w args => (YtemjmjacmokidaaDoor.Rows.searchLessSpec.pre enc Tryd.prog Tryd.f3 [] false w args ∧ laidMetH Tryd.prog YtemjmjacmokidaaDoor.Rows.searchLessRow.laid w) ∧ sizedMet enc Tryd.prog Tryd.f3 (OpenSpec.ofChange YtemjmjacmokidaaDoor.Rows.searchLessSpec) false w args)
      (YtemjmjacmokidaaDoor.Rows.searchLessSpec.post enc Tryd.prog Tryd.f3 false true false false) := by
  refine returnsInHanded_of_change_and (C := Tryd.checked) (X := fun w _ => laidMetH Tryd.prog YtemjmjacmokidaaDoor.Rows.searchLessRow.laid w) (fun _ _ _ hh h => h.of_heap hh) own started (by kernel_rfl) Tryd.func3
    (ChangeSpec.witness_shaped (enc := enc) (C := Tryd.checked) (os := os) (X := fun w _ => laidMetH Tryd.prog YtemjmjacmokidaaDoor.Rows.searchLessRow.laid w) false (World.doorLaid Tryd.prog 400 os)
      #[.agg #[.int .i64 0, .string .empty, .string .empty, .int .i64 0], .agg #[.int .i64 0, .string .empty, .string .empty, .int .i64 0], .agg #[.int .i64 0, .string .empty, .string .empty, .int .i64 0]] 8 rfl (World.shaped_of_RefB (by kernel_rfl) (by kernel_rfl)) (by kernel_rfl) (by kernel_rfl) (by kernel_rfl) (door_met os _)) ?_
  intro W base args ds gs before hval0 hW _ _ hL _
  have hval : ∀ (j : Nat) t v, Tryd.f3.params[j]? = some t → args[j]? = some v → Value.okWide Tryd.prog W .any base t v := hval0
  have hW' := hW
  obtain ⟨p, q, hA0, hV, rfl, hfz, hnd⟩ := hW
  have hA : DataW.TrodAll enc Tryd.prog W 0 (fun _ => true) true Tryd.f3.params.toList args.toList ds p := hA0
  have hA1 := hA
  rw [Tryd.params3] at hA hval
  obtain ⟨rfl, rfl⟩ := trodVars_none hV
  have hts : ∀ t ∈ [27, 27, 27], plainTy Tryd.prog 6 t = true := by
    intro t ht
    obtain rfl : t = 27 := by simpa using ht
    exact pt27
  obtain ⟨xs, k1, k2, k3, k4⟩ := trodAll_args (P := Tryd.prog) (W := W) (base := base) hts (fun j t v h1 h2 => hval j t v (by simpa using h1) (by simpa using h2)) hA
  match xs, k3, ds, trodAll_len hA with
  | [x0, x1, x2], _, [d0, d1, d2], _ =>
    have sh : ∀ x, ShapeV Tryd.prog 6 27 x → ∃ hs, x = .agg hs ∧ Shape Tryd.prog 6 27 hs := by
      intro x hx
      unfold ShapeV at hx
      rw [Tryd.underlying27] at hx
      exact hx
    obtain ⟨a, rfl, ha⟩ := sh x0 (k4 0 x0 27 rfl rfl)
    obtain ⟨b, rfl, hb⟩ := sh x1 (k4 1 x1 27 rfl rfl)
    obtain ⟨c, rfl, hc⟩ := sh x2 (k4 2 x2 27 rfl rfl)
    refine (calls_of_Om (searchLess_om a b c ha hb hc) (args' := args) ⟨by simpa using k1, fun i x y hx hy => k2 i x y hx (by simpa using hy)⟩).mono fun e W' hpost => ?_
    obtain ⟨v, x, G', S', rfl, rfl, hG, hI, hv⟩ := hpost
    cases hv with
    | v _ =>
      have bel : Below W.heap.size W W' := hI.below
      have hrd : ∀ t ∈ [27, 27, 27], Tryd.prog.readableRec t = true ∧ t < Tryd.prog.types.size := by
        intro t ht
        obtain rfl : t = 27 := by simpa using ht
        exact rd27
      exact ⟨_, rfl, _, _, _, [], _, [], hW', trodAll_mk1 (shut_bool Tryd.underlying4 _), trodAll_below laidOut bel (by rw [Tryd.params3]; exact hrd) hA1, rfl, bel.frame _, fun h => by cases h⟩
end D
end Go.HL
namespace Go.Proofs.YtemjmjacmokidaaDoor
open Go Go.HL Go.HL.D
set_option maxRecDepth 100000
theorem searchLess_row : Rows.SearchLessSaid :=
  OpenClaim.holds_of_wide 3 Tryd.f3 rfl rfl rfl rfl rfl rfl rfl ⟨rfl, rfl, rfl, rfl, rfl⟩ rfl rfl rfl rfl rfl (by kernel_rfl) Tryd.func3 (by kernel_rfl)
    (of_decide_eq_true (by kernel_rfl)) (by unfold Func.isWrapper; first | (rw [if_pos (by decide +kernel)]; kernel_rfl) | (rw [if_neg (by decide +kernel)]; exact ⟨rfl, rfl⟩))
    (fun os started H enc _ => lifted os started H enc)
theorem searchLess_card : Rows.SearchLessCardSaid :=
  Claim7.holds_tied_plain_at .later [] [.data, .data, .data, .sentinel, .sentinel] true (true, "05cca0dec2e43c46265e7509ea3a29e68aa0e0124c91dc084018f3ccd082c65b") true
    searchLess_row (fun _ h => by cases h) (by kernel_rfl) (fun _ h => by cases h) searchLess_row_tie rfl ⟨rfl, rfl⟩ (by kernel_rfl) rfl
    (fun f fn hf hfn => by
      obtain rfl : f = 3 := Option.some.inj ((show Tryd.prog.funcNamed "bolter/bolterlaw19.SearchLess" = some 3 by kernel_rfl).symm.trans hf) |>.symm
      obtain rfl : fn = Tryd.f3 := (Option.some.inj (Tryd.func3.symm.trans hfn)).symm
      exact ⟨by kernel_rfl, fun j t ht => by
        rw [Tryd.params3] at ht
        have hm : t ∈ [27, 27, 27] := by simpa using Array.mem_of_getElem? ht
        have hall : ([27, 27, 27].all fun u => !Tryd.prog.wantsStandIn u) = true := by kernel_rfl
        exact (show Tryd.prog.wantsStandIn t = false by simpa using List.all_eq_true.1 hall t hm)⟩)
    (by kernel_rfl)
end Go.Proofs.YtemjmjacmokidaaDoor
