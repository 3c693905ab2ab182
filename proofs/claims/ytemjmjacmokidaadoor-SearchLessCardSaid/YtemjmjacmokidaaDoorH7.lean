import Derived.Test.YtemjmjacmokidaaDoorH6
set_option linter.all false
/-! HL, part 7: each operation does in the model what HL says (3): places and parts. -/
namespace Go.HL
open Go Go.RowKit
variable {P : Program} {C : Cfg} {W0 : World} {G : Ghost} {S : HS} {w : World}

theorem hint_V {x : HV} {y : Value} {i : Int} (hx : V G x y) (h : hint x = some i) : ∃ k, x = .v (.int k i) ∧ y = .int k i := by
  cases hx with
  | @v y hp =>
    cases y with
    | int k n => simp [hint] at h; subst h; exact ⟨k, rfl, rfl⟩
    | _ => simp [hint] at h
  | _ => simp [hint] at h

theorem bound_run {n : Nat} {env : Env} {a : Act} (hI : Inv C W0 G S w) (hE : EnvR G n env a) {x : Operand} (hx : Operand.okc x = true) {d y r Y : Nat} (h : hbound C env (some x) d y = some r) (hy : y ≤ Y) (code : BoundsCode) :
    (Instr.sliceBound (a.eval x) Y code).run P w = .ok r w ∧ r ≤ y := by
  simp only [hbound] at h
  cases hi : hint (hev C env x) with
  | none => simp [hi] at h
  | some i =>
    simp only [hi] at h
    split at h
    · rename_i hc
      injection h with h
      subst h
      obtain ⟨k, _, hk⟩ := hint_V (hev_V hI hE hx) hi
      refine ⟨?_, by omega⟩
      have hc' : 0 ≤ i ∧ i ≤ (Y : Int) := ⟨hc.1, by omega⟩
      simp [Instr.sliceBound, hk, asIntOf, hc']
    · cases h

theorem bounds_run {n : Nat} {env : Env} {a : Act} (hI : Inv C W0 G S w) (hE : EnvR G n env a) {lo hi mx : Option Operand} (hlo : ∀ x, lo = some x → Operand.okc x = true) (hhi : ∀ x, hi = some x → Operand.okc x = true) (hmx : ∀ x, mx = some x → Operand.okc x = true)
    {len cap m h l ym yh : Nat} (hne : ¬ (mx.isSome ∧ hi.isNone)) (hm : (mx = none ∧ m = cap) ∨ (mx.isSome ∧ hbound C env mx 0 ym = some m)) (hym : ym ≤ cap) (hyh : yh ≤ m)
    (hh : hbound C env hi len yh = some h) (hl : hbound C env lo 0 h = some l) :
    (Instr.sliceBounds true len cap (lo.map a.eval) (hi.map a.eval) (mx.map a.eval)).run P w = .ok (l, h, m) w := by
  have el : ∀ code, (match lo.map a.eval with | some v => (do let l ← Instr.sliceBound v h code; pure (l, h, m)) | none => (do let l ← pure 0; pure (l, h, m)) : Sem (Nat × Nat × Nat)).run P w = .ok (l, h, m) w := by
    intro code
    cases lo with
    | none => simp [hbound] at hl; simp [hl]
    | some x => simp [(bound_run (P := P) hI hE (hlo x rfl) hl (Nat.le_refl _) code).1]
  cases mx with
  | none =>
    have hm : m = cap := by rcases hm with ⟨_, h⟩ | ⟨h, _⟩; exact h; simp at h
    subst hm
    cases hi with
    | none =>
      simp [hbound] at hh
      subst hh
      simp only [Option.map_none, Instr.sliceBounds, Sem.run_bind, Sem.run_pure, Result.andThen_ok]
      exact el _
    | some x =>
      have := (bound_run (P := P) hI hE (hhi x rfl) hh hyh .sliceAcap).1
      simp only [Option.map_none, Option.map_some, Instr.sliceBounds, Sem.run_bind, Sem.run_pure, Result.andThen_ok, if_true, this]
      exact el _
  | some x =>
    have hm : hbound C env (some x) 0 ym = some m := by rcases hm with ⟨h, _⟩ | ⟨_, h⟩; cases h; exact h
    have h1 := (bound_run (P := P) hI hE (hmx x rfl) hm hym .slice3Acap).1
    cases hi with
    | none => simp at hne
    | some z =>
      have h2 := (bound_run (P := P) hI hE (hhi z rfl) hh hyh .slice3B).1
      simp only [Option.map_some, Instr.sliceBounds, Sem.run_bind, Sem.run_pure, Result.andThen_ok, if_true, h1, h2]
      exact el _

theorem slice_run {T e : TypeId} {inf : TypeInfo} {x : Option Addr} {len cap l h m : Nat} {lo hi mx : Option Value} (hu : P.underlying T = some (.slice e)) (hi' : P.info? e = some inf)
    (hb : (Instr.sliceBounds true len cap lo hi mx).run P w = .ok (l, h, m) w) :
    (Instr.sliceAt T (.slice x len cap) lo hi mx).run P w = .ok (.slice (if m = l then x else x.map (·.add (l * inf.size))) (h - l) (m - l)) w := by
  simp [Instr.sliceAt, Instr.slice, run_underlying hu, hb, sizeOf, typeInfo, hi']

theorem slice_ok {n : Nat} {env : Env} {a : Act} (hI : Inv C W0 G S w) (hE : EnvR G n env a) {T : TypeId} {x v : HV} {y : Value} {lo hi mx : Option Operand} (hlo : ∀ x, lo = some x → Operand.okc x = true) (hhi : ∀ x, hi = some x → Operand.okc x = true) (hmx : ∀ x, mx = some x → Operand.okc x = true)
    (h : hslice P C T x lo hi mx env = some v) (hx : V G x y) : ∃ y', (Instr.sliceAt T y (lo.map a.eval) (hi.map a.eval) (mx.map a.eval)).run P w = .ok y' w ∧ V G v y' := by
  unfold hslice at h
  cases hu : P.underlying T with
  | none => simp [hu] at h
  | some d =>
    cases d with
    | slice e =>
      simp only [hu] at h
      cases hj : tyI P e with
      | none => simp [hj] at h
      | some i =>
        obtain ⟨inf, d, zv, h1, h2, h3, h4, h5, h6, h7, h8, h9⟩ := tyI_spec hj
        have main : ∀ (k : Tok) (z : Nat) (es : List (List HV)) (ao : Option Addr) (cap : Nat), x = .sl k z es → y = .slice ao es.length cap → es.length ≤ cap →
            (∀ (k' : Tok) (l h m : Nat), (z = i.size ∨ es = []) → l ≤ h → h ≤ es.length → h ≤ m → m ≤ cap → (mx = none → m = cap) →
              (k' = (if mx.isSome then (if m = h then .full else .none) else if k = .full then (if h = es.length then .full else .none) else if h = es.length ∧ l < h then k else .none)) →
              V G (.sl k' z ((es.take h).drop l)) (.slice (if m = l then ao else ao.map (·.add (l * inf.size))) (h - l) (m - l))) →
            ∃ y', (Instr.sliceAt T y (lo.map a.eval) (hi.map a.eval) (mx.map a.eval)).run P w = .ok y' w ∧ V G v y' := by
          rintro k z es ao cap rfl rfl hcap hV
          simp only [hj] at h
          split at h
          · cases h
          · rename_i hne
            have hne1 : ¬ (mx.isSome ∧ hi.isNone) := fun h => hne (.inl h)
            have hz : z = i.size ∨ es = [] := by
              rcases Classical.em (z = i.size ∨ es = []) with h | h
              · exact h
              · exact absurd (.inr h) hne
            cases hm : hbound C env mx 0 es.length with
            | none => simp [hm] at h
            | some m =>
              simp only [hm] at h
              cases hh : hbound C env hi es.length (if mx.isSome then m else es.length) with
              | none => simp [hh] at h
              | some hb =>
                simp only [hh] at h
                cases hl : hbound C env lo 0 hb with
                | none => simp [hl] at h
                | some l =>
                  simp only [hl] at h
                  injection h with h
                  subst h
                  have hlh : l ≤ hb := by
                    cases lo with
                    | none => simp [hbound] at hl; omega
                    | some q => exact (bound_run (P := P) hI hE (hlo q rfl) hl (Nat.le_refl _) .index).2
                  have hhle : hb ≤ (if mx.isSome then m else es.length) ∨ (hi = none ∧ hb = es.length) := by
                    cases hi with
                    | none => simp [hbound] at hh; exact .inr ⟨rfl, hh.symm⟩
                    | some q => exact .inl (bound_run (P := P) hI hE (hhi q rfl) hh (Nat.le_refl _) .index).2
                  cases hmxx : mx with
                  | none =>
                    subst hmxx
                    simp at hhle
                    have hr := bounds_run (P := P) (m := cap) (ym := cap) (yh := es.length) hI hE hlo hhi hmx hne1 (.inl ⟨rfl, rfl⟩) (Nat.le_refl _) hcap (by simpa using hh) hl
                    refine ⟨_, slice_run hu h1 hr, ?_⟩
                    exact hV _ l hb cap hz hlh (by omega) (by omega) (Nat.le_refl _) (fun _ => rfl) rfl
                  | some q =>
                    subst hmxx
                    have hmle : m ≤ es.length := (bound_run (P := P) hI hE (hmx q rfl) hm (Nat.le_refl _) .index).2
                    have hh' : hb ≤ m := by
                      rcases hhle with h | ⟨h, _⟩
                      · simpa using h
                      · subst h; simp at hne1
                    have hr := bounds_run (P := P) (m := m) (ym := es.length) (yh := m) hI hE hlo hhi hmx hne1 (.inr ⟨rfl, hm⟩) hcap (Nat.le_refl _) (by simpa using hh) hl
                    refine ⟨_, slice_run hu h1 hr, ?_⟩
                    exact hV _ l hb m hz hlh (by omega) hh' (by omega) (fun h => by cases h) rfl
        cases hx with
        | @nil z =>
          refine main .full z [] none 0 rfl rfl (Nat.le_refl _) ?_
          intro k' l hb m _ h1 h2 h3 h4 _ hk
          simp at h2
          have : l = 0 := by omega
          subst this; subst h2
          have : m = 0 := by omega
          subst this
          have : k' = .full := by rw [hk]; simp
          subst this
          simpa using V.nil
        | @mt k z ao cap h0 hkk =>
          refine main k z [] ao cap rfl rfl (Nat.zero_le _) ?_
          intro k' l hb m _ h1 h2 h3 h4 h5 hk
          simp at h2
          have : l = 0 := by omega
          subst this; subst h2
          have e1 : (if m = 0 then ao else ao.map (·.add (0 * inf.size))) = ao := by
            split
            · rfl
            · cases ao with
              | none => rfl
              | some a => simp [Addr.add]
          simp only [List.take_nil, List.drop_nil, Nat.sub_self, Nat.sub_zero]
          rw [e1]
          refine .mt h0 ?_
          rw [hk]
          cases hmx : mx.isSome with
          | true =>
            by_cases hm : m = 0
            · simp [hm]
            · simp [hm]
          | false =>
            have hm := h5 (by cases mx <;> simp_all)
            rcases hkk with rfl | ⟨rfl, hc⟩
            · simp
            · simp; omega
        | @sl k z es b o cap ys h0 hz hc hi' hv hf ht =>
          refine main k z es _ cap rfl rfl hc ?_
          intro k' l hb m hzz h1' h2' h3' h4' hmc hk
          have hlen : ((es.take hb).drop l).length = hb - l := by simp; omega
          have hget : ∀ (i : Nat) (e : List HV), ((es.take hb).drop l)[i]? = some e → es[l + i]? = some e ∧ l + i < hb := by
            intro i e he
            rw [List.getElem?_drop, List.getElem?_take] at he
            split at he
            · rename_i hlt; exact ⟨he, hlt⟩
            · cases he
          have hmem : ∀ e ∈ (es.take hb).drop l, e.length = z := fun e he => hz e (List.mem_of_mem_take (List.mem_of_mem_drop he))
          by_cases hml : m = l
          · rw [if_pos hml]
            have he0 : (es.take hb).drop l = [] := List.eq_nil_of_length_eq_zero (by rw [hlen]; omega)
            have hbl : hb = l := by omega
            rw [he0]
            have := V.sl (G := G) (k := k') (z := z) (es := []) (b := b) (o := o) (cap := 0) ys h0 (by simp) (by simp) (by simp) (by simp) (by simp) (fun t ht' => by
              rw [hk] at ht'
              split at ht'
              · split at ht' <;> cases ht'
              · split at ht'
                · split at ht' <;> cases ht'
                · split at ht'
                  · omega
                  · cases ht')
            rw [hml, hbl]
            simpa using this
          · rw [if_neg hml]
            have hzs : l * inf.size = l * z := by
              rcases hzz with h | h
              · rw [← h7, ← h]
              · subst h; simp at h2'; subst h2'; simp at h1'; subst h1'; simp
            simp only [Option.map_some, add_plain']
            rw [hzs]
            have := V.sl (G := G) (k := k') (z := z) (es := (es.take hb).drop l) (b := b) (o := o + l * z) (cap := m - l) (fun i j => ys (l + i) j) h0 hmem (by rw [hlen]; omega) ?_ ?_ ?_ ?_
            · rw [hlen] at this; exact this
            · intro i e j x he hx
              have := hi' (l + i) e j x (hget i e he).1 hx
              rw [Nat.add_mul] at this
              rw [← this]
              congr 1
              omega
            · intro i e j x he hx
              exact hv (l + i) e j x (hget i e he).1 hx
            · intro hk'
              rw [hlen]
              rw [hk'] at hk
              split at hk
              · split at hk
                · rename_i hmh; omega
                · cases hk
              · rename_i hmxn
                have hmn : mx = none := by cases mx; rfl; simp at hmxn
                have := hmc hmn
                split at hk
                · rename_i hkf
                  split at hk
                  · have := hf hkf; omega
                  · cases hk
                · rename_i hkf
                  split at hk
                  · exact absurd hk.symm hkf
                  · cases hk
            · intro t ht'
              rw [ht'] at hk
              split at hk
              · split at hk <;> cases hk
              · rename_i hmxn
                have hmn : mx = none := by cases mx; rfl; simp at hmxn
                have hmcap := hmc hmn
                split at hk
                · split at hk <;> cases hk
                · split at hk
                  · rename_i hkk
                    have := ht t hk.symm
                    rw [this, hlen]
                    have e1 : (hb - l) * z = hb * z - l * z := Nat.sub_mul _ _ _
                    have e2 : (m - l) * z = m * z - l * z := Nat.sub_mul _ _ _
                    have e3 : l * z ≤ hb * z := Nat.mul_le_mul_right _ h1'
                    have e4 : l * z ≤ m * z := Nat.mul_le_mul_right _ (by omega)
                    rw [e1, e2]
                    rw [← hkk.1, hmcap]
                    rw [hmcap] at e4
                    simp only [Option.some.injEq, Prod.mk.injEq, true_and]
                    refine ⟨?_, ?_, trivial⟩ <;> omega
                  · cases hk
        | @ms l0 o nn c b hb hn =>
          simp only [hj] at h
          split at h
          · cases h
          · rename_i hne
            cases hm : hbound C env mx c c with
            | none => simp [hm] at h
            | some m =>
              simp only [hm] at h
              cases hh : hbound C env hi nn m with
              | none => simp [hh] at h
              | some hbd =>
                simp only [hh] at h
                cases hl : hbound C env lo 0 hbd with
                | none => simp [hl] at h
                | some l =>
                  simp only [hl] at h
                  injection h with h
                  subst h
                  have hlh : l ≤ hbd := by
                    cases lo with
                    | none => simp [hbound] at hl; omega
                    | some q => exact (bound_run (P := P) hI hE (hlo q rfl) hl (Nat.le_refl _) .index).2
                  have hmc : (mx = none ∧ m = c) ∨ (mx.isSome ∧ hbound C env mx 0 c = some m) := by
                    cases mx with
                    | none => simp [hbound] at hm; exact .inl ⟨rfl, hm.symm⟩
                    | some q => exact .inr ⟨rfl, hm⟩
                  have hmle : m ≤ c := by
                    rcases hmc with ⟨_, h⟩ | ⟨h, h'⟩
                    · omega
                    · cases mx with
                      | none => simp at h
                      | some q => exact (bound_run (P := P) hI hE (hmx q rfl) h' (Nat.le_refl _) .index).2
                  have hhm : hbd ≤ m := by
                    cases hi with
                    | none =>
                      simp [hbound] at hh
                      rcases hmc with ⟨_, h⟩ | ⟨h, _⟩
                      · omega
                      · simp [h] at hne
                    | some q => exact (bound_run (P := P) hI hE (hhi q rfl) hh (Nat.le_refl _) .index).2
                  have hr := bounds_run (P := P) (m := m) (ym := c) (yh := m) hI hE hlo hhi hmx hne hmc (Nat.le_refl _) (Nat.le_refl _) hh hl
                  refine ⟨_, slice_run hu h1 hr, ?_⟩
                  have hsub : hbd - l ≤ m - l := by omega
                  by_cases hml : m = l
                  · rw [if_pos hml, if_pos hml]; exact .ms hb hsub
                  · rw [if_neg hml, if_neg hml]
                    simp only [Option.map_some, add_plain', h7]
                    exact .ms hb hsub
        | _ => simp [hj] at h
    | _ => simp [hu] at h

/-! ### fields, elements, parts -/
theorem fieldAddr_ok {T : TypeId} {x v : HV} {y : Value} {f : Nat} (h : hfieldAddr P T x f = some v) (hx : V G x y) : ∃ y', (Instr.fieldAt T y f).run P w = .ok y' w ∧ V G v y' := by
  unfold hfieldAddr at h
  cases hps : structPlaces P T with
  | none => simp [hps] at h
  | some ps =>
    simp only [hps] at h
    have hps' := hps
    unfold structPlaces at hps'
    cases hu : P.underlying T with
    | none => simp [hu] at hps'
    | some d =>
      cases d with
      | struct fs =>
        simp only [hu] at hps'
        cases hp : ps[f]? with
        | none => simp [hp] at h
        | some p =>
          obtain ⟨off, size⟩ := p
          simp only [hp] at h
          split at h
          · cases h
          · rename_i hsz
            have key : ∀ (l : List Field) (ps : List (Nat × Nat)) (f : Nat), l.mapM (fun f => (P.info? f.type).map fun i => (f.offset, i.size)) = some ps → ps[f]? = some (off, size) →
                ∃ fd inf, l[f]? = some fd ∧ P.info? fd.type = some inf ∧ fd.offset = off ∧ inf.size = size := by
              intro l
              induction l with
              | nil => intro ps f h1 h2; simp at h1; subst h1; simp at h2
              | cons q l ih =>
                intro ps f h1 h2
                rw [List.mapM_cons] at h1
                cases hi : P.info? q.type with
                | none => simp [hi] at h1
                | some inf =>
                  cases hr : l.mapM (fun f => (P.info? f.type).map fun i => (f.offset, i.size)) with
                  | none => simp [hi, hr] at h1
                  | some r =>
                    simp [hi, hr] at h1
                    subst h1
                    cases f with
                    | zero => simp at h2; exact ⟨q, inf, rfl, hi, h2.1, h2.2⟩
                    | succ f => simp at h2; obtain ⟨fd, inf', k1, k2⟩ := ih r f hr h2; exact ⟨fd, inf', by simpa using k1, k2⟩
            obtain ⟨fd, inf, k1, k2, k3, k4⟩ := key fs.toList ps f hps' hp
            have k1' : fs[f]? = some fd := by simpa using k1
            have hrun : ∀ b o, (Instr.fieldAt T (.pointer (some ⟨b, o, none⟩)) f).run P w = .ok (.pointer (some ⟨b, o + off, none⟩)) w := by
              intro b o
              have : ¬ inf.size = 0 := by rw [k4]; exact hsz
              simp [Instr.fieldAt, run_underlying hu, k1', Instr.sureAddr, fieldPlace, sizeOf, typeInfo, k2, this, k3, add_plain']
            cases hx with
            | ptr hb => simp at h; subst h; exact ⟨_, hrun _ _, .ptr hb⟩
            | @ep cs o b p ys hi hv =>
              simp at h; subst h
              refine ⟨_, hrun _ _, ?_⟩
              rw [Nat.add_assoc]
              exact .ep ys hi hv
            | _ => simp at h
      | _ => simp [hu] at hps'

theorem part_ok {T : TypeId} {cs : List HV} {vs : Array Value} {off : Nat} {v : HV} (h : hpart P T cs off = some v) (hv : VL G cs vs.toList) : ∃ y, (part T vs off).run P w = .ok y w ∧ V G v y := by
  unfold hpart at h
  cases hi : tyI P T with
  | none => simp [hi] at h
  | some i =>
    simp only [hi] at h
    obtain ⟨inf, d, z, h1, h2, h3, h4, h5, h6, h7, h8, h9⟩ := tyI_spec hi
    have hagg := isAgg_run h2 w
    rw [← h6] at hagg
    by_cases ha : i.agg = true
    · rw [if_pos ha] at h
      split at h
      · injection h with h
        subst h
        refine ⟨.agg (vs.extract off (off + inf.size)), ?_, VL.aggV ?_⟩
        · rw [ha] at hagg
          simp [part, hagg, sizeOf, typeInfo, h1]
        · have := (hv.drop off).take i.size
          rw [h7] at this ⊢
          simpa [List.extract_eq_take_drop] using this
      · cases h
    · rw [if_neg ha] at h
      obtain ⟨y, hy, hV, _⟩ := hv.get h
      refine ⟨y, ?_, hV⟩
      simp only [Bool.not_eq_true] at ha
      rw [ha] at hagg
      have hy' : vs[off]? = some y := by simpa using hy
      simp [part, hagg, hy']

theorem field_ok {T : TypeId} {x v : HV} {y : Value} {f : Nat} (h : hfield P T x f = some v) (hx : V G x y) : ∃ y', (Instr.field T y f).run P w = .ok y' w ∧ V G v y' := by
  unfold hfield at h
  cases hu : P.underlying T with
  | none => simp [hu] at h
  | some d =>
    cases d with
    | struct fs =>
      cases hx with
      | @agg cs vs hl hv h1 =>
        simp only [hu] at h
        cases hf : fs[f]? with
        | none => simp [hf] at h
        | some fd =>
          simp only [hf] at h
          obtain ⟨y, hr, hV⟩ := part_ok (w := w) h (VL.ofAgg (.agg hl hv h1))
          exact ⟨y, by simp [Instr.field, run_underlying hu, hf, asAgg, hr], hV⟩
      | _ => simp [hu] at h
    | _ => simp [hu] at h

theorem indexAddr_ok (hI : Inv C W0 G S w) {T : TypeId} {x ix v : HV} {y iy : Value} (h : hindexAddr P T x ix = some v) (hx : V G x y) (hix : V G ix iy) : ∃ y', (Instr.indexAt T y iy).run P w = .ok y' w ∧ V G v y' := by
  unfold hindexAddr at h
  cases hi : hint ix with
  | none => simp [hi] at h
  | some i =>
    simp only [hi] at h
    obtain ⟨k, _, rfl⟩ := hint_V hix hi
    cases hu : P.underlying T with
    | none => simp [hu] at h
    | some d =>
      cases d with
      | array len e =>
        cases hx with
        | @ptr l o b hb =>
          simp only [hu] at h
          cases hj : tyI P e with
          | none => simp [hj] at h
          | some j =>
            simp only [hj] at h
            split at h
            · rename_i hc
              injection h with h
              subst h
              obtain ⟨inf, d, z, h1, h2, h3, h4, h5, h6, h7, h8, h9⟩ := tyI_spec hj
              refine ⟨_, ?_, .ptr hb⟩
              simp [Instr.indexAt, asIntOf, run_underlying hu, Instr.sureAddr, hc, sizeOf, typeInfo, h1, add_plain', h7]
            · cases h
        | @ep cs o b p ys hi' hv =>
          simp only [hu] at h
          cases hj : tyI P e with
          | none => simp [hj] at h
          | some j =>
            simp only [hj] at h
            split at h
            · rename_i hc
              injection h with h
              subst h
              obtain ⟨inf, d, z, h1, h2, h3, h4, h5, h6, h7, h8, h9⟩ := tyI_spec hj
              refine ⟨.pointer (some ⟨b, p + (o + i.toNat * inf.size), none⟩), ?_, by rw [h7]; exact .ep ys hi' hv⟩
              simp [Instr.indexAt, asIntOf, run_underlying hu, Instr.sureAddr, hc, sizeOf, typeInfo, h1, add_plain', Nat.add_assoc]
            · cases h
        | _ => simp [hu] at h
      | slice e =>
        cases hx with
        | @nil z =>
          simp only [hu] at h
          cases hj : tyI P e with
          | none => simp [hj] at h
          | some j => simp [hj] at h
        | mt h0 hk =>
          simp only [hu] at h
          cases hj : tyI P e with
          | none => simp [hj] at h
          | some j => simp [hj] at h
        | @sl tk z es b o cap ys h0 hz hcap hi' hv hf ht =>
          simp only [hu] at h
          cases hj : tyI P e with
          | none => simp [hj] at h
          | some j =>
            simp only [hj] at h
            split at h
            · rename_i hc
              cases hg : es[i.toNat]? with
              | none => simp [hg] at h
              | some c =>
                simp only [hg, Option.map_some, Option.some.injEq] at h
                subst h
                obtain ⟨inf, d, zz, h1, h2, h3, h4, h5, h6, h7, h8, h9⟩ := tyI_spec hj
                have hlt : i.toNat < es.length := (List.getElem?_eq_some_iff.1 hg).1
                have hc' : 0 ≤ i ∧ i < (es.length : Int) := ⟨hc.1, by omega⟩
                refine ⟨.pointer (some ⟨b, (o + i.toNat * z) + 0, none⟩), ?_, .ep (ys i.toNat) (fun q x hq => hi' i.toNat c q x hg hq) (fun q x hq => hv i.toNat c q x hg hq)⟩
                have hzz : z = inf.size := hc.2.trans h7
                simp [Instr.indexAt, asIntOf, run_underlying hu, hc', sizeOf, typeInfo, h1, add_plain', hzz]
            · cases h
        | @ms l o nn c b hb hn =>
          simp only [hu] at h
          cases hj : tyI P e with
          | none => simp [hj] at h
          | some j =>
            simp only [hj] at h
            split at h
            · rename_i hc
              injection h with h
              subst h
              obtain ⟨inf, d, z, h1, h2, h3, h4, h5, h6, h7, h8, h9⟩ := tyI_spec hj
              refine ⟨_, ?_, .ptr hb⟩
              simp [Instr.indexAt, asIntOf, run_underlying hu, hc, sizeOf, typeInfo, h1, add_plain', h7]
            · cases h
        | _ => simp [hu] at h
      | _ => simp [hu] at h

theorem index_ok {T : TypeId} {x ix v : HV} {y iy : Value} (h : hindex P T x ix = some v) (hx : V G x y) (hix : V G ix iy) : ∃ y', (Instr.index T y iy).run P w = .ok y' w ∧ V G v y' := by
  unfold hindex at h
  cases hi : hint ix with
  | none => simp [hi] at h
  | some i =>
    simp only [hi] at h
    obtain ⟨k, _, rfl⟩ := hint_V hix hi
    cases hu : P.underlying T with
    | none => simp [hu] at h
    | some d =>
      cases d with
      | array len e =>
        cases hx with
        | @agg cs vs hl hv h1' =>
          simp only [hu] at h
          cases hj : tyI P e with
          | none => simp [hj] at h
          | some j =>
            simp only [hj] at h
            split at h
            · rename_i hc
              obtain ⟨inf, d, z, h1, h2, h3, h4, h5, h6, h7, h8, h9⟩ := tyI_spec hj
              obtain ⟨y, hr, hV⟩ := part_ok (w := w) h (VL.ofAgg (.agg hl hv h1'))
              rw [h7] at hr
              exact ⟨y, by simp [Instr.index, asIntOf, run_underlying hu, hc, sizeOf, typeInfo, h1, hr], hV⟩
            · cases h
        | _ => simp [hu] at h
      | string =>
        cases hx with
        | v hp =>
          cases y with
          | string s =>
            simp only [hu] at h
            split at h
            · rename_i h0
              simp only [Option.map_eq_some_iff] at h
              obtain ⟨b, hb, rfl⟩ := h
              exact ⟨.int .u8 b.toNat, by simp [Instr.index, asIntOf, run_underlying hu, h0, hb], .v rfl⟩
            · cases h
          | _ => simp [hu] at h
        | _ => simp [hu] at h
      | _ => simp [hu] at h

end Go.HL
