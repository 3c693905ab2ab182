import Derived.Test.YtemjmjacmokidaaDoorH15
set_option linter.all false
/-! HL, part 16: reckoning with HL: weaker ends, and the code as a transformer. -/
namespace Go.HL
open Go
variable {P : Program} {C : Cfg}

theorem some?_mono {α : Type} {o : Option α} {K K' : α → Prop} (h : some? o K) (hk : ∀ x, K x → K' x) : some? o K' := by
  cases o with
  | none => exact h
  | some x => exact hk x h

theorem happend_mono {m : Bool} {e : TypeId} {i : TyI} {x : HV} {ys : List (List HV)} {S : HS} {K K' : HV → HS → Prop} (hk : ∀ x S, K x S → K' x S) (h : happend m e i x ys S K) : happend m e i x ys S K' := by
  unfold happend at *
  split
  · rename_i hy
    rw [if_pos hy] at h
    split at h <;> first | exact hk _ _ h | exact h.elim
  · rename_i hy
    rw [if_neg hy] at h
    split at h
    · obtain ⟨h1, h2, h3, h4⟩ := h
      refine ⟨h1, h2, h3, ?_⟩
      split
      · rename_i hm
        rw [if_pos hm] at h4
        exact ⟨h4.1, h4.2.1, fun l c a b => hk _ _ (h4.2.2 l c a b)⟩
      · rename_i hm
        rw [if_neg hm] at h4
        split at h4
        · exact ⟨h4.1, fun t ht hlt => hk _ _ (h4.2 t ht hlt)⟩
        · exact ⟨h4.1, h4.2.1, fun t ht hlt => hk _ _ (h4.2.2 t ht hlt)⟩
        · exact h4
    · split at h
      · obtain ⟨h1, h2, h3, h4, h5, h6⟩ := h
        refine ⟨h1, h2, h3, h4, h5, ?_⟩
        split
        · rename_i hm; rw [if_pos hm] at h6; exact hk _ _ h6
        · rename_i hm; rw [if_neg hm] at h6; exact fun l c a b => hk _ _ (h6 l c a b)
      · exact h
    · exact h

theorem hnext_mono {x : HV} {S : HS} {K K' : HV → HS → Prop} (hk : ∀ x S, K x S → K' x S) (h : hnext x S K) : hnext x S K' := by
  unfold hnext at *
  split at h
  · split at h
    · split at h
      · obtain ⟨h1, h2, h3⟩ := h
        exact ⟨h1, fun e => hk _ _ (h2 e), fun e he => hk _ _ (h3 e he)⟩
      · exact h
    · exact h
  · exact h

theorem hbuiltin_mono {o : Oper} {b : Builtin} {ts : Array TypeId} {args : List HV} {env : Env} {S : HS} {K K' : HV → HS → Prop} (hk : ∀ x S, K x S → K' x S) (h : hbuiltin P C o b ts args env S K) : hbuiltin P C o b ts args env S K' := by
  unfold hbuiltin at *
  split at h
  · exact ⟨h.1, some?_mono h.2 (fun _ => hk _ _)⟩
  · exact ⟨h.1, hk _ _ h.2⟩
  · exact some?_mono h fun i h => ⟨h.1, some?_mono h.2 fun ys h => ⟨h.1, happend_mono hk h.2⟩⟩
  · refine some?_mono h fun i h => some?_mono h fun ys h => ?_
    split at h
    · exact ⟨h.1, h.2.1, h.2.2.1, hk _ _ h.2.2.2⟩
    · exact h
  · refine some?_mono h fun i h => ?_
    split at h
    · exact ⟨h.1, h.2.1, hk _ _ h.2.2⟩
    · exact h
  · exact some?_mono h fun _ => hk _ _
  · split at h
    · rename_i he; rw [if_pos he]; exact ⟨h.1, h.2.1, hk _ _ h.2.2⟩
    · rename_i he
      rw [if_neg he]
      split at h
      · exact hk _ _ h
      · exact h
  · exact ⟨h.1, h.2.1, h.2.2.1, h.2.2.2.1, h.2.2.2.2.1, h.2.2.2.2.2.1, some?_mono h.2.2.2.2.2.2 fun _ => hk _ _⟩
  · exact ⟨h.1, hk _ _ h.2⟩
  · exact some?_mono h fun _ => hk _ _
  · exact some?_mono h fun _ => hk _ _
  · exact some?_mono h fun _ => hk _ _
  · exact some?_mono h fun _ => hk _ _
  · exact some?_mono h fun _ => hk _ _
  · exact h

theorem hop_mono {o : Oper} {env : Env} {S : HS} {K K' : HV → HS → Prop} (hk : ∀ x S, K x S → K' x S) (h : hop P C o env S K) : hop P C o env S K' := by
  have h1 : ∀ (x : Option HV), some? x (fun v => K v S) → some? x (fun v => K' v S) := fun x h => some?_mono h fun _ => hk _ _
  unfold hop at *
  split at h
  · exact hk _ _ h
  · exact hk _ _ h
  · split at h
    · exact hk _ _ h
    · exact h
  · exact some?_mono h fun _ h l hl hlt => hk _ _ (h l hl hlt)
  · exact ⟨h.1, fun l hl => hk _ _ (h.2 l hl)⟩
  · exact h1 _ h
  · refine some?_mono h fun p h => ?_
    simp only at h ⊢
    split
    · rename_i hm; rw [if_pos hm] at h; exact fun l hl => hk _ _ (h l hl)
    · rename_i hm; rw [if_neg hm] at h; exact hk _ _ h
  · exact h1 _ h
  · exact some?_mono h fun _ => hk _ _
  · split at h
    · exact hk _ _ h
    · exact hk _ _ h
    · exact hk _ _ h
    · exact h
  · split at h
    · exact hk _ _ h
    · exact h1 _ h
  · split at h
    · exact hk _ _ h
    · exact h1 _ h
  · exact h1 _ h
  · exact h1 _ h
  · rename_i src dst x _
    cases hd : P.underlying dst with
    | none => simp only [hd] at h ⊢; exact h1 _ h
    | some d =>
      cases d with
      | slice e =>
        cases hx : hev C env x with
        | v y =>
          cases y with
          | string s =>
            simp only [hd, hx] at h ⊢
            refine ⟨h.1, h.2.1, ?_⟩
            have h := h.2.2
            split
            · rename_i hm; rw [if_pos hm] at h; exact fun l c a b => hk _ _ (h l c a b)
            · rename_i hm; rw [if_neg hm] at h; exact fun t ht => hk _ _ (h t ht)
          | _ => simp only [hd, hx] at h ⊢; exact h1 _ h
        | _ => simp only [hd, hx] at h ⊢; exact h1 _ h
      | string =>
        cases hx : hev C env x with
        | v y =>
          cases y with
          | string s => simp only [hd, hx] at h ⊢; exact h1 _ h
          | int k n => simp only [hd, hx] at h ⊢; exact h1 _ h
          | _ => simp only [hd, hx] at h ⊢; exact ⟨h.1, h.2⟩
        | sl a b c => simp only [hd, hx] at h ⊢; exact ⟨h.1, some?_mono h.2 fun _ h => some?_mono h fun _ => hk _ _⟩
        | ms a b c d => simp only [hd, hx] at h ⊢; exact ⟨h.1, some?_mono h.2 fun _ h => some?_mono h fun _ => hk _ _⟩
        | _ => simp only [hd, hx] at h ⊢; exact ⟨h.1, h.2⟩
      | unsafePointer =>
        cases hx : hev C env x with
        | ptr l q =>
          simp only [hd, hx] at h ⊢
          split at h
          · exact ⟨h.1, h.2.1, hk _ _ h.2.2⟩
          · exact h
        | _ => simp only [hd, hx] at h ⊢; exact h1 _ h
      | pointer u =>
        cases hx : hev C env x with
        | ptr l q =>
          simp only [hd, hx] at h ⊢
          exact ⟨h.1, h.2.1, h.2.2.1, h.2.2.2.1, hk _ _ h.2.2.2.2⟩
        | _ => simp only [hd, hx] at h ⊢; exact h1 _ h
      | _ => simp only [hd] at h ⊢; exact h1 _ h
  · exact ⟨h.1, hk _ _ h.2⟩
  · exact hk _ _ h
  · exact fun l hl => hk _ _ (h l hl)
  · exact some?_mono h fun _ h => some?_mono h fun _ h => some?_mono h fun _ h => ⟨h.1, h.2.1, h.2.2.1, h.2.2.2.1, fun r hr => hk _ _ (h.2.2.2.2 r hr)⟩
  · split at h
    · exact h1 _ h
    · exact h1 _ h
  · exact h1 _ h
  · exact h1 _ h
  · exact h1 _ h
  · exact h1 _ h
  · exact h1 _ h
  · exact some?_mono h fun _ => hk _ _
  · exact some?_mono h fun _ => hk _ _
  · split at h
    · split at h
      · exact fun l hl => hk _ _ (h l hl)
      · exact h
    · exact h
  · exact hnext_mono hk h
  · exact h1 _ h
  · split at h
    · exact h1 _ h
    · exact h
  · split at h
    · exact hbuiltin_mono hk h
    · exact h
  · exact h

/-- The same work, with a weaker end. -/
inductive J.Le : J → J → Prop where
  | call {f args S Q Q'} (h : ∀ x S, Q x S → Q' x S) : J.Le (.call f args S Q) (.call f args S Q')
  | code {n c env S Q Q'} (h : ∀ ex env S, Q ex env S → Q' ex env S) : J.Le (.code n c env S Q) (.code n c env S Q')
  | jump {n b c env S Q Q'} (h : ∀ ex env S, Q ex env S → Q' ex env S) : J.Le (.jump n b c env S Q) (.jump n b c env S Q')
  | one {n ops i env S Q Q'} (h : ∀ x S, Q x S → Q' x S) : J.Le (.one n ops i env S Q) (.one n ops i env S Q')
  | ops {n ops l env S Q Q'} (h : ∀ env S, Q env S → Q' env S) : J.Le (.ops n ops l env S Q) (.ops n ops l env S Q')
  | any {n ops fuel listed env S Q Q'} (h : ∀ env S, Q env S → Q' env S) : J.Le (.any n ops fuel listed env S Q) (.any n ops fuel listed env S Q')

/-- The contracts that are told by 'ext' let their ends be weakened. -/
def Cfg.extMono (C : Cfg) : Prop := ∀ f args S Q Q', (∀ x S, Q x S → Q' x S) → C.ext f args S Q → C.ext f args S Q'

theorem Om.mono (hC : C.extMono) {j j' : J} (h : Om P C j) (hle : J.Le j j') : Om P C j' := by
  induction h generalizing j' with
  | call hf hb h ih =>
    cases hle with
    | call hq =>
      refine .call hf hb (ih (.code fun ex env S h => ?_))
      obtain ⟨h1, x, h2, h3⟩ := h
      refine ⟨h1, x, h2, ?_⟩
      split
      · rename_i hc; rw [if_pos hc] at h3; obtain ⟨x', S', h4, h5⟩ := h3; exact ⟨x', S', h4, hq _ _ h5⟩
      · rename_i hc; rw [if_neg hc] at h3; exact hq _ _ h3
  | ext h => cases hle with | call hq => exact .ext (hC _ _ _ _ _ hq h)
  | skip h => cases hle with | code hq => exact .skip (hq _ _ _ h)
  | label h => cases hle with | code hq => exact .label (hq _ _ _ h)
  | exit h => cases hle with | code hq => exact .exit (hq _ _ _ h)
  | goto h => cases hle with | code hq => exact .goto (hq _ _ _ h)
  | ret h => cases hle with | code hq => exact .ret (hq _ _ _ h)
  | seq R h hn he ih ihn => cases hle with | code hq => exact .seq R h (fun env' S' hr => ihn env' S' hr (.code hq)) (fun ex env' S' hne hr => hq _ _ _ (he ex env' S' hne hr))
  | cond t hc h ih => cases hle with | code hq => exact .cond t hc (ih (.code hq))
  | block h ih =>
    cases hle with
    | code hq =>
      refine .block (ih (.code fun ex env S h => ?_))
      split
      · rename_i e; rw [if_pos e] at h; exact hq _ _ _ h
      · rename_i e; rw [if_neg e] at h; exact hq _ _ _ h
  | loop R h hn he ih ihn => cases hle with | code hq => exact .loop R h (fun env' S' hr => ihn env' S' hr (.code hq)) (fun ex env' S' hne hr => hq _ _ _ (he ex env' S' hne hr))
  | scope R h hg hj he ih ihj => cases hle with | code hq => exact .scope R h hg (fun l env' S' rest hr hf => ihj l env' S' rest hr hf (.jump hq)) (fun ex env' S' hne hr => hq _ _ _ (he ex env' S' hne hr))
  | jump R h hg hj he ih ihj => cases hle with | jump hq => exact .jump R h hg (fun l env' S' rest hr hf => ihj l env' S' rest hr hf (.jump hq)) (fun ex env' S' hne hr => hq _ _ _ (he ex env' S' hne hr))
  | region h ih => cases hle with | code hq => exact .region (ih (.ops fun env S h => hq _ _ _ h))
  | draw h ih => cases hle with | code hq => exact .draw (ih (.any fun env S h => hq _ _ _ h))
  | opsNil h => cases hle with | ops hq => exact .opsNil (hq _ _ h)
  | opsCons R h hr ih ihr => cases hle with | ops hq => exact .opsCons R h (fun x S' hx => ihr x S' hx (.ops hq))
  | anyDone hr h => cases hle with | any hq => exact .anyDone hr (hq _ _ h)
  | anyStep R hne h hr ih ihr => cases hle with | any hq => exact .anyStep R hne h (fun i x S' hi hx => ihr i x S' hi hx (.any hq))
  | oneNone ho h => cases hle with | one hq => exact .oneNone ho (hq _ _ h)
  | oneSkip ho hw h => cases hle with | one hq => exact .oneSkip ho hw (hq _ _ h)
  | oneOp ho hw h => cases hle with | one hq => exact .oneOp ho hw (hop_mono hq h)
  | oneCall ho hw hc hv hf h ih => cases hle with | one hq => exact .oneCall ho hw hc hv hf (ih (.call hq))
  | oneXt ho hw hc hv hf h hr => cases hle with | one hq => exact .oneXt ho hw hc hv hf h (hq _ _ hr)

/-! ### the code as a transformer -/
/-- One operation. -/
def callL (P : Program) (C : Cfg) (g : FuncId) (args : List HV) (S : HS) (R : HV → HS → Prop) : Prop :=
  Om P C (.call g args S R) ∨ ∃ x, C.xt g args x ∧ R x S
def oneL (P : Program) (C : Cfg) (ops : Array Oper) (o : Oper) (env : Env) (S : HS) (R : HV → HS → Prop) : Prop :=
  if Region.wanted o (hyield ops env) = true then
    match o.op with
    | .call c => match c.callee with
      | .value f => match hev C env f with
        | .fn g first captured => callL P C g (first ++ c.args.toList.map (hev C env) ++ captured) S R
        | _ => False
      | _ => hop P C o env S R
    | _ => hop P C o env S R
  else R .undef S
theorem oneL_sound {ops : Array Oper} {n i : Nat} {o : Oper} {env : Env} {S : HS} {R : HV → HS → Prop} (ho : ops[i]? = some o) (h : oneL P C ops o env S R) : Om P C (.one n ops i env S R) := by
  unfold oneL at h
  split at h
  · rename_i hw
    split at h
    · rename_i c hc
      split at h
      · rename_i f hv
        split at h
        · rename_i g first captured hf
          rcases h with h | ⟨x, h, hr⟩
          · exact .oneCall ho hw hc hv hf h
          · exact .oneXt ho hw hc hv hf h hr
        · exact h.elim
      · exact .oneOp ho hw h
    · exact .oneOp ho hw h
  · rename_i hw
    exact .oneSkip ho (by simpa using hw) h

def opsL (P : Program) (C : Cfg) (n : Nat) (ops : Array Oper) : List Oper → Env → HS → (Env → HS → Prop) → Prop
  | [], env, S, Q => Q env S
  | o :: rest, env, S, Q => oneL P C ops o env S fun x S' => opsL P C n ops rest (env.put n o.dst x) S' Q
theorem opsL_sound {n : Nat} {ops : Array Oper} : ∀ {l : List Oper} {k : Nat} {env : Env} {S : HS} {Q : Env → HS → Prop}, (∀ i, l[i]? = ops[k + i]?) → opsL P C n ops l env S Q →
    Om P C (.ops n ops (List.range' k l.length) env S Q)
  | [], k, env, S, Q, _, h => .opsNil h
  | o :: rest, k, env, S, Q, hl, h => by
    have ho : ops[k]? = some o := by have := hl 0; simpa using this.symm
    simp only [List.length_cons, List.range'_succ]
    refine .opsCons _ (oneL_sound ho h) fun x S' hx => ?_
    have hd : dstOf ops k = o.dst := by simp [dstOf, ho]
    rw [hd]
    exact opsL_sound (fun i => by have := hl (i + 1); rw [show k + 1 + i = k + (i + 1) by omega]; simpa using this) hx

/-- The code. Loops, scopes and drawn regions are left to be met. -/
def wpc (P : Program) (C : Cfg) (n : Nat) : Code → Env → HS → (Ex → Env → HS → Prop) → Prop
  | .skip, env, S, Q => Q .normal env S
  | .label _, env, S, Q => Q .normal env S
  | .exit id, env, S, Q => Q (.exit id) env S
  | .goto l, env, S, Q => Q (.goto l) env S
  | .ret, env, S, Q => Q .ret env S
  | .seq a b, env, S, Q => wpc P C n a env S fun ex env' S' => match ex with
    | .normal => wpc P C n b env' S' Q
    | .exit id => Q (.exit id) env' S'
    | .goto l => Q (.goto l) env' S'
    | .ret => Q .ret env' S'
  | .cond c x y, env, S, Q => ∃ t, hev C env c = .bool t ∧ (t = true → wpc P C n x env S Q) ∧ (t = false → wpc P C n y env S Q)
  | .block id c, env, S, Q => wpc P C n c env S fun ex env' S' => match ex with
    | .normal => Q .normal env' S'
    | .exit id' => if id' = id then Q .normal env' S' else Q (.exit id') env' S'
    | .goto l => Q (.goto l) env' S'
    | .ret => Q .ret env' S'
  | .region id ops draw, env, S, Q => if draw then Om P C (.code n (.region id ops true) env S Q) else opsL P C n ops ops.toList env S (Q .normal)
  | c, env, S, Q => Om P C (.code n c env S Q)

theorem wpc_sound {n : Nat} : ∀ {c : Code} {env : Env} {S : HS} {Q : Ex → Env → HS → Prop}, wpc P C n c env S Q → Om P C (.code n c env S Q) := by
  intro c
  induction c with
  | skip => exact fun h => .skip h
  | label l => exact fun h => .label h
  | exit id => exact fun h => .exit h
  | goto l => exact fun h => .goto h
  | ret => exact fun h => .ret h
  | seq a b iha ihb =>
    intro env S Q h
    refine .seq _ (iha h) (fun env' S' hr => ihb hr) (fun ex env' S' hne hr => ?_)
    cases ex <;> first | exact absurd rfl hne | exact hr
  | cond c x y ihx ihy =>
    rintro env S Q ⟨t, hc, h1, h2⟩
    refine .cond t hc ?_
    cases t
    · exact ihy (h2 rfl)
    · exact ihx (h1 rfl)
  | block id c ih =>
    intro env S Q h
    refine .block ?_
    have h := ih h
    have e : (fun (ex : Ex) (env' : Env) (S' : HS) => if ex = .exit id then Q .normal env' S' else Q ex env' S') = (fun ex env' S' => match ex with
        | .normal => Q .normal env' S'
        | .exit id' => if id' = id then Q .normal env' S' else Q (.exit id') env' S'
        | .goto l => Q (.goto l) env' S'
        | .ret => Q .ret env' S') := by
      funext ex env' S'
      cases ex with
      | exit id' => by_cases e : id' = id <;> simp [e]
      | _ => simp
    rw [e]
    exact h
  | region id ops draw =>
    intro env S Q h
    unfold wpc at h
    cases draw with
    | true => exact h
    | false =>
      simp only [Bool.false_eq_true, if_false] at h
      refine .region ?_
      have := opsL_sound (k := 0) (ops := ops) (fun i => by simp) h
      rwa [show List.range ops.size = List.range' 0 ops.toList.length by simp [List.range_eq_range']]
  | loop c ih => exact fun h => h
  | scope c ih => exact fun h => h
  | rangeFunc f p a b _ _ => exact fun h => h
  | refuse w => exact fun h => h

theorem call_intro {f : FuncId} {fn : Func} {body : Code} {args : List HV} {S : HS} {Q : HV → HS → Prop} (hf : P.funcs[f]? = some fn) (hb : fn.body = some body)
    (h : wpc P C (args.length + (fn.ntmps - args.length)) body (Env.enter args) S (retTo P C f fn Q)) : Om P C (.call f args S Q) := .call hf hb (wpc_sound h)

/-- A loop, by an invariant and a measure. -/
theorem loop_intro {n : Nat} {c : Code} {Q : Ex → Env → HS → Prop} (I : Env → HS → Prop) (μ : Env → HS → Nat) (hstep : ∀ env S, I env S → Om P C (.code n c env S fun ex env' S' => match ex with
    | .normal => I env' S' ∧ μ env' S' < μ env S
    | e => Q e env' S')) {env : Env} {S : HS} (h : I env S) : Om P C (.code n (.loop c) env S Q) := by
  have key : ∀ k env S, μ env S = k → I env S → Om P C (.code n (.loop c) env S Q) := by
    intro k
    induction k using Nat.strongRecOn with
    | _ k ih =>
      intro env S hk hI
      refine .loop _ (hstep env S hI) (fun env' S' hr => ?_) (fun ex env' S' hne hr => ?_)
      · exact ih _ (by have := hr.2; omega) env' S' rfl hr.1
      · cases ex <;> first | exact absurd rfl hne | exact hr
  exact key _ env S rfl h

theorem call_mono (hC : C.extMono) {f : FuncId} {args : List HV} {S : HS} {Q Q' : HV → HS → Prop} (h : Om P C (.call f args S Q)) (hq : ∀ x S, Q x S → Q' x S) : Om P C (.call f args S Q') := h.mono hC (.call hq)
theorem code_mono (hC : C.extMono) {n : Nat} {c : Code} {env : Env} {S : HS} {Q Q' : Ex → Env → HS → Prop} (h : Om P C (.code n c env S Q)) (hq : ∀ ex env S, Q ex env S → Q' ex env S) : Om P C (.code n c env S Q') := h.mono hC (.code hq)

end Go.HL
