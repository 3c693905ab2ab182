import Derived.Test.YtemjmjacmokidaaDoorH14
set_option linter.all false
/-! HL, part 15: THE THEOREM: an HL derivation is met by the model. -/
namespace Go.HL
open Go Go.RowKit
variable {P : Program} {C : Cfg} {W0 : World}

theorem yield_eq {G : Ghost} {n : Nat} {env : Env} {a : Act} (hE : EnvR G n env a) (ops : Array Oper) (j : Nat) : yielded ops a.tmps j = hyield ops env j := by
  unfold yielded hyield
  cases hd : (ops[j]?).bind (·.dst) with
  | none => rfl
  | some t =>
    simp only [Option.bind_some]
    have h := hE.2.2 t
    rw [Array.getD_eq_getD_getElem?] at h
    cases ht : a.tmps[t]? with
    | none =>
      rw [ht] at h
      simp only [Option.getD_none] at h
      generalize env t = x at h
      cases x with
      | v y =>
        generalize hu : undef = u at h
        cases h with
        | v hp => subst hu; simp [plain, undef] at hp
      | _ => rfl
    | some y =>
      rw [ht] at h
      simp only [Option.getD_some] at h
      generalize env t = x at h ⊢
      cases h with
      | v hp => cases y <;> rfl
      | _ => rfl

theorem wanted_eq {G : Ghost} {n : Nat} {env : Env} {a : Act} (hE : EnvR G n env a) (ops : Array Oper) (o : Oper) : Region.wanted o (yielded ops a.tmps) = Region.wanted o (hyield ops env) := by
  have : yielded ops a.tmps = hyield ops env := funext (yield_eq hE ops)
  rw [this]

theorem enter_run {f : FuncId} {args : Array Value} (h : enters P f) (w : World) : (callFunc f args).run P w = .ok (.enter f args) w := by
  obtain ⟨fn, hf, hb, hn⟩ := h
  have hb' : ¬ fn.body = none := by intro e; rw [e] at hb; cases hb
  have hn' : ¬ fn.name = "runtime.NumGoroutine" := by simpa using hn
  simp [callFunc, hf, hn', hb']

theorem call_run0 {o : Oper} {c : Call} {f : Operand} {g : FuncId} {fs cs : Array Value} {ρ : Operand → Value} (hc : o.op = .call c) (hv : c.callee = .value f) (hf : ρ f = .func (.func g) fs cs) (w : World) :
    (execOp ρ o).run P w = (callFunc g (fs ++ c.args.map ρ ++ cs)).run P w := by
  unfold execOp
  rw [hc]
  simp only [resolve, hv, hf, Deferred.ofValue, Sem.run_bind, Sem.run_pure, Result.andThen_ok]
  rfl

theorem call_run {o : Oper} {c : Call} {f : Operand} {g : FuncId} {fs cs : Array Value} {ρ : Operand → Value} (hc : o.op = .call c) (hv : c.callee = .value f) (hf : ρ f = .func (.func g) fs cs) (h : enters P g) (w : World) :
    (execOp ρ o).run P w = .ok (.enter g (fs ++ c.args.map ρ ++ cs)) w := by
  unfold execOp
  rw [hc]
  simp only [resolve, hv, hf, Deferred.ofValue, Sem.run_bind, Sem.run_pure, Result.andThen_ok]
  exact enter_run h w

theorem ArgsR.append {G : Ghost} {xs ys : List HV} {as bs : Array Value} (h : ArgsR G xs as) (k : ArgsR G ys bs) : ArgsR G (xs ++ ys) (as ++ bs) := by
  refine ⟨by simp [h.1, k.1], fun i x y hx hy => ?_⟩
  have hl := h.1
  rw [List.getElem?_append] at hx
  rw [Array.getElem?_append] at hy
  split at hx
  · rw [if_pos (by omega)] at hy; exact h.2 i x y hx hy
  · rw [if_neg (by omega)] at hy; rw [← hl] at hy; exact k.2 _ x y hx hy

theorem Om_sound (hP : ∀ (f : Nat) fn, P.funcs[f]? = some fn → funcOk fn = true) (hmix : P.follows .mixedOrders = true)
    (hext : ∀ f args S Q, C.ext f args S Q → Meant P C W0 (.call f args S Q))
    (hxt : ∀ g args x, C.xt g args x → ∀ G w args', ArgsR G args args' → ∃ v, (callFunc g args').run P w = .ok (.value v) w ∧ V G x v) {j : J} (h : Om P C j) : Meant P C W0 j := by
  have hname : ∀ (f : Nat) fn, P.funcs[f]? = some fn → (fn.name == "runtime.NumGoroutine") = false := by
    intro f fn hf
    have := hP f fn hf
    unfold funcOk at this
    simp only [Bool.and_eq_true, Bool.not_eq_true'] at this
    exact this.1
  induction h with
  | @call f fn body args S Q hf hb h ih =>
    have hbody : codeOk body = true := by
      have := hP f fn hf
      unfold funcOk at this
      rw [hb] at this
      simp only [Bool.and_eq_true] at this
      exact this.2
    refine ⟨⟨fn, hf, by rw [hb]; rfl, hname f fn hf⟩, fun G w args' hI hA => ?_⟩
    refine calls_of_wp hf hb ?_
    have hE : EnvR G (args.length + (fn.ntmps - args.length)) (Env.enter args) { tmps := args' ++ Array.replicate (fn.ntmps - args'.size) undef, defers := [] } := by
      refine ⟨by simp [hA.1], rfl, fun t => ?_⟩
      unfold Env.enter
      rw [Array.getD_eq_getD_getElem?, Array.getElem?_append]
      by_cases ht : t < args.length
      · rw [if_pos (by rw [← hA.1]; exact ht)]
        have h1 : args[t]? = some args[t] := List.getElem?_eq_getElem ht
        have h2 : args'[t]? = some (args'[t]'(by rw [← hA.1]; exact ht)) := Array.getElem?_eq_getElem _
        rw [h1, h2]
        exact hA.2 t _ _ h1 h2
      · rw [if_neg (by rw [← hA.1]; exact ht), List.getElem?_eq_none (by omega)]
        rw [Array.getElem?_replicate]
        split <;> exact V.undef
    refine wp_mono (ih hbody G w _ hI hE).1 ?_
    rintro e a' w' ⟨hx, env', S', G', rfl, hQ, hG, hI', hE'⟩
    obtain ⟨hxe, x, hr, hfin⟩ := hQ
    obtain ⟨v, hv, hV⟩ := res_run hI' hE' hr
    have post : CallPost C W0 G Q (.returned v) w' := by
      split at hfin
      · obtain ⟨x', S'', hfz, hQ⟩ := hfin
        obtain ⟨G2, g1, g2, g3⟩ := frzVal_ok hI' hfz hV
        exact ⟨v, x', G2, S'', rfl, hQ, hG.trans g1, g3, g2⟩
      · exact ⟨v, x, G', S', rfl, hfin, hG, hI', hV⟩
    rcases hxe with rfl | rfl
    · exact ⟨hE'.2.1, v, hv, post⟩
    · exact ⟨hE'.2.1, v, hv, post⟩
  | ext h => exact hext _ _ _ _ h
  | skip h => exact fun _ G w a hI hE => ⟨wp_skip ⟨.normal, _, _, G, rfl, h, .refl G, hI, hE⟩, by simp⟩
  | label h => exact fun _ G w a hI hE => ⟨wp_label ⟨.normal, _, _, G, rfl, h, .refl G, hI, hE⟩, by simp⟩
  | @exit n id env S Q h => exact fun _ G w a hI hE => ⟨wp_exit ⟨.exit id, _, _, G, rfl, h, .refl G, hI, hE⟩, by simp⟩
  | @goto n l env S Q h => exact fun _ G w a hI hE => ⟨wp_goto ⟨.goto l, _, _, G, rfl, h, .refl G, hI, hE⟩, by simp⟩
  | ret h => exact fun _ G w a hI hE => ⟨wp_ret ⟨.ret, _, _, G, rfl, h, .refl G, hI, hE⟩, by simp⟩
  | @seq n x y env S Q R h hn he ih ihn =>
    intro hc G w a hI hE
    simp only [codeOk, Bool.and_eq_true] at hc
    refine ⟨wp_seq (wp_mono (ih hc.1 G w a hI hE).1 ?_), by simp⟩
    rintro e a' w' ⟨hx, env', S', G', rfl, hR, hG, hI', hE'⟩
    cases hx with
    | normal => exact wp_mono (ihn env' S' hR hc.2 G' w' a' hI' hE').1 (fun e a w h => CodePost.mono hG h)
    | exit id => exact ⟨.exit id, env', S', G', rfl, he _ _ _ (by simp) hR, hG, hI', hE'⟩
    | goto l => exact ⟨.goto l, env', S', G', rfl, he _ _ _ (by simp) hR, hG, hI', hE'⟩
    | ret => exact ⟨.ret, env', S', G', rfl, he _ _ _ (by simp) hR, hG, hI', hE'⟩
  | @cond n c x y env S Q t hc h ih =>
    intro hk G w a hI hE
    simp only [codeOk, Bool.and_eq_true] at hk
    have hV := hev_V hI hE hk.1.1
    rw [hc] at hV
    have hcv : a.eval c = .bool t := by
      generalize a.eval c = v at hV
      cases hV
      rfl
    have hcode : codeOk (if t then x else y) = true := by cases t <;> simp [hk.1.2, hk.2]
    exact ⟨wp_cond hcv (ih hcode G w a hI hE).1, by simp⟩
  | @block n id c env S Q h ih =>
    intro hk G w a hI hE
    refine ⟨wp_block (wp_mono (ih hk G w a hI hE).1 ?_), by simp⟩
    rintro e a' w' ⟨hx, env', S', G', rfl, hR, hG, hI', hE'⟩
    cases hx with
    | normal => rw [if_neg (by simp)] at hR; exact ⟨.normal, env', S', G', rfl, hR, hG, hI', hE'⟩
    | exit id' =>
      by_cases e : id' = id
      · subst e
        rw [if_pos rfl] at hR
        simp only [exOf, Exit.inBlock, if_true]
        exact ⟨.normal, env', S', G', rfl, hR, hG, hI', hE'⟩
      · rw [if_neg (by simp [e])] at hR
        simp only [exOf, Exit.inBlock, e, if_false]
        exact ⟨.exit id', env', S', G', rfl, hR, hG, hI', hE'⟩
    | goto l => rw [if_neg (by simp)] at hR; exact ⟨.goto l, env', S', G', rfl, hR, hG, hI', hE'⟩
    | ret => rw [if_neg (by simp)] at hR; exact ⟨.ret, env', S', G', rfl, hR, hG, hI', hE'⟩
  | @loop n c env S Q R h hn he ih ihn =>
    intro hk G w a hI hE
    have hc : codeOk c = true := hk
    have key : LoopWp P c (CodePost C W0 G n Q) a w := by
      refine LoopWp.of (wp_mono (ih hc G w a hI hE).1 ?_)
      rintro e a' w' ⟨hx, env', S', G', rfl, hR, hG, hI', hE'⟩
      cases hx with
      | normal => exact ((ihn env' S' hR hk G' w' a' hI' hE').2 c rfl).mono (fun e a w h => CodePost.mono hG h)
      | exit id => exact ⟨.exit id, env', S', G', rfl, he _ _ _ (by simp) hR, hG, hI', hE'⟩
      | goto l => exact ⟨.goto l, env', S', G', rfl, he _ _ _ (by simp) hR, hG, hI', hE'⟩
      | ret => exact ⟨.ret, env', S', G', rfl, he _ _ _ (by simp) hR, hG, hI', hE'⟩
    exact ⟨key.wp, fun body hb => by cases hb; exact key⟩
  | @scope n c env S Q R h hg hj he ih ihj =>
    intro hk G w a hI hE
    have hc : codeOk c = true := hk
    refine ⟨wp_scope_of (wp_mono (ih hc G w a hI hE).1 ?_), by simp⟩
    rintro e a' w' ⟨hx, env', S', G', rfl, hR, hG, hI', hE'⟩
    cases hx with
    | goto l =>
      obtain ⟨rest, hf⟩ := hg l env' S' hR
      exact ⟨rest, hf, (ihj l env' S' rest hR hf hc (findLabel_ok hc hf) G' w' a' hI' hE').mono (fun e a w h => CodePost.mono hG h)⟩
    | normal => exact ⟨.normal, env', S', G', rfl, he _ _ _ (by simp) hR, hG, hI', hE'⟩
    | exit id => exact ⟨.exit id, env', S', G', rfl, he _ _ _ (by simp) hR, hG, hI', hE'⟩
    | ret => exact ⟨.ret, env', S', G', rfl, he _ _ _ (by simp) hR, hG, hI', hE'⟩
  | @jump n body c env S Q R h hg hj he ih ihj =>
    intro hb hc G w a hI hE
    refine JumpWp.of (wp_mono (ih hc G w a hI hE).1 ?_)
    rintro e a' w' ⟨hx, env', S', G', rfl, hR, hG, hI', hE'⟩
    cases hx with
    | goto l =>
      obtain ⟨rest, hf⟩ := hg l env' S' hR
      exact ⟨rest, hf, (ihj l env' S' rest hR hf hb (findLabel_ok hb hf) G' w' a' hI' hE').mono (fun e a w h => CodePost.mono hG h)⟩
    | normal => exact ⟨.normal, env', S', G', rfl, he _ _ _ (by simp) hR, hG, hI', hE'⟩
    | exit id => exact ⟨.exit id, env', S', G', rfl, he _ _ _ (by simp) hR, hG, hI', hE'⟩
    | ret => exact ⟨.ret, env', S', G', rfl, he _ _ _ (by simp) hR, hG, hI', hE'⟩
  | @region n id ops env S Q h ih =>
    intro hk G w a hI hE
    refine ⟨wp_region (ih (Array.all_eq_true_iff_forall_mem.1 hk) G w a hI hE _ ?_), by simp⟩
    intro env' S' G' a' w' hQ hG hI' hE'
    exact ⟨.normal, env', S', G', rfl, hQ, hG, hI', hE'⟩
  | @draw n id ops env S Q h ih =>
    intro hk G w a hI hE
    refine ⟨wp_region_any hmix (ih (Array.all_eq_true_iff_forall_mem.1 hk) G _ a hI.drew hE _ ?_), by simp⟩
    intro env' S' G' a' w' hQ hG hI' hE'
    exact ⟨.normal, env', S', G', rfl, hQ, hG, hI', hE'⟩
  | @opsNil n ops env S Q h =>
    intro _ G w a hI hE Qx hK
    exact hK env S G a w h (.refl G) hI hE
  | @opsCons n ops i l env S Q R h hr ih ihr =>
    intro hk G w a hI hE Qx hK
    rw [wpOps_cons]
    refine ih hk G w a hI hE Qx _ ?_
    intro x S' G' y w' hR hG hI' hV
    refine ihr x S' hR hk G' w' _ hI' ((hE.mono hG).put hV _) Qx ?_
    intro env' S'' G'' a' w'' hQ hG'' hI'' hE''
    exact hK env' S'' G'' a' w'' hQ (hG.trans hG'') hI'' hE''
  | @anyDone n ops fuel listed env S Q hr h =>
    intro _ G w a hI hE Qx hK
    exact wpAny_done hr (hK env S G a w h (.refl G) hI hE) fuel
  | @anyStep n ops fuel listed env S Q R hne h hr ih ihr =>
    intro hk G w a hI hE Qx hK
    refine ⟨fun h0 => absurd h0 hne, fun i hi => ?_⟩
    refine ih i hi hk G w a hI hE Qx _ ?_
    intro x S' G' y w' hR hG hI' hV
    refine ihr i x S' hi hR hk G' w' _ hI' ((hE.mono hG).put hV _) Qx ?_
    intro env' S'' G'' a' w'' hQ hG'' hI'' hE''
    exact hK env' S'' G'' a' w'' hQ (hG.trans hG'') hI'' hE''
  | @oneNone n ops i env S R ho h =>
    intro _ G w a hI hE Qx K hK
    unfold wpOp
    simp only [ho]
    have := hK .undef S G undef w h (.refl G) hI V.undef
    simpa [dstOf, ho, Act.put] using this
  | @oneSkip n ops i o env S R ho hw h =>
    intro _ G w a hI hE Qx K hK
    unfold wpOp
    simp only [ho]
    rw [wanted_eq hE, hw]
    simp only [Bool.false_eq_true, if_false]
    have := hK .undef S G undef w h (.refl G) hI V.undef
    simpa [dstOf, ho] using this
  | @oneOp n ops i o env S R ho hw h =>
    intro hk G w a hI hE Qx K hK
    unfold wpOp
    simp only [ho]
    rw [wanted_eq hE, hw]
    simp only [if_true]
    left
    have hok : ∀ x ∈ o.op.operands, Operand.okc x = true := by
      have := hk o (Array.mem_of_getElem? ho)
      unfold operOk at this
      exact fun x hx => (Array.all_eq_true_iff_forall_mem.1 this) x hx
    obtain ⟨nx, w', G', x, S', hr, hout, hR, hG, hI'⟩ := hop_sound hI hE o hok h
    unfold Oper.wp
    rw [hr]
    cases nx with
    | value y =>
      simp only [Oper.upon]
      have := hK x S' G' y w' hR hG hI' hout
      simpa [dstOf, ho] using this
    | skip =>
      simp only [Oper.upon]
      simp only [Out] at hout
      subst hout
      have := hK .undef S' G' undef w' hR hG hI' V.undef
      simpa [dstOf, ho] using this
    | _ => exact hout.elim
  | @oneCall n ops i o env S R c f g first captured ho hw hc hv hf h ih =>
    intro hk G w a hI hE Qx K hK
    unfold wpOp
    simp only [ho]
    rw [wanted_eq hE, hw]
    simp only [if_true]
    left
    have hok : ∀ x ∈ o.op.operands, Operand.okc x = true := by
      have := hk o (Array.mem_of_getElem? ho)
      unfold operOk at this
      exact fun x hx => (Array.all_eq_true_iff_forall_mem.1 this) x hx
    have hargs : ∀ x ∈ c.args, Operand.okc x = true := fun x hx => hok x (by rw [hc]; simp [Op.operands, Call.operands, hx])
    have hfok : Operand.okc f = true := hok f (by rw [hc]; simp [Op.operands, Call.operands, hv])
    have hVf := hev_V hI hE hfok
    rw [hf] at hVf
    generalize hef : a.eval f = ef at hVf
    cases hVf with
    | @fn _ _ _ fs' cs' h1 h2 h3 h4 =>
      have hA : ArgsR G (first ++ c.args.toList.map (hev C env) ++ captured) (fs' ++ c.args.map a.eval ++ cs') :=
        ArgsR.append (ArgsR.append ⟨h1, h3⟩ ⟨by simp, map_V hI hE c.args hargs⟩) ⟨h2, h4⟩
      unfold Oper.wp
      rw [call_run hc hv hef ih.1 w]
      simp only [Oper.upon]
      refine (ih.2 G w _ hI hA).mono ?_
      rintro e w' ⟨v, x, G', S', rfl, hQ, hG, hI', hV⟩
      have := hK x S' G' v w' hQ hG hI' hV
      simpa [dstOf, ho] using this
  | @oneXt n ops i o env S R c f g first captured x ho hw hc hv hf h hr =>
    intro hk G w a hI hE Qx K hK
    unfold wpOp
    simp only [ho]
    rw [wanted_eq hE, hw]
    simp only [if_true]
    left
    have hok : ∀ x ∈ o.op.operands, Operand.okc x = true := by
      have := hk o (Array.mem_of_getElem? ho)
      unfold operOk at this
      exact fun x hx => (Array.all_eq_true_iff_forall_mem.1 this) x hx
    have hargs : ∀ x ∈ c.args, Operand.okc x = true := fun x hx => hok x (by rw [hc]; simp [Op.operands, Call.operands, hx])
    have hfok : Operand.okc f = true := hok f (by rw [hc]; simp [Op.operands, Call.operands, hv])
    have hVf := hev_V hI hE hfok
    rw [hf] at hVf
    generalize hef : a.eval f = ef at hVf
    cases hVf with
    | @fn _ _ _ fs' cs' h1 h2 h3 h4 =>
      have hA : ArgsR G (first ++ c.args.toList.map (hev C env) ++ captured) (fs' ++ c.args.map a.eval ++ cs') :=
        ArgsR.append (ArgsR.append ⟨h1, h3⟩ ⟨by simp, map_V hI hE c.args hargs⟩) ⟨h2, h4⟩
      obtain ⟨v, h5, h6⟩ := hxt _ _ _ h G w _ hA
      unfold Oper.wp
      rw [call_run0 hc hv hef w, h5]
      simp only [Oper.upon]
      have := hK x S G v w hr (.refl G) hI h6
      simpa [dstOf, ho] using this

end Go.HL
