import Derived.Test.YtemjmjacmokidaaDoorH18
set_option linter.all false
/-! HL, part 19: loops met in the step form. -/
namespace Go.HL
open Go
variable {P : Program} {C : Cfg}
/-- The end of a round: the invariant again, and nearer to the end; or the loop is left. -/
def iterK (I : Env → HS → Prop) (μ : Env → HS → Nat) (m : Nat) (Q : Ex → Env → HS → Prop) (ex : Ex) (env : Env) (S : HS) : Prop :=
  match ex with
  | .normal => I env S ∧ μ env S < m
  | e => Q e env S
theorem iterK_normal {I : Env → HS → Prop} {μ : Env → HS → Nat} {m : Nat} {Q : Ex → Env → HS → Prop} {env : Env} {S : HS} : iterK I μ m Q .normal env S = (I env S ∧ μ env S < m) := hide rfl
theorem iterK_exit {I : Env → HS → Prop} {μ : Env → HS → Nat} {m id : Nat} {Q : Ex → Env → HS → Prop} {env : Env} {S : HS} : iterK I μ m Q (.exit id) env S = Q (.exit id) env S := hide rfl
theorem iterK_goto {I : Env → HS → Prop} {μ : Env → HS → Nat} {m id : Nat} {Q : Ex → Env → HS → Prop} {env : Env} {S : HS} : iterK I μ m Q (.goto id) env S = Q (.goto id) env S := hide rfl
theorem iterK_ret {I : Env → HS → Prop} {μ : Env → HS → Nat} {m : Nat} {Q : Ex → Env → HS → Prop} {env : Env} {S : HS} : iterK I μ m Q .ret env S = Q .ret env S := hide rfl
theorem loopK {n : Nat} {c : Code} {env : Env} {S : HS} {Q : Ex → Env → HS → Prop} (I : Env → HS → Prop) (μ : Env → HS → Nat) (h : I env S)
    (hstep : ∀ env S, I env S → wpc P C n c env S (iterK I μ (μ env S) Q)) : codeK P C n (.loop c) env S Q := by
  refine loop_intro I μ (fun env S hI => ?_) h
  have := wpc_sound (hstep env S hI)
  have e : iterK I μ (μ env S) Q = fun ex env' S' => match ex with
      | .normal => I env' S' ∧ μ env' S' < μ env S
      | e => Q e env' S' := by
    funext ex env' S'
    cases ex <;> rfl
  rw [e] at this
  exact this
theorem callK_of {f : FuncId} {args : List HV} {S : HS} {R : HV → HS → Prop} (h : Om P C (.call f args S R)) : callK P C f args S R := .inl h
theorem callK_xt {f : FuncId} {args : List HV} {S : HS} {R : HV → HS → Prop} (x : HV) (h : C.xt f args x) (hr : R x S) : callK P C f args S R := .inr ⟨x, h, hr⟩
end Go.HL
