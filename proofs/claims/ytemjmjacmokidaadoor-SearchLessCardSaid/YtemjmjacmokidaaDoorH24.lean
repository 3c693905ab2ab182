import Derived.Test.YtemjmjacmokidaaDoorH23
set_option linter.all false
/-! HL, part 24: maps with whole numbers for keys; ranging over a map. -/
namespace Go.HL
open Go
variable {P : Program} {C : Cfg}

theorem equal_int {T : TypeId} {k : IntKind} {a b : Int} (hT : P.underlying T = some (.int k)) : (Op.equal T (.int k a) (.int k b)).val? P = some (a == b) :=
  equal_val fun d => by simp only [Op.equalIn, underlying, program, bind, Sem.bind, Sem.val?, hT, pure, if_true]
theorem checkKey_int {T : TypeId} {k : IntKind} {n : Int} {b : Bool} (hT : P.underlying T = some (.int k)) : (Instr.checkKey b 10000 T (.int k n)).val? P = some () := by
  have : ∀ d, (Instr.checkKey b (d + 1) T (.int k n)).val? P = some () := fun d => by
    simp only [Instr.checkKey, underlying, program, bind, Sem.bind, Sem.val?, hT, pure]
  exact this 9999
theorem hfind_none {T : TypeId} {k : IntKind} {n : Int} (hT : P.underlying T = some (.int k)) : ∀ {es : List HEntry}, (∀ e ∈ es, ∃ m, e.key = .int k m ∧ n ≠ m) → hfind P T (.int k n) es = some none
  | [], _ => rfl
  | e :: es, h => by
    obtain ⟨m, h1, h2⟩ := h e (by simp)
    have hn : (n == m) = false := by simp [h2]
    have ih := hfind_none hT (es := es) (fun e' h' => h e' (List.mem_cons_of_mem _ h'))
    simp only [hfind, keyEq, h1, equal_int hT, hn, ih]
    rfl
theorem mapUpdate_new {T kt et : TypeId} {k : IntKind} {n : Int} {l : Nat} {S : HS} {es : List HEntry} {clock : Nat} {x : HV} (hm : mapTypes P T = some (kt, et)) (hT : P.underlying kt = some (.int k)) (hl : S l = some (.map es clock))
    (h : ∀ e ∈ es, ∃ m, e.key = .int k m ∧ n ≠ m) : hmapUpdate P T (.mp l) (.v (.int k n)) x S = some (S.set l (.map (es ++ [⟨.int k n, x, clock⟩]) (clock + 1))) := by
  have hk : hkey P T es (.v (.int k n)) = some (.int k n, none) := by
    simp only [hkey, hm, toVal, hT, Option.isNone_some, Bool.false_eq_true, if_false, checkKey_int hT, hfind_none hT h, okVal, okLeaf, plain]
  simp only [hmapUpdate, hl, hk]

/-! ### ranging -/
def rangeK (P : Program) (T : TypeId) (x : HV) (R : HV → HS → Prop) (S : HS) : Prop :=
  match x with
  | .mp m => match mapTypes P T, S m with
    | some _, some (.map _ clock) => ∀ r, S r = none → R (.ptr r 0) (S.set r (.iter m clock [] clock))
    | _, _ => False
  | _ => False
theorem rangeK_congr {T : TypeId} {x x' : HV} {R : HV → HS → Prop} {S : HS} (h : x = x') : rangeK P T x R S = rangeK P T x' R S := by rw [h]
theorem rangeK_mp {T kt et : TypeId} {m clock : Nat} {es : List HEntry} {R : HV → HS → Prop} {S : HS} (hm : mapTypes P T = some (kt, et)) (hS : S m = some (.map es clock)) (h : ∀ r, S r = none → R (.ptr r 0) (S.set r (.iter m clock [] clock))) : rangeK P T (.mp m) R S := by
  simp only [rangeK, hm, hS]
  exact h
section
variable {d : Option Nat} {ty : TypeId} {pos : String} {af : Array Edge} {g : Option (Nat × Bool)} {env : Env} {S : HS} {R : HV → HS → Prop}
theorem opK_range {T : TypeId} {x : Operand} : opK P C ⟨d, .range T x, ty, pos, af, g⟩ env S R = rangeK P T (ev (hev C env x)) R S := by
  simp only [ev_eq, opK, hop, rangeK]
  cases hev C env x <;> rfl
end
theorem hnext_congr {x x' : HV} {S : HS} {R : HV → HS → Prop} (h : x = x') : hnext x S R = hnext x' S R := by rw [h]
theorem hnext_static {r m n : Nat} {es : List HEntry} {seen : List Nat} {S : HS} {K : HV → HS → Prop} (hr : S r = some (.iter m n seen n)) (hm : S m = some (.map es n)) (hb : ∀ e ∈ es, e.born < n)
    (h0 : (∀ e ∈ es, e.born ∈ seen) → K (.tup [.bool false]) S) (h1 : ∀ e ∈ es, e.born ∉ seen → K (.tup [.bool true, ofVal e.key, e.val]) (S.set r (.iter m n (seen ++ [e.born]) n))) : hnext (.ptr r 0) S K := by
  simp only [hnext, hr, hm]
  refine ⟨?_, ?_, ?_⟩
  · cases es with
    | nil => simp
    | cons e es =>
      have := hb e (by simp)
      have hd : decide (e.born ≥ n) = false := by simp; omega
      simp [List.all_cons, hd]
  · intro hold
    refine h0 fun e he => ?_
    apply Classical.byContradiction
    intro hne
    have : e ∈ (es.filter fun e => !seen.contains e.born).filter (·.born < n) := by
      rw [List.mem_filter, List.mem_filter]
      exact ⟨⟨he, by simpa using hne⟩, by simpa using hb e he⟩
    have h2 : (es.filter fun e => !seen.contains e.born).filter (·.born < n) = [] := hold
    rw [h2] at this
    exact absurd this (by simp)
  · intro e he
    have : e ∈ es ∧ e.born ∉ seen := by
      simp only [List.mem_append, List.mem_filter] at he
      rcases he with ⟨⟨h1, h2⟩, _⟩ | ⟨⟨h1, h2⟩, _⟩
      · exact ⟨h1, by simpa using h2⟩
      · exact ⟨h1, by simpa using h2⟩
    exact h1 e this.1 this.2
theorem hentry_static {r m n b : Nat} {es : List HEntry} {seen : List Nat} {S : HS} {e : HEntry} (hr : S r = some (.iter m n (seen ++ [b]) n)) (hm : S m = some (.map es n)) (hf : es.find? (·.born == b) = some e) :
    hentry (.ptr r 0) S = some (.tup [ofVal e.key, e.val]) := by
  simp [hentry, hr, hm, hf]
def unseen (es : List HEntry) (seen : List Nat) : Nat := (es.filter fun e => !seen.contains e.born).length
theorem unseen_le (es : List HEntry) (seen : List Nat) (b : Nat) : unseen es (seen ++ [b]) ≤ unseen es seen := by
  induction es with
  | nil => simp [unseen]
  | cons e es ih =>
    unfold unseen at ih ⊢
    simp only [List.filter_cons]
    by_cases h : seen.contains e.born = true
    · have h2 : (seen ++ [b]).contains e.born = true := by simp at h ⊢; exact .inl h
      simp only [h, h2]
      simpa using ih
    · by_cases h2 : (seen ++ [b]).contains e.born = true
      · simp only [h, h2]
        simp at ih ⊢
        omega
      · simp only [h, h2]
        simp at ih ⊢
        omega
theorem unseen_lt {es : List HEntry} {seen : List Nat} {e : HEntry} (he : e ∈ es) (hn : e.born ∉ seen) : unseen es (seen ++ [e.born]) < unseen es seen := by
  induction es with
  | nil => cases he
  | cons e' es ih =>
    rcases List.mem_cons.1 he with rfl | he
    · have h1 := unseen_le es seen e.born
      unfold unseen at h1 ⊢
      simp only [List.filter_cons]
      have h2 : seen.contains e.born = false := by simpa using hn
      have h3 : (seen ++ [e.born]).contains e.born = true := by simp
      simp only [h2, h3]
      simp at h1 ⊢
      omega
    · have h1 := ih he
      unfold unseen at h1 ⊢
      simp only [List.filter_cons]
      by_cases h : seen.contains e'.born = true
      · have h2 : (seen ++ [e.born]).contains e'.born = true := by simp at h ⊢; exact .inl h
        simp only [h, h2]
        simpa using h1
      · by_cases h2 : (seen ++ [e.born]).contains e'.born = true
        · simp only [h, h2]
          simp at h1 ⊢
          omega
        · simp only [h, h2]
          simp at h1 ⊢
          omega
/-! ### a loop, round by round -/
def againK (P : Program) (C : Cfg) (n : Nat) (c : Code) (Q : Ex → Env → HS → Prop) (ex : Ex) (env : Env) (S : HS) : Prop :=
  match ex with
  | .normal => codeK P C n (.loop c) env S Q
  | e => Q e env S
theorem againK_normal {n : Nat} {c : Code} {Q : Ex → Env → HS → Prop} {env : Env} {S : HS} : againK P C n c Q .normal env S = codeK P C n (.loop c) (ev env) S Q := hide rfl
theorem againK_exit {n : Nat} {c : Code} {Q : Ex → Env → HS → Prop} {env : Env} {S : HS} {i : Nat} : againK P C n c Q (.exit i) env S = Q (.exit i) env S := hide rfl
theorem againK_goto {n : Nat} {c : Code} {Q : Ex → Env → HS → Prop} {env : Env} {S : HS} {i : Nat} : againK P C n c Q (.goto i) env S = Q (.goto i) env S := hide rfl
theorem againK_ret {n : Nat} {c : Code} {Q : Ex → Env → HS → Prop} {env : Env} {S : HS} : againK P C n c Q .ret env S = Q .ret env S := hide rfl
theorem loop_round {n : Nat} {c : Code} {env : Env} {S : HS} {Q : Ex → Env → HS → Prop} (h : wpc P C n c env S (againK P C n c Q)) : codeK P C n (.loop c) env S Q := by
  refine .loop (againK P C n c Q) (wpc_sound h) (fun env' S' hr => hr) (fun ex env' S' hne hr => ?_)
  cases ex with
  | normal => exact absurd rfl hne
  | exit i => exact hr
  | goto i => exact hr
  | ret => exact hr
end Go.HL
