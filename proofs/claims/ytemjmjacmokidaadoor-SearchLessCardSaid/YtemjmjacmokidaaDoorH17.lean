import Derived.Test.YtemjmjacmokidaaDoorH16
set_option linter.all false
/-! HL, part 17: the steps as equations for 'simp only', which reads a goal from its head: no congruence goes into what is still to come. -/
namespace Go.HL
open Go
variable {P : Program} {C : Cfg}

/-- An equation that 'simp' is not to take for one by definition: the kernel would unfold the code. -/
theorem hide {α : Sort _} {a b : α} (h : a = b) : a = b := h

/-! ### environments -/
theorem put_same {n d : Nat} {env : Env} {x : HV} (h : d < n) : Env.put n env (some d) x d = x := by simp [Env.put, h]
theorem put_ne {n d k : Nat} {env : Env} {x : HV} (h : k ≠ d) : Env.put n env (some d) x k = env k := by simp [Env.put, h]
theorem put_none {n : Nat} {env : Env} {x : HV} : Env.put n env none x = env := hide rfl
theorem enter_get {args : List HV} {k : Nat} : Env.enter args k = (args[k]?).getD .undef := hide rfl
theorem hev_tmp {env : Env} {t : Nat} : hev C env (.tmp t) = env t := hide rfl
theorem hev_const {env : Env} {x : Value} : hev C env (.const x) = ofVal x := hide rfl
theorem hev_global {env : Env} {g : Nat} : hev C env (.global g) = .ep (C.gl g) 0 := hide rfl
theorem hev_func {env : Env} {f : Nat} : hev C env (.func f) = .fn f [] [] := hide rfl
theorem ofVal_int {k : IntKind} {n : Int} : ofVal (.int k n) = .v (.int k n) := hide rfl
theorem ofVal_bool {b : Bool} : ofVal (.bool b) = .v (.bool b) := hide rfl
theorem ofVal_str {s : ByteArray} : ofVal (.string s) = .v (.string s) := hide rfl
theorem ofVal_slice {a : Option Addr} {i j : Nat} : ofVal (.slice a i j) = .sl .full 0 [] := hide rfl
theorem ofVal_ptr : ofVal (.pointer none) = .v (.pointer none) := hide rfl
theorem ofVal_map : ofVal (.map none) = .v (.map none) := hide rfl
theorem ofVal_nilFunc : ofVal .nilFunc = .v .nilFunc := hide rfl
theorem ofVal_nilIface : ofVal .nilIface = .v .nilIface := hide rfl

/-! ### what is decided by a value -/
/-- A mark: here a value is still to be reckoned, so that a congruence has always something to do. -/
def ev {α : Type} (x : α) : α := x
theorem ev_eq {α : Type} (x : α) : ev x = x := hide rfl
def condK (x : HV) (A B : Prop) : Prop := ∃ t, x = .bool t ∧ (t = true → A) ∧ (t = false → B)
/-- A way that forks. -/
def brK (b : Bool) (X Y : Prop) : Prop := (b = true → X) ∧ (b = false → Y)
theorem brK_true {X Y : Prop} : brK true X Y = X := by simp [brK]
theorem brK_false {X Y : Prop} : brK false X Y = Y := by simp [brK]
theorem brK_decide {p : Prop} [Decidable p] {X Y : Prop} : brK (decide p) X Y = ((p → X) ∧ (¬ p → Y)) := by simp [brK]
theorem brK_not {b : Bool} {X Y : Prop} : brK (!b) X Y = brK b Y X := by cases b <;> simp [brK]
theorem brK_congr {b b' : Bool} {X Y : Prop} (h : b = b') : brK b X Y = brK b' X Y := by rw [h]
theorem condK_bool {t : Bool} {A B : Prop} : condK (.v (.bool t)) A B = brK t A B := by
  apply propext
  constructor
  · rintro ⟨t', h, h1, h2⟩; cases h; exact ⟨h1, h2⟩
  · rintro ⟨h1, h2⟩; exact ⟨t, rfl, h1, h2⟩
theorem condK_congr {x x' : HV} {A B : Prop} (h : x = x') : condK x A B = condK x' A B := by rw [h]
def guardK (x : HV) (t : Bool) (A B : Prop) : Prop := (x = .bool t → A) ∧ (x ≠ .bool t → B)
theorem guardK_true {b : Bool} {A B : Prop} : guardK (.v (.bool b)) true A B = brK b A B := by
  simp [guardK, brK]
theorem guardK_false {b : Bool} {A B : Prop} : guardK (.v (.bool b)) false A B = brK b B A := by
  cases b <;> simp [guardK, brK]
theorem guardK_undef {t : Bool} {A B : Prop} : guardK .undef t A B = B := by simp [guardK, HV.undef]
theorem guardK_congr {x x' : HV} {t : Bool} {A B : Prop} (h : x = x') : guardK x t A B = guardK x' t A B := by rw [h]
theorem some?_congr {α : Type} {o o' : Option α} {K : α → Prop} (h : o = o') : some? o K = some? o' K := by rw [h]
def someS {α : Type} (o : Option α) (R : α → HS → Prop) (S : HS) : Prop := some? o fun v => R v S
theorem someS_congr {α : Type} {o o' : Option α} {R : α → HS → Prop} {S : HS} (h : o = o') : someS o R S = someS o' R S := by rw [h]
theorem someS_some {α : Type} {x : α} {R : α → HS → Prop} {S : HS} : someS (some x) R S = R x S := hide rfl
def storeK (o : Option HS) (R : HV → HS → Prop) : Prop := some? o fun S' => R .undef S'
theorem storeK_congr {o o' : Option HS} {R : HV → HS → Prop} (h : o = o') : storeK o R = storeK o' R := by rw [h]
theorem storeK_some {x : HS} {R : HV → HS → Prop} : storeK (some x) R = R .undef x := hide rfl
def allocK (T : TypeId) (o : Option TyI) (R : HV → HS → Prop) (S : HS) : Prop := some? o fun i => ∀ l, S l = none → lt l = some T → R (.ptr l 0) (S.set l (.row i.zero))
theorem allocK_congr {T : TypeId} {o o' : Option TyI} {R : HV → HS → Prop} {S : HS} (h : o = o') : allocK T o R S = allocK T o' R S := by rw [h]
theorem allocK_some {T : TypeId} {i : TyI} {R : HV → HS → Prop} {S : HS} : allocK T (some i) R S = ∀ l, S l = none → lt l = some T → R (.ptr l 0) (S.set l (.row i.zero)) := hide rfl
theorem some?_some {α : Type} {x : α} {K : α → Prop} : some? (some x) K = K x := hide rfl

def guardTmp (ops : List Oper) (j : Nat) : Nat := ((ops[j]?).bind (·.dst)).getD 0
def callK (P : Program) (C : Cfg) (f : FuncId) (args : List HV) (S : HS) (R : HV → HS → Prop) : Prop := callL P C f args S R
theorem callK_congr {f : FuncId} {args args' : List HV} {S : HS} {R : HV → HS → Prop} (h : args = args') : callK P C f args S R = callK P C f args' S R := by rw [h]
def codeK (P : Program) (C : Cfg) (n : Nat) (c : Code) (env : Env) (S : HS) (Q : Ex → Env → HS → Prop) : Prop := Om P C (.code n c env S Q)
theorem codeK_congr {n : Nat} {c : Code} {env env' : Env} {S : HS} {Q : Ex → Env → HS → Prop} (h : env = env') : codeK P C n c env S Q = codeK P C n c env' S Q := by rw [h]
def fnK (P : Program) (C : Cfg) (x : HV) (args : List HV) (S : HS) (R : HV → HS → Prop) : Prop :=
  match x with
  | .fn g first captured => callK P C g (first ++ args ++ captured) S R
  | _ => False
theorem fnK_congr {x x' : HV} {args : List HV} {S : HS} {R : HV → HS → Prop} (h : x = x') : fnK P C x args S R = fnK P C x' args S R := by rw [h]
theorem fnK_fn {g : FuncId} {first captured args : List HV} {S : HS} {R : HV → HS → Prop} : fnK P C (.fn g first captured) args S R = callK P C g (ev (first ++ args ++ captured)) S R := hide rfl

/-- One operation, its guard met. -/
def opK (P : Program) (C : Cfg) (o : Oper) (env : Env) (S : HS) (R : HV → HS → Prop) : Prop :=
  match o.op with
  | .call c => match c.callee with
    | .value f => fnK P C (ev (hev C env f)) (c.args.toList.map (hev C env)) S R
    | _ => hop P C o env S R
  | _ => hop P C o env S R
theorem oneL_opK {ops : Array Oper} {o : Oper} {env : Env} {S : HS} {R : HV → HS → Prop} (hw : Region.wanted o (hyield ops env) = true) : oneL P C ops o env S R = opK P C o env S R := by
  unfold oneL opK
  rw [if_pos hw]
  cases o.op with
  | call c =>
    cases c.callee with
    | value f => simp only [fnK]; rfl
    | _ => rfl
  | _ => rfl

theorem opsL_cons {n : Nat} {ops : Array Oper} {rest : List Oper} {o : Oper} {env : Env} {S : HS} {Q : Env → HS → Prop} :
    opsL P C n ops (o :: rest) env S Q = oneL P C ops o env S fun x S' => opsL P C n ops rest (env.put n o.dst x) S' Q := hide rfl
/-- What follows an operation. -/
def thenK (P : Program) (C : Cfg) (n : Nat) (ops : Array Oper) (rest : List Oper) (env : Env) (d : Option Nat) (Q : Env → HS → Prop) (x : HV) (S : HS) : Prop := opsL P C n ops rest (env.put n d x) S Q
theorem thenK_eq {n : Nat} {ops : Array Oper} {rest : List Oper} {env : Env} {d : Option Nat} {Q : Env → HS → Prop} {x : HV} {S : HS} : thenK P C n ops rest env d Q x S = opsL P C n ops rest (env.put n d x) S Q := hide rfl
theorem opsL_nil {n : Nat} {ops : Array Oper} {env : Env} {S : HS} {Q : Env → HS → Prop} : opsL P C n ops [] env S Q = Q env S := hide rfl
theorem opsL_free {n : Nat} {ops : Array Oper} {rest : List Oper} {env : Env} {S : HS} {Q : Env → HS → Prop} {d : Option Nat} {op : Op} {ty : TypeId} {pos : String} {af : Array Edge} :
    opsL P C n ops (⟨d, op, ty, pos, af, none⟩ :: rest) env S Q = opK P C ⟨d, op, ty, pos, af, none⟩ env S (thenK P C n ops rest env d Q) := by
  rw [opsL_cons]
  exact oneL_opK (o := ⟨d, op, ty, pos, af, none⟩) rfl
theorem opsL_guard {n : Nat} {ops : List Oper} {rest : List Oper} {env : Env} {S : HS} {Q : Env → HS → Prop} {d : Option Nat} {op : Op} {ty : TypeId} {pos : String} {af : Array Edge} {j g : Nat} {t : Bool} (hg : (ops[j]?).bind (·.dst) = some g) :
    opsL P C n ops.toArray (⟨d, op, ty, pos, af, some (j, t)⟩ :: rest) env S Q = guardK (ev (env g)) t
      (opK P C ⟨d, op, ty, pos, af, some (j, t)⟩ env S (thenK P C n ops.toArray rest env d Q)) (opsL P C n ops.toArray rest (env.put n d .undef) S Q) := by
  rw [ev_eq]
  have hy : hyield ops.toArray env j = match env g with | .v (.bool b) => some b | _ => none := by
    unfold hyield
    simp only [List.getElem?_toArray, hg]
    cases env g with
    | v x => cases x <;> rfl
    | _ => rfl
  rw [opsL_cons]
  apply propext
  constructor
  · intro h
    refine ⟨fun e => ?_, fun e => ?_⟩
    · have hw : Region.wanted ⟨d, op, ty, pos, af, some (j, t)⟩ (hyield ops.toArray env) = true := by simp [Region.wanted, hy, e]
      rw [oneL_opK hw] at h
      exact h
    · have hw : ¬ Region.wanted ⟨d, op, ty, pos, af, some (j, t)⟩ (hyield ops.toArray env) = true := by
        simp only [Region.wanted, hy]
        intro hh
        apply e
        revert hh
        cases env g with
        | v x => cases x <;> simp
        | _ => simp
      unfold oneL at h
      rw [if_neg hw] at h
      exact h
  · intro h
    by_cases e : env g = .bool t
    · have hw : Region.wanted ⟨d, op, ty, pos, af, some (j, t)⟩ (hyield ops.toArray env) = true := by simp [Region.wanted, hy, e]
      rw [oneL_opK hw]
      exact h.1 e
    · have hw : ¬ Region.wanted ⟨d, op, ty, pos, af, some (j, t)⟩ (hyield ops.toArray env) = true := by
        simp only [Region.wanted, hy]
        intro hh
        apply e
        revert hh
        cases env g with
        | v x => cases x <;> simp
        | _ => simp
      unfold oneL
      rw [if_neg hw]
      exact h.2 e

theorem opsL_guard' {n : Nat} {ops : List Oper} {rest : List Oper} {env : Env} {S : HS} {Q : Env → HS → Prop} {d : Option Nat} {op : Op} {ty : TypeId} {pos : String} {af : Array Edge} {j : Nat} {t : Bool} (hg : ((ops[j]?).bind (·.dst)).isSome = true) :
    opsL P C n ops.toArray (⟨d, op, ty, pos, af, some (j, t)⟩ :: rest) env S Q = guardK (ev (env (guardTmp ops j))) t
      (opK P C ⟨d, op, ty, pos, af, some (j, t)⟩ env S (thenK P C n ops.toArray rest env d Q)) (opsL P C n ops.toArray rest (env.put n d .undef) S Q) := by
  obtain ⟨g, h⟩ := Option.isSome_iff_exists.1 hg
  rw [opsL_guard h]
  unfold guardTmp
  rw [h]
  rfl
theorem opsL_congr {n : Nat} {ops : Array Oper} {l : List Oper} {env env' : Env} {S : HS} {Q : Env → HS → Prop} (h : env = env') : opsL P C n ops l env S Q = opsL P C n ops l env' S Q := by rw [h]
theorem opK_congr {o : Oper} {env env' : Env} {S : HS} {R : HV → HS → Prop} (h : env = env') : opK P C o env S R = opK P C o env' S R := by rw [h]
theorem wpc_congr {n : Nat} {c : Code} {env env' : Env} {S : HS} {Q : Ex → Env → HS → Prop} (h : env = env') : wpc P C n c env S Q = wpc P C n c env' S Q := by rw [h]

/-! ### the code -/
section
variable {n : Nat} {env : Env} {S : HS} {Q : Ex → Env → HS → Prop}
theorem wpc_skip : wpc P C n .skip env S Q = Q .normal env S := hide rfl
theorem wpc_label {l : Nat} : wpc P C n (.label l) env S Q = Q .normal env S := hide rfl
theorem wpc_exit {l : Nat} : wpc P C n (.exit l) env S Q = Q (.exit l) env S := hide rfl
theorem wpc_goto {l : Nat} : wpc P C n (.goto l) env S Q = Q (.goto l) env S := hide rfl
theorem wpc_ret : wpc P C n .ret env S Q = Q .ret env S := hide rfl
def seqK (P : Program) (C : Cfg) (n : Nat) (b : Code) (Q : Ex → Env → HS → Prop) (ex : Ex) (env' : Env) (S' : HS) : Prop := match ex with
    | .normal => wpc P C n b env' S' Q
    | .exit id => Q (.exit id) env' S'
    | .goto l => Q (.goto l) env' S'
    | .ret => Q .ret env' S'
theorem wpc_seq {a b : Code} : wpc P C n (.seq a b) env S Q = wpc P C n a env S (seqK P C n b Q) := hide rfl
theorem seqK_normal {b : Code} : seqK P C n b Q .normal env S = wpc P C n b env S Q := hide rfl
theorem seqK_exit {b : Code} {id : Nat} : seqK P C n b Q (.exit id) env S = Q (.exit id) env S := hide rfl
theorem seqK_goto {b : Code} {id : Nat} : seqK P C n b Q (.goto id) env S = Q (.goto id) env S := hide rfl
theorem seqK_ret {b : Code} : seqK P C n b Q .ret env S = Q .ret env S := hide rfl
theorem wpc_cond {c : Operand} {x y : Code} : wpc P C n (.cond c x y) env S Q = condK (ev (hev C env c)) (wpc P C n x env S Q) (wpc P C n y env S Q) := hide rfl
def blockK (id : Nat) (Q : Ex → Env → HS → Prop) (ex : Ex) (env' : Env) (S' : HS) : Prop := match ex with
    | .normal => Q .normal env' S'
    | .exit id' => if id' = id then Q .normal env' S' else Q (.exit id') env' S'
    | .goto l => Q (.goto l) env' S'
    | .ret => Q .ret env' S'
theorem wpc_block {id : Nat} {c : Code} : wpc P C n (.block id c) env S Q = wpc P C n c env S (blockK id Q) := hide rfl
theorem blockK_normal {id : Nat} : blockK id Q .normal env S = Q .normal env S := hide rfl
theorem blockK_same {id : Nat} : blockK id Q (.exit id) env S = Q .normal env S := by simp [blockK]
theorem blockK_other {id id' : Nat} (h : id' ≠ id) : blockK id Q (.exit id') env S = Q (.exit id') env S := by simp [blockK, h]
theorem blockK_goto {id l : Nat} : blockK id Q (.goto l) env S = Q (.goto l) env S := hide rfl
theorem blockK_ret {id : Nat} : blockK id Q .ret env S = Q .ret env S := hide rfl
theorem wpc_region {id : Nat} {ops : List Oper} : wpc P C n (.region id ops.toArray false) env S Q = opsL P C n ops.toArray ops env S (Q .normal) := hide rfl
theorem wpc_draw {id : Nat} {ops : Array Oper} : wpc P C n (.region id ops true) env S Q = codeK P C n (.region id ops true) (ev env) S Q := hide rfl
theorem wpc_loop {c : Code} : wpc P C n (.loop c) env S Q = codeK P C n (.loop c) (ev env) S Q := hide rfl
theorem wpc_scope {c : Code} : wpc P C n (.scope c) env S Q = codeK P C n (.scope c) (ev env) S Q := hide rfl
/-- The end of a function whose results lie in temporaries. -/
def endK (ts : List Nat) (R : HV → HS → Prop) (ex : Ex) (env : Env) (S : HS) : Prop := (ex = .normal ∨ ex = .ret) ∧ R (packRes (ts.map env)) S
theorem endK_normal {ts : List Nat} {R : HV → HS → Prop} : endK ts R .normal env S = R (packRes (ts.map env)) S := by simp [endK]
theorem endK_ret {ts : List Nat} {R : HV → HS → Prop} : endK ts R .ret env S = R (packRes (ts.map env)) S := by simp [endK]
theorem call_tmps {f : FuncId} {fn : Func} {body : Code} {args : List HV} {S : HS} {R : HV → HS → Prop} (ts : List Nat) (m : Nat) (hf : P.funcs[f]? = some fn) (hb : fn.body = some body)
    (hm : args.length + (fn.ntmps - args.length) = m) (hr : fn.results = (ts.map ResultVar.tmp).toArray) (hz : C.frz f = false)
    (h : wpc P C m body (Env.enter args) S (endK ts R)) : Om P C (.call f args S R) := by
  subst hm
  refine call_intro hf hb ?_
  have e : retTo P C f fn R = endK ts R := by
    funext ex env S
    unfold retTo endK
    simp only [hz, Bool.false_eq_true, if_false]
    have hh : hres P fn env S = some (packRes (ts.map env)) := by
      unfold hres
      rw [hr]
      have : ∀ ts : List Nat, (ts.map ResultVar.tmp).mapM (hresOne P env S) = some (ts.map env) := by
        intro ts
        induction ts with
        | nil => rfl
        | cons t ts ih => simp [hresOne, ih]
      rw [this ts]
      rfl
    rw [hh]
    simp
  rw [e]
  exact h
end

/-! ### binary operations -/
def hvOf (P : Program) (s : Sem Value) : Option HV := match s.val? P with | some x => if okVal x then some (ofVal x) else none | none => none
def binPure (P : Program) (op : BinOp) (T : TypeId) (x y : Operand) (a b : HV) : Option HV :=
  match toVal a, toVal b with
  | some a, some b => hvOf P (do eqGuard op T x y a b; binOp op T a b)
  | _, _ => none
theorem hpure_bin {d : Option Nat} {op : BinOp} {T r : TypeId} {x y : Operand} {ty : TypeId} {pos : String} {af : Array Edge} {g : Option (Nat × Bool)} {env : Env} :
    hpure P C ⟨d, .binOp op T x y r, ty, pos, af, g⟩ env = binPure P op T x y (hev C env x) (hev C env y) := by
  unfold hpure binPure
  simp only [Op.operands]
  cases hx : toVal (hev C env x) with
  | none => simp [hx]
  | some a =>
    cases hy : toVal (hev C env y) with
    | none => simp [hx, hy]
    | some b =>
      simp only [List.all_cons, hx, hy, Option.isSome_some, List.all_nil, Bool.and_self, if_true, execOp, Option.getD_some]
      unfold hvOf
      simp only [bind, Sem.val?_bind]
      cases (Option.bind (Sem.val? P (eqGuard op T x y a b)) fun _ => Sem.val? P (binOp op T a b)) with
      | none => rfl
      | some v => rfl
end Go.HL
