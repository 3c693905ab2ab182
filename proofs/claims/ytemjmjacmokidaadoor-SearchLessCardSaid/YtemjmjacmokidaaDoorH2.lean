import Derived.Test.YtemjmjacmokidaaDoorH1
set_option linter.all false
/-! HL, part 2: the code. A big-step semantics with sets of outcomes: 'Om J' says that the run ends, whatever is left open, and where. -/
namespace Go.HL
open Go

inductive Ex where
  | normal
  | exit (id : Nat)
  | goto (l : Nat)
  | ret
  deriving DecidableEq

def hyield (ops : Array Oper) (env : Env) (j : Nat) : Option Bool :=
  match (ops[j]?).bind (·.dst) with
  | some t => match env t with | .v (.bool b) => some b | _ => none
  | none => none

/-- A function's results. -/
def hresOne (P : Program) (env : Env) (S : HS) : ResultVar → Option HV
  | .tmp t => some (env t)
  | .cell a T => hload P T S (env a)
def packRes : List HV → HV
  | [x] => x
  | xs => .tup xs
def hres (P : Program) (fn : Func) (env : Env) (S : HS) : Option HV := (fn.results.toList.mapM (hresOne P env S)).map packRes

/-- A frozen value: a made slice becomes an immutable one, its row is gone. -/
def frzOne (x : HV) (S : HS) (z : Nat) : Option (HV × HS) :=
  match x with
  | .ms l o n _ => match S l with
    | some (.row cs) => if 0 < z ∧ o + n * z ≤ cs.length then some (.sl .none z (chunks z n (cs.drop o)), S.set l .dead) else none
    | _ => none
  | x => some (x, S)
def frzList : List HV → List Nat → HS → Option (List HV × HS)
  | [], _, S => some ([], S)
  | x :: xs, zs, S => match frzOne x S (zs.headD 0) with
    | some (x', S') => match frzList xs zs.tail S' with
      | some (xs', S'') => some (x' :: xs', S'')
      | none => none
    | none => none
def elemSize (P : Program) (T : TypeId) : Nat := match sliceElem P T with | some i => i.size | none => 0
def frzVal (P : Program) (fn : Func) (x : HV) (S : HS) : Option (HV × HS) :=
  match x with
  | .tup xs => (frzList xs (fn.resultTypes.toList.map (elemSize P)) S).map fun (xs, S) => (.tup xs, S)
  | x => frzOne x S (elemSize P (fn.resultTypes.toList.headD 0))

inductive J where
  | call (f : FuncId) (args : List HV) (S : HS) (Q : HV → HS → Prop)
  | code (n : Nat) (c : Code) (env : Env) (S : HS) (Q : Ex → Env → HS → Prop)
  | jump (n : Nat) (body c : Code) (env : Env) (S : HS) (Q : Ex → Env → HS → Prop)
  | one (n : Nat) (ops : Array Oper) (i : Nat) (env : Env) (S : HS) (R : HV → HS → Prop)
  | ops (n : Nat) (ops : Array Oper) (l : List Nat) (env : Env) (S : HS) (Q : Env → HS → Prop)
  | any (n : Nat) (ops : Array Oper) (fuel : Nat) (listed : Array Bool) (env : Env) (S : HS) (Q : Env → HS → Prop)

/-- Where a call's outcome goes: the function's results, frozen where the table says so. -/
def retTo (P : Program) (C : Cfg) (f : FuncId) (fn : Func) (Q : HV → HS → Prop) (ex : Ex) (env : Env) (S : HS) : Prop :=
  (ex = .normal ∨ ex = .ret) ∧ ∃ x, hres P fn env S = some x ∧
    if C.frz f then ∃ x' S', frzVal P fn x S = some (x', S') ∧ Q x' S' else Q x S

def dstOf (ops : Array Oper) (i : Nat) : Option Nat := (ops[i]?).bind (·.dst)

inductive Om (P : Program) (C : Cfg) : J → Prop where
  | call {f fn body args S Q} (hf : P.funcs[f]? = some fn) (hb : fn.body = some body)
      (h : Om P C (.code (args.length + (fn.ntmps - args.length)) body (Env.enter args) S (retTo P C f fn Q))) : Om P C (.call f args S Q)
  | ext {f args S Q} (h : C.ext f args S Q) : Om P C (.call f args S Q)
  | skip {n env S Q} (h : Q .normal env S) : Om P C (.code n .skip env S Q)
  | label {n l env S Q} (h : Q .normal env S) : Om P C (.code n (.label l) env S Q)
  | exit {n id env S Q} (h : Q (.exit id) env S) : Om P C (.code n (.exit id) env S Q)
  | goto {n l env S Q} (h : Q (.goto l) env S) : Om P C (.code n (.goto l) env S Q)
  | ret {n env S Q} (h : Q .ret env S) : Om P C (.code n .ret env S Q)
  | seq {n a b env S Q} (R : Ex → Env → HS → Prop) (h : Om P C (.code n a env S R))
      (hn : ∀ env' S', R .normal env' S' → Om P C (.code n b env' S' Q))
      (he : ∀ ex env' S', ex ≠ .normal → R ex env' S' → Q ex env' S') : Om P C (.code n (.seq a b) env S Q)
  | cond {n c x y env S Q} (t : Bool) (hc : hev C env c = .bool t) (h : Om P C (.code n (if t then x else y) env S Q)) : Om P C (.code n (.cond c x y) env S Q)
  | block {n id c env S Q} (h : Om P C (.code n c env S (fun ex env' S' => if ex = .exit id then Q .normal env' S' else Q ex env' S'))) :
      Om P C (.code n (.block id c) env S Q)
  | loop {n c env S Q} (R : Ex → Env → HS → Prop) (h : Om P C (.code n c env S R))
      (hn : ∀ env' S', R .normal env' S' → Om P C (.code n (.loop c) env' S' Q))
      (he : ∀ ex env' S', ex ≠ .normal → R ex env' S' → Q ex env' S') : Om P C (.code n (.loop c) env S Q)
  | scope {n c env S Q} (R : Ex → Env → HS → Prop) (h : Om P C (.code n c env S R))
      (hg : ∀ l env' S', R (.goto l) env' S' → ∃ rest, findLabel c l = some rest)
      (hj : ∀ l env' S' rest, R (.goto l) env' S' → findLabel c l = some rest → Om P C (.jump n c rest env' S' Q))
      (he : ∀ ex env' S', (∀ l, ex ≠ .goto l) → R ex env' S' → Q ex env' S') : Om P C (.code n (.scope c) env S Q)
  | jump {n body c env S Q} (R : Ex → Env → HS → Prop) (h : Om P C (.code n c env S R))
      (hg : ∀ l env' S', R (.goto l) env' S' → ∃ rest, findLabel body l = some rest)
      (hj : ∀ l env' S' rest, R (.goto l) env' S' → findLabel body l = some rest → Om P C (.jump n body rest env' S' Q))
      (he : ∀ ex env' S', (∀ l, ex ≠ .goto l) → R ex env' S' → Q ex env' S') : Om P C (.jump n body c env S Q)
  | region {n id ops env S Q} (h : Om P C (.ops n ops (List.range ops.size) env S (Q .normal))) : Om P C (.code n (.region id ops false) env S Q)
  | draw {n id ops env S Q} (h : Om P C (.any n ops ops.size (Array.replicate ops.size false) env S (Q .normal))) : Om P C (.code n (.region id ops true) env S Q)
  | opsNil {n ops env S Q} (h : Q env S) : Om P C (.ops n ops [] env S Q)
  | opsCons {n ops i l env S Q} (R : HV → HS → Prop) (h : Om P C (.one n ops i env S R))
      (hr : ∀ x S', R x S' → Om P C (.ops n ops l (env.put n (dstOf ops i) x) S' Q)) : Om P C (.ops n ops (i :: l) env S Q)
  | anyDone {n ops fuel listed env S Q} (hr : Region.ready .any ops listed = []) (h : Q env S) : Om P C (.any n ops fuel listed env S Q)
  | anyStep {n ops fuel listed env S Q} (R : Nat → HV → HS → Prop) (hne : Region.ready .any ops listed ≠ [])
      (h : ∀ i, i ∈ Region.ready .any ops listed → Om P C (.one n ops i env S (R i)))
      (hr : ∀ i x S', i ∈ Region.ready .any ops listed → R i x S' → Om P C (.any n ops fuel (listed.setIfInBounds i true) (env.put n (dstOf ops i) x) S' Q)) :
      Om P C (.any n ops (fuel + 1) listed env S Q)
  | oneNone {n ops i env S R} (ho : ops[i]? = none) (h : R .undef S) : Om P C (.one n ops i env S R)
  | oneSkip {n ops i o env S R} (ho : ops[i]? = some o) (hw : Region.wanted o (hyield ops env) = false) (h : R .undef S) : Om P C (.one n ops i env S R)
  | oneOp {n ops i o env S R} (ho : ops[i]? = some o) (hw : Region.wanted o (hyield ops env) = true) (h : hop P C o env S R) : Om P C (.one n ops i env S R)
  | oneCall {n ops i o env S R c f g first captured} (ho : ops[i]? = some o) (hw : Region.wanted o (hyield ops env) = true) (hc : o.op = .call c)
      (hv : c.callee = .value f) (hf : hev C env f = .fn g first captured)
      (h : Om P C (.call g (first ++ c.args.toList.map (hev C env) ++ captured) S R)) : Om P C (.one n ops i env S R)
  | oneXt {n ops i o env S R c f g first captured x} (ho : ops[i]? = some o) (hw : Region.wanted o (hyield ops env) = true) (hc : o.op = .call c)
      (hv : c.callee = .value f) (hf : hev C env f = .fn g first captured)
      (h : C.xt g (first ++ c.args.toList.map (hev C env) ++ captured) x) (hr : R x S) : Om P C (.one n ops i env S R)

end Go.HL
