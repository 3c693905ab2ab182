import Derived.Orders
import Derived.LoopN
import Derived.Scope
set_option linter.all false
/-! HL, part 1: values, heaps, operations. A high-level reading of the model's own code: immutable slices are lists, boxes and made rows are objects of a heap that knows nothing of blocks, capacities are any. -/
namespace Go.HL
open Go

inductive Tok where
  | full
  | live (t : Nat)
  | none
  deriving DecidableEq, Inhabited

inductive HV where
  | v (x : Value)
  | agg (cs : List HV)
  | tup (vs : List HV)
  | sl (k : Tok) (z : Nat) (es : List (List HV))
  | ms (l o n c : Nat)
  | ptr (l o : Nat)
  | ep (cs : List HV) (o : Nat)
  | mp (l : Nat)
  | fn (f : FuncId) (first captured : List HV)
  | ifc (t : TypeId) (x : HV)
  | dp (t z : Nat) (es : List (List HV))
  deriving Inhabited

structure HEntry where
  key : Value
  val : HV
  born : Nat

inductive HObj where
  | row (cs : List HV)
  | tok
  | map (es : List HEntry) (clock : Nat)
  | iter (m : Nat) (since : Nat) (seen : List Nat) (last : Nat)
  | dead

/-- A place's number tells a type, or none. -/
def lt (l : Nat) : Option TypeId := if l - 2 ^ l.log2 = 0 then none else some (l - 2 ^ l.log2 - 1)
theorem lt_fresh (N : Nat) (T : Option TypeId) : ∃ l, N ≤ l ∧ lt l = T := by
  have key : ∀ c : Nat, ∃ l, N ≤ l ∧ l - 2 ^ l.log2 = c := by
    intro c
    have h1 : ∀ k : Nat, k < 2 ^ k := fun k => Nat.lt_two_pow_self
    refine ⟨2 ^ (N + c) + c, ?_, ?_⟩
    · have := h1 (N + c); omega
    · have hc : c < 2 ^ (N + c) := by have := h1 (N + c); omega
      have : (2 ^ (N + c) + c).log2 = N + c := by
        rw [Nat.log2_eq_iff (by omega)]
        refine ⟨by omega, ?_⟩
        rw [Nat.pow_succ]; omega
      rw [this]; omega
  cases T with
  | none =>
    obtain ⟨l, h1, h2⟩ := key 0
    exact ⟨l, h1, by simp [lt, h2]⟩
  | some T =>
    obtain ⟨l, h1, h2⟩ := key (T + 1)
    exact ⟨l, h1, by simp [lt, h2]⟩

def HS := Nat → Option HObj
def HS.set (S : HS) (l : Nat) (o : HObj) : HS := fun k => if k = l then some o else S k

/-! ### values without addresses -/
def plain : Value → Bool
  | .bool _ | .int .. | .float .. | .complex .. | .string _ | .pointer none | .map none | .nilFunc | .nilIface => true
  | _ => false

/-- A leaf (one cell's value) as an HL value. -/
def ofLeaf : Value → HV
  | .slice _ _ _ => .sl .full 0 []
  | .iface t x => .ifc t (.v x)
  | .func (.func f) _ _ => .fn f [] []
  | x => .v x
def okLeaf : Value → Bool
  | .slice none 0 0 => true
  | .slice _ _ _ => false
  | .iface _ x => plain x
  | .func (.func _) fs cs => fs.isEmpty && cs.isEmpty
  | x => plain x
def ofVal : Value → HV
  | .agg vs => .agg (vs.toList.map ofLeaf)
  | .tuple vs => .tup (vs.toList.map ofLeaf)
  | x => ofLeaf x
def okVal : Value → Bool
  | .agg vs => vs.toList.all okLeaf
  | .tuple vs => vs.toList.all okLeaf
  | x => okLeaf x

def leafVal : HV → Option Value
  | .v x => some x
  | .ifc t (.v x) => some (.iface t x)
  | _ => none
def toVal : HV → Option Value
  | .v x => some x
  | .ifc t (.v x) => some (.iface t x)
  | .agg cs => (cs.mapM leafVal).map fun l => .agg l.toArray
  | _ => none

abbrev HV.undef : HV := .tup []
abbrev HV.int (k : IntKind) (n : Int) : HV := .v (.int k n)
abbrev HV.bool (b : Bool) : HV := .v (.bool b)
abbrev HV.str (s : ByteArray) : HV := .v (.string s)

/-- May it be stored? -/
def HV.cellOk : HV → Bool
  | .tup _ => false
  | _ => true

def HV.cells : HV → List HV
  | .agg cs => cs
  | x => [x]

/-! ### a Sem program that looks at tables alone -/
def _root_.Go.Sem.val? {α : Type} (P : Program) : Sem α → Option α
  | .pure a => some a
  | .program k => (k P).val? P
  | .mark _ k => k.val? P
  | _ => none

theorem Sem.val?_run {α : Type} {P : Program} {s : Sem α} {a : α} (h : s.val? P = some a) (w : World) : s.run P w = .ok a w := by
  induction s generalizing w with
  | pure b => simp [Sem.val?] at h; subst h; rfl
  | program k ih => simp only [Sem.val?] at h; simp only [Sem.run]; exact ih P h w
  | mark m k ih => simp only [Sem.val?] at h; simp only [Sem.run]; exact ih h w
  | _ => simp [Sem.val?] at h

theorem Sem.val?_bind {α β : Type} {P : Program} (s : Sem α) (f : α → Sem β) : (s.bind f).val? P = (s.val? P).bind fun a => (f a).val? P := by
  induction s with
  | pure b => simp [Sem.bind, Sem.val?]
  | program k ih => simp only [Sem.bind, Sem.val?]; exact ih P
  | mark m k ih => simp only [Sem.bind, Sem.val?]; exact ih
  | _ => simp [Sem.bind, Sem.val?]

/-! ### types -/
structure TyI where
  agg : Bool
  size : Nat
  bytes : Nat
  zero : List HV

def rowDesc : TypeDesc → Bool
  | .struct _ | .array _ _ => true
  | _ => false
def isAggV : Value → Bool
  | .agg _ => true
  | _ => false
/-- What the operations ask of a type. -/
def tyI (P : Program) (t : TypeId) : Option TyI :=
  match P.info? t, P.underlying t with
  | some i, some d =>
    match i.zero with
    | some z => if z.cells.toList.all okLeaf = true ∧ z.cells.size = i.size ∧ rowDesc d = isAggV z then
        some { agg := rowDesc d, size := i.size, bytes := i.bytes, zero := z.cells.toList.map ofLeaf } else none
    | none => none
  | _, _ => none

/-- The HL value of cells, by type. -/
def joinCells (agg : Bool) (cs : List HV) : Option HV :=
  if agg then some (.agg cs) else match cs with | [x] => some x | _ => none

structure Cfg where
  /-- places (by the operation's position) where a new row is to be mutable -/
  mode : String → Bool
  /-- functions whose results are frozen -/
  frz : FuncId → Bool
  /-- the package-level variables' cells -/
  gl : Nat → List HV
  /-- functions told by a contract that is proved elsewhere -/
  ext : FuncId → List HV → HS → (HV → HS → Prop) → Prop
  /-- functions without a body that only reckon -/
  xt : FuncId → List HV → HV → Prop

abbrev Env := Nat → HV
def Env.put (n : Nat) (env : Env) (d : Option Nat) (x : HV) : Env :=
  match d with
  | some d => fun k => if d < n ∧ k = d then x else env k
  | none => env
def Env.enter (args : List HV) : Env := fun k => (args[k]?).getD .undef

def hev (C : Cfg) (env : Env) : Operand → HV
  | .tmp t => env t
  | .const x => ofVal x
  | .global g => .ep (C.gl g) 0
  | .func f => .fn f [] []

/-! ### memory -/
def hcells (S : HS) : HV → Option (List HV × Nat)
  | .ptr l o => match S l with | some (.row cs) => some (cs, o) | _ => none
  | .ep cs o => some (cs, o)
  | _ => none
def hload (P : Program) (T : TypeId) (S : HS) (x : HV) : Option HV :=
  match tyI P T, hcells S x with
  | some i, some (cs, o) => if i.agg then (if o + i.size ≤ cs.length then some (.agg ((cs.drop o).take i.size)) else none) else cs[o]?
  | _, _ => none
def splice (cs : List HV) (o : Nat) (xs : List HV) : List HV := cs.take o ++ xs ++ cs.drop (o + xs.length)
def hstore (P : Program) (T : TypeId) (S : HS) (x v : HV) : Option HS :=
  match tyI P T, x with
  | some i, .ptr l o => match S l with
    | some (.row cs) => if v.cellOk = true ∧ v.cells.length = i.size ∧ o + i.size ≤ cs.length then some (S.set l (.row (splice cs o v.cells))) else none
    | _ => none
  | _, _ => none

/-- The elements of a slice's value. -/
def chunks (z : Nat) : Nat → List HV → List (List HV)
  | 0, _ => []
  | n + 1, cs => cs.take z :: chunks z n (cs.drop z)
def hrow (z : Nat) (S : HS) : HV → Option (List (List HV))
  | .sl _ z' es => if z' = z ∨ es = [] then some es else none
  | .ms l o n _ => match S l with | some (.row cs) => if o + n * z ≤ cs.length then some (chunks z n (cs.drop o)) else none | _ => none
  | .v (.string s) => if z = 1 then some (s.data.toList.map fun b => [HV.int .u8 b.toNat]) else none
  | _ => none

/-- How much an append or a make may hold, in bytes. -/
def roomy : Nat := 140737488355328

def zeros (n : Nat) (zero : List HV) : List HV := (List.replicate n zero).flatten

def happend (m : Bool) (e : TypeId) (i : TyI) (x : HV) (ys : List (List HV)) (S : HS) (K : HV → HS → Prop) : Prop :=
  if ys = [] then (match x with | .sl .. | .ms .. => K x S | _ => False) else
  match x with
  | .sl k z es =>
    0 < i.size ∧ (es.length + ys.length) * i.bytes ≤ roomy ∧ es.length + ys.length ≤ roomy ∧
    if m then k = .full ∧ (z = i.size ∨ es = []) ∧ ∀ l c, S l = none → es.length + ys.length ≤ c →
      K (.ms l 0 (es.length + ys.length) c) (S.set l (.row (es.flatten ++ ys.flatten ++ zeros (c - (es.length + ys.length)) i.zero)))
    else match k with
      | .full => (z = i.size ∨ es = []) ∧ ∀ t, S t = none → lt t = some e → K (.sl (.live t) i.size (es ++ ys)) (S.set t .tok)
      | .live t0 => z = i.size ∧ S t0 = some .tok ∧ ∀ t, S t = none → (lt t = some e ∨ lt t = lt t0) → K (.sl (.live t) i.size (es ++ ys)) ((S.set t0 .dead).set t .tok)
      | .none => False
  | .ms l o n c => match S l with
    | some (.row cs) => 0 < i.size ∧ o + c * i.size ≤ cs.length ∧ n ≤ c ∧ (n + ys.length) * i.bytes ≤ roomy ∧ n + ys.length ≤ roomy ∧
      if n + ys.length ≤ c then K (.ms l o (n + ys.length) c) (S.set l (.row (splice cs (o + n * i.size) ys.flatten)))
      else ∀ l' c', S l' = none → n + ys.length ≤ c' →
        K (.ms l' 0 (n + ys.length) c') (S.set l' (.row ((cs.drop o).take (n * i.size) ++ ys.flatten ++ zeros (c' - (n + ys.length)) i.zero)))
    | _ => False
  | _ => False

/-! ### operations on plain values -/
def hpure (P : Program) (C : Cfg) (o : Oper) (env : Env) : Option HV :=
  if o.op.operands.toList.all fun x => (toVal (hev C env x)).isSome then
    match (execOp (fun x => (toVal (hev C env x)).getD Go.undef) o).val? P with
    | some (.value x) => if okVal x then some (ofVal x) else none
    | _ => none
  else none

def hfill (place : Nat → Option (Nat × Nat)) (cells : List HV) : List (Nat × HV) → Option (List HV)
  | [] => some cells
  | (i, x) :: rest =>
    match place i with
    | none => none
    | some (off, size) => if x.cellOk = true ∧ x.cells.length = size ∧ off + size ≤ cells.length then hfill place (splice cells off x.cells) rest else none

def structPlaces (P : Program) (T : TypeId) : Option (List (Nat × Nat)) :=
  match P.underlying T with
  | some (.struct fs) => fs.toList.mapM fun f => (P.info? f.type).map fun i => (f.offset, i.size)
  | _ => none

def hbuild (P : Program) (T : TypeId) (parts : List (Nat × HV)) : Option HV :=
  match tyI P T with
  | none => none
  | some i =>
    match P.underlying T with
    | some (.struct _) => match structPlaces P T with
      | some ps => (hfill (ps[·]?) i.zero parts).map .agg
      | none => none
    | some (.array _ e) => match tyI P e with
      | some j => (hfill (fun k => some (k * j.size, j.size)) i.zero parts).map .agg
      | none => none
    | _ => none

def hbuildSlice (P : Program) (T : TypeId) (len : Nat) (parts : List (Nat × HV)) : Option (TyI × List HV) :=
  match P.underlying T with
  | some (.slice e) => match tyI P e with
    | some j => if len * j.size ≤ 2 ^ 24 ∧ 0 < j.size then (hfill (fun k => some (k * j.size, j.size)) (zeros len j.zero) parts).map (j, ·) else none
    | none => none
  | _ => none

/-- '==' where an address, a map, a function or an interface's value is held against nil. -/
def heqNil (P : Program) (T : TypeId) : HV → HV → Option Bool
  | .ptr _ _, .v (.pointer none) | .v (.pointer none), .ptr _ _ | .ep _ _, .v (.pointer none) | .v (.pointer none), .ep _ _ =>
    match P.underlying T with | some (.pointer _) => some false | _ => none
  | .ptr l o, .ptr l' o' => if l = l' then (match P.underlying T with | some (.pointer e) => (match P.info? e with | some i => if i.size ≠ 0 then some (o == o') else none | none => none) | _ => none) else none
  | .mp _, .v (.map none) | .v (.map none), .mp _ => match P.underlying T with | some (.map _ _) => some false | _ => none
  | .fn _ _ _, .v .nilFunc | .v .nilFunc, .fn _ _ _ => match P.underlying T with | some (.func _ _ _) => some false | _ => none
  | .ifc _ _, .v .nilIface | .v .nilIface, .ifc _ _ => match P.underlying T with | some (.interface _) => some false | _ => none
  | _, _ => none

def hint : HV → Option Int
  | .v (.int _ n) => some n
  | _ => none

/-- A slice's bound: a number from 0 to y. -/
def hbound (C : Cfg) (env : Env) (x : Option Operand) (d y : Nat) : Option Nat :=
  match x with
  | none => some d
  | some x => match hint (hev C env x) with
    | some i => if 0 ≤ i ∧ i ≤ y then some i.toNat else none
    | none => none

set_option linter.unusedVariables false
def hslice (P : Program) (C : Cfg) (T : TypeId) (x : HV) (lo hi mx : Option Operand) (env : Env) : Option HV :=
  match P.underlying T with
  | some (.slice e) => match tyI P e, x with
    | some i, .sl k z es =>
      if (mx.isSome ∧ hi.isNone) ∨ ¬ (z = i.size ∨ es = []) then none else
      match hbound C env mx 0 es.length with
      | none => none
      | some m => match hbound C env hi es.length (if mx.isSome then m else es.length) with
        | none => none
        | some h => match hbound C env lo 0 h with
          | none => none
          | some l =>
            let es' := (es.take h).drop l
            let k' := if mx.isSome then (if m = h then .full else .none) else if k = .full then (if h = es.length then .full else .none) else if h = es.length ∧ l < h then k else .none
            some (.sl k' z es')
    | some i, .ms l0 o n c =>
      if mx.isSome ∧ hi.isNone then none else
      match hbound C env mx c c with
      | none => none
      | some m => match hbound C env hi n m with
        | none => none
        | some h => match hbound C env lo 0 h with
          | none => none
          | some l => some (.ms l0 (if m = l then o else o + l * i.size) (h - l) (m - l))
    | _, _ => none
  | _ => none

def hfieldAddr (P : Program) (T : TypeId) (x : HV) (f : Nat) : Option HV :=
  match structPlaces P T with
  | some ps => match ps[f]? with
    | some (off, size) => if size = 0 then none else match x with
      | .ptr l o => some (.ptr l (o + off))
      | .ep cs o => some (.ep cs (o + off))
      | _ => none
    | none => none
  | none => none

def hpart (P : Program) (T : TypeId) (cs : List HV) (off : Nat) : Option HV :=
  match tyI P T with
  | some i => if i.agg then (if off + i.size ≤ cs.length then some (.agg ((cs.drop off).take i.size)) else none) else cs[off]?
  | none => none

def hfield (P : Program) (T : TypeId) (x : HV) (f : Nat) : Option HV :=
  match P.underlying T, x with
  | some (.struct fs), .agg cs => match fs[f]? with
    | some f => hpart P f.type cs f.offset
    | none => none
  | _, _ => none

def hindexAddr (P : Program) (T : TypeId) (x ix : HV) : Option HV :=
  match hint ix with
  | none => none
  | some i => match P.underlying T, x with
    | some (.array len e), .ptr l o => match tyI P e with | some j => if 0 ≤ i ∧ i < len then some (.ptr l (o + i.toNat * j.size)) else none | none => none
    | some (.array len e), .ep cs o => match tyI P e with | some j => if 0 ≤ i ∧ i < len then some (.ep cs (o + i.toNat * j.size)) else none | none => none
    | some (.slice e), .sl _ z es => match tyI P e with
      | some j => if 0 ≤ i ∧ z = j.size then (es[i.toNat]?).map fun c => .ep c 0 else none
      | none => none
    | some (.slice e), .ms l o n _ => match tyI P e with | some j => if 0 ≤ i ∧ i < n then some (.ptr l (o + i.toNat * j.size)) else none | none => none
    | _, _ => none

def hindex (P : Program) (T : TypeId) (x ix : HV) : Option HV :=
  match hint ix with
  | none => none
  | some i => match P.underlying T, x with
    | some (.array len e), .agg cs => match tyI P e with | some j => if 0 ≤ i ∧ i < len then hpart P e cs (i.toNat * j.size) else none | none => none
    | some .string, .v (.string s) => if 0 ≤ i then (s[i.toNat]?).map fun b => .int .u8 b.toNat else none
    | _, _ => none

def hbytes : List (List HV) → Option (List UInt8)
  | [] => some []
  | [.v (.int .u8 n)] :: es => (hbytes es).map (UInt8.ofNat n.toNat :: ·)
  | _ => none

/-! ### maps -/
def keyEq (P : Program) (T : TypeId) (a b : Value) : Option Bool := (Op.equal T a b).val? P
def hfind (P : Program) (T : TypeId) (k : Value) : List HEntry → Option (Option (Nat × HV))
  | [] => some none
  | e :: es => match keyEq P T k e.key with
    | some true => some (some (0, e.val))
    | some false => (hfind P T k es).map (·.map fun (i, x) => (i + 1, x))
    | none => none
def mapTypes (P : Program) (T : TypeId) : Option (TypeId × TypeId) :=
  match P.underlying T with
  | some (.map k e) => some (k, e)
  | _ => none
/-- A key, and where it stands. -/
def hkey (P : Program) (T : TypeId) (es : List HEntry) (k : HV) : Option (Value × Option (Nat × HV)) :=
  match mapTypes P T, toVal k with
  | some (kt, _), some kv => if (P.underlying kt).isNone then none else match (Instr.checkKey es.isEmpty 10000 kt kv).val? P, (Instr.checkKey false 10000 kt kv).val? P, hfind P kt kv es, okVal kv with
    | some (), some (), some r, true => some (kv, r)
    | _, _, _, _ => none
  | _, _ => none

def hlookup (P : Program) (T : TypeId) (x k : HV) (ok : Bool) (S : HS) : Option HV :=
  match mapTypes P T with
  | none => none
  | some (_, e) => match tyI P e with
    | none => none
    | some i =>
      let es : Option (List HEntry) := match x with
        | .v (.map none) => some []
        | .mp l => match S l with | some (.map es _) => some es | _ => none
        | _ => none
      match es with
      | none => none
      | some es => match hkey P T es k with
        | none => none
        | some (_, r) =>
          match (match r with | some (_, x) => some x | none => joinCells i.agg i.zero) with
          | some x => some (if ok then .tup [x, .bool r.isSome] else x)
          | none => none

def hmapUpdate (P : Program) (T : TypeId) (m k x : HV) (S : HS) : Option HS :=
  match m with
  | .mp l => match S l with
    | some (.map es clock) => match hkey P T es k with
      | none => none
      | some (kv, some (i, _)) => if Instr.sameBits 10000 (((es[i]?).map (·.key)).getD kv) kv then some (S.set l (.map (es.modify i fun e => { e with key := kv, val := x }) clock)) else none
      | some (kv, none) => some (S.set l (.map (es ++ [{ key := kv, val := x, born := clock }]) (clock + 1)))
    | _ => none
  | _ => none

def hdelete (P : Program) (T : TypeId) (m k : HV) (S : HS) : Option HS :=
  match m with
  | .mp l => match S l with
    | some (.map es clock) => match hkey P T es k with
      | none => none
      | some (_, some (i, _)) => some (S.set l (.map (es.eraseIdx i) clock))
      | some (_, none) => some (S.set l (.map es clock))
    | _ => none
  | _ => none

def hnext (x : HV) (S : HS) (K : HV → HS → Prop) : Prop :=
  match x with
  | .ptr r 0 => match S r with
    | some (.iter m since seen last) => match S m with
      | some (.map es clock) =>
        (!seen.isEmpty && !es.isEmpty && es.all (·.born ≥ last)) = false ∧
        let left := es.filter fun e => !seen.contains e.born
        let old := left.filter (·.born < since)
        let new := left.filter (·.born ≥ since)
        (old = [] → K (.tup [.bool false]) S) ∧
        ∀ e ∈ old ++ new, K (.tup [.bool true, ofVal e.key, e.val]) (S.set r (.iter m since (seen ++ [e.born]) clock))
      | _ => False
    | _ => False
  | _ => False

def hentry (x : HV) (S : HS) : Option HV :=
  match x with
  | .ptr r 0 => match S r with
    | some (.iter m _ seen last) => match S m with
      | some (.map es clock) => if clock = last then match seen.getLast? with
          | some b => match es.find? (·.born == b) with
            | some e => some (.tup [ofVal e.key, e.val])
            | none => none
          | none => none
        else none
      | _ => none
    | _ => none
  | _ => none

/-! ### builtins -/
def hlen (S : HS) : HV → Option Nat
  | .sl _ _ es => some es.length
  | .ms _ _ n _ => some n
  | .mp l => match S l with | some (.map es _) => some es.length | _ => none
  | .v (.string s) => some s.size
  | .v (.map none) => some 0
  | _ => none

def lenFits (P : Program) (T : TypeId) : HV → Bool
  | .sl .. | .ms .. => match P.underlying T with | some (.slice _) => true | _ => false
  | .mp _ | .v (.map none) => match P.underlying T with | some (.map _ _) => true | _ => false
  | .v (.string _) => match P.underlying T with | some .string => true | _ => false
  | _ => false

def sliceElem (P : Program) (T : TypeId) : Option TyI :=
  match P.underlying T with
  | some (.slice e) => tyI P e
  | _ => none
def elemTy (P : Program) (T : TypeId) : TypeId :=
  match P.underlying T with
  | some (.slice e) => e
  | _ => 0

def srcKind (P : Program) (T : TypeId) : Bool := match P.underlying T with | some (.slice _) | some .string => true | _ => false

def some? {α : Type} (o : Option α) (K : α → Prop) : Prop :=
  match o with
  | some x => K x
  | none => False

def hbuiltin (P : Program) (C : Cfg) (o : Oper) (b : Builtin) (ts : Array TypeId) (args : List HV) (env : Env) (S : HS) (K : HV → HS → Prop) : Prop :=
  match b, ts.toList, args with
  | .len, [T], [x] => lenFits P T x = true ∧ some? (hlen S x) fun n => K (.int .i64 n) S
  | .cap, [T], [.ms _ _ _ c] => (sliceElem P T).isSome ∧ K (.int .i64 c) S
  | .append, T :: T' :: [], [x, y] =>
    some? (sliceElem P T) fun i => srcKind P T' = true ∧
    some? (hrow i.size S y) fun ys => (∀ e ∈ ys, e.length = i.size) ∧ happend (C.mode o.pos) (elemTy P T) i x ys S K
  | .copy, [T, _], [.ms l p n _, y] =>
    some? (sliceElem P T) fun i => some? (hrow i.size S y) fun ys => match S l with
      | some (.row cs) => 0 < i.size ∧ p + n * i.size ≤ cs.length ∧ (∀ e ∈ ys, e.length = i.size) ∧
        K (.int .i64 (min ys.length n)) (S.set l (.row (splice cs p (ys.take n).flatten)))
      | _ => False
  | .clear, [T], [.ms l p n _] => some? (sliceElem P T) fun i => match S l with
      | some (.row cs) => 0 < i.size ∧ p + n * i.size ≤ cs.length ∧ K .undef (S.set l (.row (splice cs p (zeros n i.zero))))
      | _ => False
  | .delete, [T, _], [m, k] => some? (hdelete P T m k S) fun S' => K .undef S'
  | .unsafeSliceData, [_], [.sl k z es] => if es = [] then (k = .full ∧ z = 0 ∧ K (.v (.pointer none)) S) else (match k with | .live t => K (.dp t z es) S | _ => False)
  | .unsafeString, [T, _], [.dp t z es, .v (.int .i64 n)] => es ≠ [] ∧ n = es.length ∧ z = 1 ∧ es.length ≤ roomy ∧ S t = some .tok ∧
      (match P.underlying T with | some (.pointer e) => lt t = some e ∧ (match tyI P e with | some i => i.size = 1 | none => False) | _ => False) ∧
      some? (hbytes es) fun bs => K (.str ⟨bs.toArray⟩) S
  | .unsafeString, [_, _], [.v (.pointer none), .v (.int .i64 n)] => n = 0 ∧ K (.str .empty) S
  | .min, _, _ | .max, _, _ | .complex, _, _ | .real, _, _ | .imag, _, _ => some? (hpure P C o env) fun x => K x S
  | _, _, _ => False

/-! ### one operation that is no call of a function -/
def hop (P : Program) (C : Cfg) (o : Oper) (env : Env) (S : HS) (K : HV → HS → Prop) : Prop :=
  match o.op with
  | .move x | .assign x => K (hev C env x) S
  | .pick c a b => match hev C env c with
    | .v (.bool t) => K (if t then hev C env a else hev C env b) S
    | _ => False
  | .alloc T => some? (tyI P T) fun i => ∀ l, S l = none → lt l = some T → K (.ptr l 0) (S.set l (.row i.zero))
  | .box _ x => (hev C env x).cellOk = true ∧ ∀ l, S l = none → K (.ptr l 0) (S.set l (.row (hev C env x).cells))
  | .build T parts => some? (hbuild P T (parts.toList.map fun (i, x) => (i, hev C env x))) fun x => K x S
  | .buildSlice T len parts => some? (hbuildSlice P T len (parts.toList.map fun (i, x) => (i, hev C env x))) fun (i, cs) =>
      if C.mode o.pos then ∀ l, S l = none → K (.ms l 0 len len) (S.set l (.row cs)) else K (.sl .full i.size (chunks i.size len cs)) S
  | .load T a => some? (hload P T S (hev C env a)) fun x => K x S
  | .store T a x => some? (hstore P T S (hev C env a) (hev C env x)) fun S' => K .undef S'
  | .nilCheck x => match hev C env x with
    | .ptr .. | .ep .. | .fn .. => K (hev C env x) S
    | _ => False
  | .binOp .eql T x y _ => match heqNil P T (hev C env x) (hev C env y) with
    | some b => K (.bool b) S
    | none => some? (hpure P C o env) fun v => K v S
  | .binOp .neq T x y _ => match heqNil P T (hev C env x) (hev C env y) with
    | some b => K (.bool !b) S
    | none => some? (hpure P C o env) fun v => K v S
  | .binOp .. | .unOp .. => some? (hpure P C o env) fun v => K v S
  | .convert src dst x => match P.underlying dst, hev C env x with
    | some (.slice e), .v (.string s) => (P.underlying src).isSome = true ∧ (match P.underlying e with | some (.int .u8) => True | _ => False) ∧
        (if C.mode o.pos then ∀ l c, S l = none → s.size ≤ c → K (.ms l 0 s.size c) (S.set l (.row ((s.data.toList.map fun b => HV.int .u8 b.toNat) ++ List.replicate (c - s.size) (.int .u8 0))))
         else ∀ t, S t = none → K (.sl (.live t) 1 (s.data.toList.map fun b => [HV.int .u8 b.toNat])) (S.set t .tok))
    | some .string, .v (.string _) => some? (hpure P C o env) fun v => K v S
    | some .unsafePointer, .ptr l q => match P.underlying src, S l with
      | some (.pointer t), some (.row cs) => q < cs.length ∧ (match tyI P t with | some i => 0 < i.size | none => False) ∧ K (.ptr l q) S
      | _, _ => False
    | some (.pointer u), .ptr l q => P.underlying src = some .unsafePointer ∧ q = 0 ∧ lt l = some u ∧ (match S l, tyI P u with | some (.row cs), some i => cs.length = i.size ∧ 0 < i.size | _, _ => False) ∧ K (.ptr l 0) S
    | some .string, .v (.int _ _) => some? (hpure P C o env) fun v => K v S
    | some .string, x => (match P.underlying src with | some (.slice e) => (match P.underlying e with | some (.int .u8) => True | _ => False) | _ => False) ∧
        (match x with
         | .sl .. | .ms .. => some? (hrow 1 S x) fun es => some? (hbytes es) fun bs => K (.str ⟨bs.toArray⟩) S
         | _ => False)
    | _, _ => some? (hpure P C o env) fun v => K v S
  | .makeInterface T x => (match P.underlying T with | some (.interface _) => False | none => False | _ => True) ∧ K (.ifc T (hev C env x)) S
  | .makeFunc (.func f) first captured => K (.fn f (first.toList.map (hev C env)) (captured.toList.map (hev C env))) S
  | .makeMap _ none => ∀ l, S l = none → K (.mp l) (S.set l (.map [] 0))
  | .makeSlice T l c => some? (sliceElem P T) fun i => some? (hint (hev C env l)) fun l => some? (hint (hev C env c)) fun c =>
      0 ≤ l ∧ l ≤ c ∧ c.toNat * i.bytes ≤ roomy ∧ c ≤ 4611686018427387904 ∧ ∀ r, S r = none → K (.ms r 0 l.toNat c.toNat) (S.set r (.row (zeros c.toNat i.zero)))
  | .slice T x lo hi mx => match hev C env x with
    | .v (.string _) => some? (hpure P C o env) fun v => K v S
    | h => some? (hslice P C T h lo hi mx env) fun v => K v S
  | .fieldAddr T x f => some? (hfieldAddr P T (hev C env x) f) fun v => K v S
  | .field T x f => some? (hfield P T (hev C env x) f) fun v => K v S
  | .indexAddr T x i => some? (hindexAddr P T (hev C env x) (hev C env i)) fun v => K v S
  | .index T x i => some? (hindex P T (hev C env x) (hev C env i)) fun v => K v S
  | .lookup T x k ok => some? (hlookup P T (hev C env x) (hev C env k) ok S) fun v => K v S
  | .mapUpdate T m k x | .insert T m k x => some? (hmapUpdate P T (hev C env m) (hev C env k) (hev C env x) S) fun S' => K .undef S'
  | .range T x => match hev C env x with
    | .mp m => match mapTypes P T, S m with
      | some _, some (.map _ clock) => ∀ r, S r = none → K (.ptr r 0) (S.set r (.iter m clock [] clock))
      | _, _ => False
    | _ => False
  | .next it false => hnext (hev C env it) S K
  | .entry it => some? (hentry (hev C env it) S) fun v => K v S
  | .extract t i => match hev C env t with
    | .tup vs => some? (vs[i]?) fun v => K v S
    | _ => False
  | .call c => match c.callee with
    | .builtin b => hbuiltin P C o b c.argTypes (c.args.toList.map (hev C env)) env S K
    | _ => False
  | _ => False

end Go.HL
