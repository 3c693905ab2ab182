import Derived.Test.YtemjmjacmokidaaDoorH17
import Derived.Laws.Strings
set_option linter.all false
/-! HL, part 18: the operations' equations. -/
namespace Go.HL
open Go
variable {P : Program} {C : Cfg}

section
variable {d : Option Nat} {ty : TypeId} {pos : String} {af : Array Edge} {g : Option (Nat × Bool)} {env : Env} {S : HS} {R : HV → HS → Prop}

def pickV (c a b : HV) : Option HV := match c with | .v (.bool t) => some (if t then a else b) | _ => none
theorem pickV_true {a b : HV} : pickV (.v (.bool true)) a b = some a := hide rfl
theorem pickV_false {a b : HV} : pickV (.v (.bool false)) a b = some b := hide rfl
theorem pickV_bool {t : Bool} {a b : HV} : pickV (.v (.bool t)) a b = some (if t = true then a else b) := hide rfl
def nilCheckV (a : HV) : Option HV := match a with | .ptr .. | .ep .. | .fn .. => some a | _ => none
theorem nilCheckV_ptr {l o : Nat} : nilCheckV (.ptr l o) = some (.ptr l o) := hide rfl
theorem nilCheckV_ep {l : List HV} {o : Nat} : nilCheckV (.ep l o) = some (.ep l o) := hide rfl
theorem nilCheckV_fn {f : FuncId} {l l' : List HV} : nilCheckV (.fn f l l') = some (.fn f l l') := hide rfl
def extractV (a : HV) (i : Nat) : Option HV := match a with | .tup vs => vs[i]? | _ => none
theorem extractV_tup {vs : List HV} {i : Nat} : extractV (.tup vs) i = vs[i]? := hide rfl
def binH (P : Program) (op : BinOp) (T : TypeId) (x y : Operand) (a b : HV) : Option HV :=
  match op with
  | .eql => match heqNil P T a b with | some t => some (.bool t) | none => binPure P op T x y a b
  | .neq => match heqNil P T a b with | some t => some (.bool !t) | none => binPure P op T x y a b
  | _ => binPure P op T x y a b
def unH (P : Program) (op : UnOp) (a : HV) : Option HV := match toVal a with | some a => hvOf P (Op.unary op a) | none => none
def convPure (P : Program) (src dst : TypeId) (a : HV) : Option HV := match toVal a with | some a => hvOf P (convert src dst a) | none => none

def moveK (x : HV) (R : HV → HS → Prop) (S : HS) : Prop := R x S
theorem moveK_eq {x : HV} {R : HV → HS → Prop} {S : HS} : moveK x R S = R x S := hide rfl
theorem moveK_congr {x x' : HV} {R : HV → HS → Prop} {S : HS} (h : x = x') : moveK x R S = moveK x' R S := by rw [h]
def boxK (x : HV) (R : HV → HS → Prop) (S : HS) : Prop := x.cellOk = true ∧ ∀ l, S l = none → R (.ptr l 0) (S.set l (.row x.cells))
theorem boxK_eq {x : HV} {R : HV → HS → Prop} {S : HS} : boxK x R S = (x.cellOk = true ∧ ∀ l, S l = none → R (.ptr l 0) (S.set l (.row x.cells))) := hide rfl
theorem boxK_congr {x x' : HV} {R : HV → HS → Prop} {S : HS} (h : x = x') : boxK x R S = boxK x' R S := by rw [h]
theorem opK_move {x : Operand} : opK P C ⟨d, .move x, ty, pos, af, g⟩ env S R = moveK (ev (hev C env x)) R S := hide rfl
theorem opK_assign {x : Operand} : opK P C ⟨d, .assign x, ty, pos, af, g⟩ env S R = moveK (ev (hev C env x)) R S := hide rfl
theorem opK_pick {c a b : Operand} : opK P C ⟨d, .pick c a b, ty, pos, af, g⟩ env S R = someS (ev (pickV (hev C env c) (hev C env a) (hev C env b))) R S := by
  simp only [ev_eq, opK, hop]
  cases hev C env c with
  | v x => cases x <;> rfl
  | _ => rfl
theorem opK_alloc {T : TypeId} : opK P C ⟨d, .alloc T, ty, pos, af, g⟩ env S R = allocK T (ev (tyI P T)) R S := hide rfl
theorem opK_box {T : TypeId} {x : Operand} : opK P C ⟨d, .box T x, ty, pos, af, g⟩ env S R = boxK (ev (hev C env x)) R S := hide rfl
theorem opK_build {T : TypeId} {parts : Array (Nat × Operand)} : opK P C ⟨d, .build T parts, ty, pos, af, g⟩ env S R = someS (ev (hbuild P T (parts.toList.map fun (i, x) => (i, hev C env x)))) R S := hide rfl
theorem opK_buildSlice {T : TypeId} {len : Nat} {parts : Array (Nat × Operand)} : opK P C ⟨d, .buildSlice T len parts, ty, pos, af, g⟩ env S R =
    some? (ev (hbuildSlice P T len (parts.toList.map fun (i, x) => (i, hev C env x)))) fun (i, cs) =>
      if C.mode pos then ∀ l, S l = none → R (.ms l 0 len len) (S.set l (.row cs)) else R (.sl .full i.size (chunks i.size len cs)) S := hide rfl
theorem opK_load {T : TypeId} {a : Operand} : opK P C ⟨d, .load T a, ty, pos, af, g⟩ env S R = someS (ev (hload P T S (hev C env a))) R S := hide rfl
theorem opK_store {T : TypeId} {a x : Operand} : opK P C ⟨d, .store T a x, ty, pos, af, g⟩ env S R = storeK (ev (hstore P T S (hev C env a) (hev C env x))) R := hide rfl
theorem opK_nilCheck {x : Operand} : opK P C ⟨d, .nilCheck x, ty, pos, af, g⟩ env S R = someS (ev (nilCheckV (hev C env x))) R S := by
  simp only [ev_eq, opK, hop, nilCheckV]
  cases hev C env x <;> rfl
theorem opK_bin {op : BinOp} {T r : TypeId} {x y : Operand} : opK P C ⟨d, .binOp op T x y r, ty, pos, af, g⟩ env S R = someS (ev (binH P op T x y (hev C env x) (hev C env y))) R S := by
  cases op <;> simp only [ev_eq, opK, hop, binH, hpure_bin] <;> (cases heqNil P T (hev C env x) (hev C env y) <;> rfl)
theorem opK_un {op : UnOp} {T : TypeId} {x : Operand} : opK P C ⟨d, .unOp op T x, ty, pos, af, g⟩ env S R = someS (ev (unH P op (hev C env x))) R S := by
  simp only [ev_eq, opK, hop]
  have : hpure P C ⟨d, .unOp op T x, ty, pos, af, g⟩ env = unH P op (hev C env x) := by
    unfold hpure unH
    simp only [Op.operands]
    cases hx : toVal (hev C env x) with
    | none => simp [hx]
    | some a =>
      simp only [List.all_cons, hx, Option.isSome_some, List.all_nil, Bool.and_self, if_true, execOp, Option.getD_some]
      unfold hvOf
      simp only [bind, Sem.val?_bind]
      cases Sem.val? P (Op.unary op a) <;> rfl
  rw [this]
  rfl
theorem hpure_conv {src dst : TypeId} {x : Operand} : hpure P C ⟨d, .convert src dst x, ty, pos, af, g⟩ env = convPure P src dst (hev C env x) := by
  unfold hpure convPure
  simp only [Op.operands]
  cases hx : toVal (hev C env x) with
  | none => simp [hx]
  | some a =>
    simp only [List.all_cons, hx, Option.isSome_some, List.all_nil, Bool.and_self, if_true, execOp, Option.getD_some]
    unfold hvOf
    simp only [bind, Sem.val?_bind]
    cases Sem.val? P (Go.convert src dst a) <;> rfl
/-- A conversion, by its value. -/
def convK (P : Program) (C : Cfg) (pos : String) (src dst : TypeId) (x : HV) (S : HS) (K : HV → HS → Prop) : Prop :=
  match P.underlying dst, x with
    | some (.slice e), .v (.string s) => (P.underlying src).isSome = true ∧ (match P.underlying e with | some (.int .u8) => True | _ => False) ∧
        (if C.mode pos then ∀ l c, S l = none → s.size ≤ c → K (.ms l 0 s.size c) (S.set l (.row ((s.data.toList.map fun b => HV.int .u8 b.toNat) ++ List.replicate (c - s.size) (.int .u8 0))))
         else ∀ t, S t = none → K (.sl (.live t) 1 (s.data.toList.map fun b => [HV.int .u8 b.toNat])) (S.set t .tok))
    | some .string, .v (.string s) => some? (convPure P src dst (.v (.string s))) fun v => K v S
    | some .unsafePointer, .ptr l q => match P.underlying src, S l with
      | some (.pointer t), some (.row cs) => q < cs.length ∧ (match tyI P t with | some i => 0 < i.size | none => False) ∧ K (.ptr l q) S
      | _, _ => False
    | some (.pointer u), .ptr l q => P.underlying src = some .unsafePointer ∧ q = 0 ∧ lt l = some u ∧ (match S l, tyI P u with | some (.row cs), some i => cs.length = i.size ∧ 0 < i.size | _, _ => False) ∧ K (.ptr l 0) S
    | some .string, .v (.int k n) => some? (convPure P src dst (.v (.int k n))) fun v => K v S
    | some .string, x => (match P.underlying src with | some (.slice e) => (match P.underlying e with | some (.int .u8) => True | _ => False) | _ => False) ∧
        (match x with
         | .sl .. | .ms .. => some? (hrow 1 S x) fun es => some? (hbytes es) fun bs => K (.str ⟨bs.toArray⟩) S
         | _ => False)
    | _, x => some? (convPure P src dst x) fun v => K v S
theorem opK_convert {src dst : TypeId} {x : Operand} : opK P C ⟨d, .convert src dst x, ty, pos, af, g⟩ env S R = convK P C pos src dst (ev (hev C env x)) S R := by
  simp only [ev_eq, opK, hop, convK, hpure_conv]
  cases P.underlying dst with
  | none => rfl
  | some t =>
    cases hx : hev C env x with
    | v y => cases y <;> cases t <;> rfl
    | _ => cases t <;> rfl
theorem convK_congr {src dst : TypeId} {x x' : HV} (h : x = x') : convK P C pos src dst x S R = convK P C pos src dst x' S R := by rw [h]
theorem opK_iface {T : TypeId} {x : Operand} : opK P C ⟨d, .makeInterface T x, ty, pos, af, g⟩ env S R =
    ((match P.underlying T with | some (.interface _) => False | none => False | _ => True) ∧ moveK (ev (.ifc T (hev C env x))) R S) := hide rfl
theorem opK_func {f : FuncId} {first captured : Array Operand} : opK P C ⟨d, .makeFunc (.func f) first captured, ty, pos, af, g⟩ env S R = moveK (ev (.fn f (first.toList.map (hev C env)) (captured.toList.map (hev C env)))) R S := hide rfl
theorem opK_makeMap {T : TypeId} : opK P C ⟨d, .makeMap T none, ty, pos, af, g⟩ env S R = ∀ l, S l = none → R (.mp l) (S.set l (.map [] 0)) := hide rfl
theorem opK_makeSlice {T : TypeId} {l c : Operand} : opK P C ⟨d, .makeSlice T l c, ty, pos, af, g⟩ env S R =
    some? (ev (sliceElem P T)) fun i => some? (ev (hint (hev C env l))) fun l => some? (ev (hint (hev C env c))) fun c =>
      0 ≤ l ∧ l ≤ c ∧ c.toNat * i.bytes ≤ roomy ∧ c ≤ 4611686018427387904 ∧ ∀ r, S r = none → R (.ms r 0 l.toNat c.toNat) (S.set r (.row (zeros c.toNat i.zero))) := hide rfl
theorem opK_fieldAddr {T : TypeId} {x : Operand} {f : Nat} : opK P C ⟨d, .fieldAddr T x f, ty, pos, af, g⟩ env S R = someS (ev (hfieldAddr P T (hev C env x) f)) R S := hide rfl
theorem opK_field {T : TypeId} {x : Operand} {f : Nat} : opK P C ⟨d, .field T x f, ty, pos, af, g⟩ env S R = someS (ev (hfield P T (hev C env x) f)) R S := hide rfl
theorem opK_indexAddr {T : TypeId} {x i : Operand} : opK P C ⟨d, .indexAddr T x i, ty, pos, af, g⟩ env S R = someS (ev (hindexAddr P T (hev C env x) (hev C env i))) R S := hide rfl
theorem opK_index {T : TypeId} {x i : Operand} : opK P C ⟨d, .index T x i, ty, pos, af, g⟩ env S R = someS (ev (hindex P T (hev C env x) (hev C env i))) R S := hide rfl
theorem opK_lookup {T : TypeId} {x k : Operand} {ok : Bool} : opK P C ⟨d, .lookup T x k ok, ty, pos, af, g⟩ env S R = someS (ev (hlookup P T (hev C env x) (hev C env k) ok S)) R S := hide rfl
theorem opK_mapUpdate {T : TypeId} {m k x : Operand} : opK P C ⟨d, .mapUpdate T m k x, ty, pos, af, g⟩ env S R = storeK (ev (hmapUpdate P T (hev C env m) (hev C env k) (hev C env x) S)) R := hide rfl
theorem opK_insert {T : TypeId} {m k x : Operand} : opK P C ⟨d, .insert T m k x, ty, pos, af, g⟩ env S R = storeK (ev (hmapUpdate P T (hev C env m) (hev C env k) (hev C env x) S)) R := hide rfl
theorem opK_extract {x : Operand} {i : Nat} : opK P C ⟨d, .extract x i, ty, pos, af, g⟩ env S R = someS (ev (extractV (hev C env x) i)) R S := by
  simp only [ev_eq, opK, hop, extractV]
  cases hev C env x <;> rfl
theorem opK_call {f : Operand} {args : Array Operand} {ts : Array TypeId} : opK P C ⟨d, .call ⟨.value f, args, ts⟩, ty, pos, af, g⟩ env S R = fnK P C (ev (hev C env f)) (args.toList.map (hev C env)) S R := hide rfl
theorem opK_next {x : Operand} : opK P C ⟨d, .next x false, ty, pos, af, g⟩ env S R = hnext (ev (hev C env x)) S R := hide rfl
theorem opK_entry {x : Operand} : opK P C ⟨d, .entry x, ty, pos, af, g⟩ env S R = someS (ev (hentry (hev C env x) S)) R S := hide rfl
/-- The bounds of a slice. -/
def bnd (x : Option HV) (d y : Nat) : Option Nat :=
  match x with
  | none => some d
  | some x => match hint x with
    | some i => if 0 ≤ i ∧ i ≤ y then some i.toNat else none
    | none => none
theorem hbound_bnd {x : Option Operand} {d y : Nat} : hbound C env x d y = bnd (x.map (hev C env)) d y := by cases x <;> rfl
def strSlice (s : ByteArray) (lo hi : Option HV) : Option HV :=
  match bnd hi s.size s.size with
  | none => none
  | some h => match bnd lo 0 h with
    | none => none
    | some l => some (.str (s.extract l h))
theorem opK_len {x : Operand} {T : TypeId} : opK P C ⟨d, .call ⟨.builtin .len, #[x], #[T]⟩, ty, pos, af, g⟩ env S R = (lenFits P T (hev C env x) = true ∧ some? (ev (hlen S (hev C env x))) fun n => R (.int .i64 n) S) := hide rfl
theorem opK_append {x y : Operand} {T T' : TypeId} : opK P C ⟨d, .call ⟨.builtin .append, #[x, y], #[T, T']⟩, ty, pos, af, g⟩ env S R =
    some? (ev (sliceElem P T)) fun i => srcKind P T' = true ∧ some? (ev (hrow i.size S (hev C env y))) fun ys => (∀ e ∈ ys, e.length = i.size) ∧ happend (C.mode pos) (elemTy P T) i (hev C env x) ys S R := hide rfl
theorem opK_copy {x y : Operand} {T T' : TypeId} : opK P C ⟨d, .call ⟨.builtin .copy, #[x, y], #[T, T']⟩, ty, pos, af, g⟩ env S R =
    hbuiltin P C ⟨d, .call ⟨.builtin .copy, #[x, y], #[T, T']⟩, ty, pos, af, g⟩ .copy #[T, T'] [hev C env x, hev C env y] env S R := hide rfl
theorem opK_sliceData {x : Operand} {T : TypeId} : opK P C ⟨d, .call ⟨.builtin .unsafeSliceData, #[x], #[T]⟩, ty, pos, af, g⟩ env S R =
    hbuiltin P C ⟨d, .call ⟨.builtin .unsafeSliceData, #[x], #[T]⟩, ty, pos, af, g⟩ .unsafeSliceData #[T] [hev C env x] env S R := hide rfl
theorem opK_unsafeString {x y : Operand} {T T' : TypeId} : opK P C ⟨d, .call ⟨.builtin .unsafeString, #[x, y], #[T, T']⟩, ty, pos, af, g⟩ env S R =
    hbuiltin P C ⟨d, .call ⟨.builtin .unsafeString, #[x, y], #[T, T']⟩, ty, pos, af, g⟩ .unsafeString #[T, T'] [hev C env x, hev C env y] env S R := hide rfl
theorem opK_delete {x y : Operand} {T T' : TypeId} : opK P C ⟨d, .call ⟨.builtin .delete, #[x, y], #[T, T']⟩, ty, pos, af, g⟩ env S R =
    storeK (ev (hdelete P T (hev C env x) (hev C env y) S)) R := hide rfl
end

/-! ### values -/
section
variable {T : TypeId} {x y : Operand} {k : IntKind} {a b : Int}
theorem binPure_int {op : BinOp} : binPure P op T x y (.v (.int k a)) (.v (.int k b)) = hvOf P (binOp op T (.int k a) (.int k b)) := by
  unfold binPure hvOf
  simp only [toVal]
  cases op <;> rfl
theorem bin_lss : binH P .lss T x y (.v (.int k a)) (.v (.int k b)) = some (.v (.bool (decide (a < b)))) := by
  simp [binH, heqNil, binPure_int, hvOf, binOp, Op.intCmp, Op.intArith, Op.intDiv, Op.shift, Op.stringOp, Sem.val?, okVal, ofVal, okLeaf, ofLeaf, plain, pure]
theorem bin_leq : binH P .leq T x y (.v (.int k a)) (.v (.int k b)) = some (.v (.bool (decide (a ≤ b)))) := by
  simp [binH, heqNil, binPure_int, hvOf, binOp, Op.intCmp, Op.intArith, Op.intDiv, Op.shift, Op.stringOp, Sem.val?, okVal, ofVal, okLeaf, ofLeaf, plain, pure]
theorem bin_gtr : binH P .gtr T x y (.v (.int k a)) (.v (.int k b)) = some (.v (.bool (decide (b < a)))) := by
  simp [binH, heqNil, binPure_int, hvOf, binOp, Op.intCmp, Op.intArith, Op.intDiv, Op.shift, Op.stringOp, Sem.val?, okVal, ofVal, okLeaf, ofLeaf, plain, pure]
theorem bin_geq : binH P .geq T x y (.v (.int k a)) (.v (.int k b)) = some (.v (.bool (decide (b ≤ a)))) := by
  simp [binH, heqNil, binPure_int, hvOf, binOp, Op.intCmp, Op.intArith, Op.intDiv, Op.shift, Op.stringOp, Sem.val?, okVal, ofVal, okLeaf, ofLeaf, plain, pure]
theorem bin_eql : binH P .eql T x y (.v (.int k a)) (.v (.int k b)) = some (.v (.bool (decide (a = b)))) := by
  simp [binH, heqNil, binPure_int, hvOf, binOp, Op.intCmp, Op.intArith, Op.intDiv, Op.shift, Op.stringOp, Sem.val?, okVal, ofVal, okLeaf, ofLeaf, plain, pure]
  <;> rfl
theorem bin_neq : binH P .neq T x y (.v (.int k a)) (.v (.int k b)) = some (.v (.bool (!decide (a = b)))) := by
  simp [binH, heqNil, binPure_int, hvOf, binOp, Op.intCmp, Op.intArith, Op.intDiv, Op.shift, Op.stringOp, Sem.val?, okVal, ofVal, okLeaf, ofLeaf, plain, pure]
  by_cases h : a = b <;> simp [h]
theorem bin_add : binH P .add T x y (.v (.int k a)) (.v (.int k b)) = some (.v (.int k (k.wrap (a + b)))) := by
  simp [binH, heqNil, binPure_int, hvOf, binOp, Op.intCmp, Op.intArith, Op.intDiv, Op.shift, Op.stringOp, Sem.val?, okVal, ofVal, okLeaf, ofLeaf, plain, pure]
theorem bin_sub : binH P .sub T x y (.v (.int k a)) (.v (.int k b)) = some (.v (.int k (k.wrap (a - b)))) := by
  simp [binH, heqNil, binPure_int, hvOf, binOp, Op.intCmp, Op.intArith, Op.intDiv, Op.shift, Op.stringOp, Sem.val?, okVal, ofVal, okLeaf, ofLeaf, plain, pure]
theorem bin_mul : binH P .mul T x y (.v (.int k a)) (.v (.int k b)) = some (.v (.int k (k.wrap (a * b)))) := by
  simp [binH, heqNil, binPure_int, hvOf, binOp, Op.intCmp, Op.intArith, Op.intDiv, Op.shift, Op.stringOp, Sem.val?, okVal, ofVal, okLeaf, ofLeaf, plain, pure]
theorem bin_quo (hb : b ≠ 0) : binH P .quo T x y (.v (.int k a)) (.v (.int k b)) = some (.v (.int k (k.wrap (a.tdiv b)))) := by
  simp [binH, heqNil, binPure_int, hvOf, binOp, Op.intCmp, Op.intArith, Op.intDiv, Op.shift, Op.stringOp, Sem.val?, okVal, ofVal, okLeaf, ofLeaf, plain, pure, hb]
theorem bin_rem (hb : b ≠ 0) : binH P .rem T x y (.v (.int k a)) (.v (.int k b)) = some (.v (.int k (a.tmod b))) := by
  simp [binH, heqNil, binPure_int, hvOf, binOp, Op.intCmp, Op.intArith, Op.intDiv, Op.shift, Op.stringOp, Sem.val?, okVal, ofVal, okLeaf, ofLeaf, plain, pure, hb]
theorem bin_shl {k' : IntKind} (hb : 0 ≤ b) : binH P .shl T x y (.v (.int k a)) (.v (.int k' b)) = some (.v (.int k (k.wrap (a * 2 ^ min b.toNat k.bits)))) := by
  simp [binH, binPure, toVal, eqGuard, hvOf, binOp, Op.shift, Sem.val?, okVal, ofVal, okLeaf, ofLeaf, plain, pure, bind, Sem.bind, show ¬ b < 0 by omega]
theorem bin_shr {k' : IntKind} (hb : 0 ≤ b) : binH P .shr T x y (.v (.int k a)) (.v (.int k' b)) = some (.v (.int k (a.fdiv (2 ^ min b.toNat k.bits)))) := by
  simp [binH, binPure, toVal, eqGuard, hvOf, binOp, Op.shift, Sem.val?, okVal, ofVal, okLeaf, ofLeaf, plain, pure, bind, Sem.bind, show ¬ b < 0 by omega]
theorem binPure_str {op : BinOp} {s t : ByteArray} : binPure P op T x y (.v (.string s)) (.v (.string t)) = hvOf P (binOp op T (.string s) (.string t)) := by
  unfold binPure hvOf
  simp only [toVal]
  cases op <;> rfl
theorem bytes_beq (s t : ByteArray) : (s.toList == t.toList) = decide (s = t) := by
  rw [ByteArray.toList_eq, ByteArray.toList_eq]
  by_cases h : s = t
  · subst h; simp
  · have : ¬ s.data = t.data := fun e => h (by cases s; cases t; simpa using e)
    simp [h, this]
theorem bin_str_eql {s t : ByteArray} : binH P .eql T x y (.v (.string s)) (.v (.string t)) = some (.v (.bool (decide (s = t)))) := by
  rw [← bytes_beq]
  simp [binH, heqNil, binPure_str, hvOf, binOp, Op.stringOp, Sem.val?, okVal, ofVal, okLeaf, ofLeaf, plain, pure]
theorem bin_str_neq {s t : ByteArray} : binH P .neq T x y (.v (.string s)) (.v (.string t)) = some (.v (.bool (!decide (s = t)))) := by
  rw [← bytes_beq]
  simp [binH, heqNil, binPure_str, hvOf, binOp, Op.stringOp, Sem.val?, okVal, ofVal, okLeaf, ofLeaf, plain, pure]
theorem un_not {t : Bool} : unH P .not (.v (.bool t)) = some (.v (.bool !t)) := hide rfl
theorem conv_int {src dst : TypeId} {k' : IntKind} {t : TypeDesc} (hs : P.underlying src = some t) (hd : P.underlying dst = some (.int k')) {R : HV → HS → Prop} {S : HS} {pos : String} :
    convK P C pos src dst (.v (.int k a)) S R = R (.v (.int k' (k'.wrap a))) S := by
  have : convPure P src dst (.v (.int k a)) = some (.v (.int k' (k'.wrap a))) := by
    simp [convPure, toVal, hvOf, Go.convert, underlying, program, hs, hd, Sem.val?, okVal, ofVal, okLeaf, ofLeaf, plain, pure, bind, Sem.bind, Conv.intToInt]
  simp only [convK, hd, this]
  rfl
end
end Go.HL
