/- What one operation makes of known values, and that the model's operation does so. -/
import Derived.Test.YtijoifajbmhgdaaGreatSymA
import Derived.Laws.Rows
import Derived.Laws.CopyRow
import Derived.Laws.StructEq
import Derived.Laws.Tables
import Derived.Laws.Externs
import Derived.DeepKeys
namespace Go.Proofs.YtijoifajbmhgdaaGreat.Sym
set_option linter.unusedSimpArgs false
set_option linter.unusedVariables false
open Go Go.RowKit

/-! ### Types, callees -/
inductive Ty where
  | int (k : IntKind)
  | arr (k : IntKind) (n e : Nat)
  | sl (k : IntKind) (e : Nat)
  | bool
  | func
  | str

def TyOk (P : Program) (t : TypeId) : Ty → Prop
  | .int k => P.underlying t = some (.int k) ∧ (P.info? t).map (fun i => (i.zero, i.size)) = some (some (.int k 0), 1)
  | .arr k n e => P.underlying t = some (.array n e) ∧ P.underlying e = some (.int k) ∧ (P.info? e).map (·.size) = some 1 ∧
      (P.info? t).map (fun i => (i.zero, i.size)) = some (some (.agg (cells k n fun _ => 0)), n) ∧ P.eqGuardType P.depth t = false
  | .sl k e => P.underlying t = some (.slice e) ∧ P.underlying e = some (.int k) ∧ (P.info? e).map (fun i => (i.zero, i.size)) = some (some (.int k 0), 1) ∧ P.bytesOf e ≤ 8
  | .bool => P.underlying t = some .bool
  | .func => (match P.underlying t with | some (.func _ _ _) => true | _ => false) = true
  | .str => P.underlying t = some .string

structure SOut where
  pre : Prop
  v : AV

def AV.pureA : AV → Bool
  | .elt _ _ => false
  | .sl _ _ _ => false
  | .pair a b => a.pureA && b.pureA
  | _ => true

def Dens (w : World) (O : Nat → Prop) : List AV → List Value → Prop
  | [], [] => True
  | a :: as, v :: vs => den w (fun _ => 0) O a v ∧ Dens w O as vs
  | _, _ => False

/-- A call, of a function with a body or of one of the model's own rows. -/
def Calls' (P : Program) (g : FuncId) (args : Array Value) (w : World) (Post : Value → World → Prop) : Prop :=
  match (callFunc g args).run P w with
  | .ok (.value v) w' => Post v w'
  | .ok (.enter f as) w' => w' = w ∧ Calls P f as w' fun e w'' => match e with | .returned v => Post v w'' | _ => False
  | _ => False

/-- What a function is said to do: of known values (and its premise) it returns the value said, and turns nothing that was there. -/
def Contract (P : Program) (g : FuncId) (s : List AV → SOut) : Prop :=
  ∀ (as : List AV) (vs : List Value) (w : World) (O : Nat → Prop), (∀ b, O b → b < w.heap.size) → as.all (·.pureA) = true → Dens w O as vs → (s as).pre →
    Calls' P g vs.toArray w fun v w' => den w' (fun _ => 0) O (s as).v v ∧ (s as).v.pureA = true ∧ Below w.heap.size w w'

structure Env where
  P : Program
  ty : List (TypeId × Ty)
  fs : List (FuncId × (List AV → SOut))

def look {α : Type} : List (Nat × α) → Nat → Option α
  | [], _ => none
  | (s, v) :: r, t => if s = t then some v else look r t

structure Env.Ok (E : Env) : Prop where
  ty : ∀ t y, look E.ty t = some y → TyOk E.P t y
  fs : ∀ g s, look E.fs g = some s → Contract E.P g s

/-! ### The evaluation -/
def constA : Value → AV
  | .int k z => .int k z
  | .bool b => .bool b
  | .nilFunc => .nilfn
  | .slice none 0 0 => .rsl .i64 0 fun _ => 0
  | .string s => .str s
  | _ => .und

def evA (F : Nat → AV) : Operand → AV
  | .tmp t => F t
  | .const v => constA v
  | .func g => .fn g
  | .global _ => .und

structure HOut where
  pre : Prop
  v : AV
  row : Option Row

def HOut.fail : HOut := ⟨False, .und, none⟩
def HOut.ok (v : AV) : HOut := ⟨True, v, none⟩

def InB (z : Int) (n : Nat) : Prop := 0 ≤ z ∧ z < n
def shF (f : Nat → Int) (o : Nat) : Nat → Int := fun j => f (o + j)
def eqA (n : Nat) (f g : Nat → Int) : Bool := decide (∀ j, j < n → f j = g j)
def bitsA (op : BinOp) (k : IntKind) (x y : Int) : Int :=
  match op with
  | .and => k.wrap ((x % 2 ^ k.bits).toNat &&& (y % 2 ^ k.bits).toNat : Nat)
  | .or => k.wrap ((x % 2 ^ k.bits).toNat ||| (y % 2 ^ k.bits).toNat : Nat)
  | _ => k.wrap ((x % 2 ^ k.bits).toNat ^^^ (y % 2 ^ k.bits).toNat : Nat)
def wholeI (k : IntKind) : Int := if k.signed then -1 else k.max

def pickA (t : Bool) : AV → AV → AV
  | .bool x, .bool y => .bool (if t = true then x else y)
  | a, b => if t = true then a else b

def hdLoad (ty : Option Ty) (x : AV) (R : Nat → Option Row) : HOut :=
  match x, ty with
  | .elt id i, some (.int k) => match R id with
    | some r => ⟨r.k = k ∧ i < r.n, .int r.k (r.f i), none⟩
    | none => .fail
  | .elt id i, some (.arr k n _) => match R id with
    | some r => ⟨r.k = k ∧ i + n ≤ r.n, .arr r.k n (shF r.f i), none⟩
    | none => .fail
  | .pt k z, some (.int _) => .ok (.int k z)
  | .pa k n f, some (.arr k' m _) => ⟨k = k' ∧ m ≤ n, .arr k m f, none⟩
  | _, _ => .fail

def intBin (op : BinOp) (k k' : IntKind) (a b : Int) : HOut :=
  match op with
  | .add => ⟨k = k', .int k (k.wrap (a + b)), none⟩
  | .sub => ⟨k = k', .int k (k.wrap (a - b)), none⟩
  | .mul => ⟨k = k', .int k (k.wrap (a * b)), none⟩
  | .quo => ⟨k = k' ∧ b ≠ 0, .int k (k.wrap (a.tdiv b)), none⟩
  | .rem => ⟨k = k' ∧ b ≠ 0, .int k (a.tmod b), none⟩
  | .and => ⟨k = k', .int k (bitsA .and k a b), none⟩
  | .or => ⟨k = k', .int k (bitsA .or k a b), none⟩
  | .xor => ⟨k = k', .int k (bitsA .xor k a b), none⟩
  | .shl => ⟨0 ≤ b, .int k (k.wrap (a * 2 ^ (min b.toNat k.bits))), none⟩
  | .shr => ⟨0 ≤ b, .int k (a / 2 ^ (min b.toNat k.bits)), none⟩
  | .eql => ⟨k = k', .bool (a == b), none⟩
  | .neq => ⟨k = k', .bool (a != b), none⟩
  | .lss => ⟨k = k', .bool (decide (a < b)), none⟩
  | .leq => ⟨k = k', .bool (decide (a ≤ b)), none⟩
  | .gtr => ⟨k = k', .bool (decide (b < a)), none⟩
  | .geq => ⟨k = k', .bool (decide (b ≤ a)), none⟩
  | _ => .fail

def hdBin (op : BinOp) (ty : Option Ty) (x y : AV) : HOut :=
  match x, y with
  | .int k a, .int k' b => intBin op k k' a b
  | .bool a, .bool b => match ty, op with
    | some .bool, .eql => .ok (.bool (a == b))
    | some .bool, .neq => .ok (.bool (!(a == b)))
    | _, _ => .fail
  | .arr k n f, .arr k' n' g => match ty, op with
    | some (.arr k'' m _), .eql => ⟨k = k'' ∧ k' = k'' ∧ n = m ∧ n' = m, .bool (eqA n f g), none⟩
    | some (.arr k'' m _), .neq => ⟨k = k'' ∧ k' = k'' ∧ n = m ∧ n' = m, .bool (!(eqA n f g)), none⟩
    | _, _ => .fail
  | .fn _, .nilfn => match ty, op with
    | some .func, .eql => .ok (.bool false)
    | some .func, .neq => .ok (.bool true)
    | _, _ => .fail
  | .nilfn, .nilfn => match ty, op with
    | some .func, .eql => .ok (.bool true)
    | some .func, .neq => .ok (.bool false)
    | _, _ => .fail
  | _, _ => .fail

def hdUn (op : UnOp) (x : AV) : HOut :=
  match x, op with
  | .int k a, .neg => .ok (.int k (k.wrap (0 - a)))
  | .int k a, .xor => .ok (.int k (bitsA .xor k (wholeI k) a))
  | .bool b, .not => .ok (.bool (!b))
  | _, _ => .fail

def hdConv (src dst : Option Ty) (x : AV) : HOut :=
  match src, dst, x with
  | some (.int _), some (.int k), .int _ z => .ok (.int k (k.wrap z))
  | _, _, _ => .fail

def hdIdxAddr (ty : Option Ty) (x i : AV) : HOut :=
  match x, i, ty with
  | .elt id o, .int _ z, some (.arr _ n _) => ⟨InB z n, .elt id (o + z.toNat), none⟩
  | .sl id o len, .int _ z, some (.sl _ _) => ⟨InB z len, .elt id (o + z.toNat), none⟩
  | .rsl k n f, .int _ z, some (.sl _ _) => ⟨InB z n, .pt k (f z.toNat), none⟩
  | _, _, _ => .fail

def strAt (s : ByteArray) (z : Int) : Int := ((s[z.toNat]?).map (·.toNat)).getD 0

def hdIdx (ty : Option Ty) (x i : AV) : HOut :=
  match x, i, ty with
  | .str s, .int _ z, some .str => ⟨InB z s.size, .int .u8 (strAt s z), none⟩
  | .arr k n f, .int _ z, some (.arr k' m _) => ⟨k = k' ∧ n = m ∧ InB z n, .int k (f z.toNat), none⟩
  | _, _, _ => .fail

/-- A place of a slice expression: the number, or what stands for none. -/
def bnd (x : Option AV) (dflt : Nat) : Prop × Nat :=
  match x with
  | none => (True, dflt)
  | some (.int _ z) => (0 ≤ z, z.toNat)
  | _ => (False, 0)

def hdSlice (ty : Option Ty) (x : AV) (lo hi : Option AV) (R : Nat → Option Row) : HOut :=
  match x, ty with
  | .elt id o, some (.arr _ n _) => match R id with
    | some r => ⟨(bnd lo 0).1 ∧ (bnd hi n).1 ∧ (bnd lo 0).2 ≤ (bnd hi n).2 ∧ (bnd hi n).2 ≤ n ∧ o = 0 ∧ n ≤ r.n, .sl id (if n = (bnd lo 0).2 then 0 else (bnd lo 0).2) ((bnd hi n).2 - (bnd lo 0).2), none⟩
    | none => .fail
  | .pa k n f, some (.arr _ m _) =>
    ⟨(bnd lo 0).1 ∧ (bnd hi n).1 ∧ (bnd lo 0).2 ≤ (bnd hi n).2 ∧ (bnd hi n).2 ≤ n ∧ n = m, .rsl k ((bnd hi n).2 - (bnd lo 0).2) (shF f (bnd lo 0).2), none⟩
  | .rsl k n f, some (.sl _ _) =>
    ⟨(bnd lo 0).1 ∧ (bnd hi n).1 ∧ (bnd lo 0).2 ≤ (bnd hi n).2 ∧ (bnd hi n).2 ≤ n, .rsl k ((bnd hi n).2 - (bnd lo 0).2) (shF f (bnd lo 0).2), none⟩
  | _, _ => .fail

def partsF (F : Nat → AV) : List (Nat × Operand) → (Nat → Int) → (Nat → Int)
  | [], f => f
  | (i, x) :: r, f => partsF F r (match evA F x with | .int _ z => updF f i z | _ => f)
def partsOk (F : Nat → AV) (k : IntKind) (n : Nat) : List (Nat × Operand) → Prop
  | [] => True
  | (i, x) :: r => (match evA F x with | .int k' _ => k' = k ∧ i < n | _ => False) ∧ partsOk F k n r

def mapA (F : Nat → AV) : Option Operand → Option AV
  | none => none
  | some x => some (evA F x)
def argsA (F : Nat → AV) (xs : List Operand) : List AV := xs.map (evA F)

def hdCallF (fs : List (FuncId × (List AV → SOut))) (f : AV) (as : List AV) : HOut :=
  match f with
  | .fn g => match look fs g with
    | some s => ⟨as.all (·.pureA) = true ∧ (s as).pre, (s as).v, none⟩
    | none => .fail
  | _ => .fail

def hdLen (ty : Option Ty) (x : AV) : HOut :=
  match x, ty with
  | .rsl _ n _, some (.sl _ _) => .ok (.int .i64 n)
  | .sl _ _ n, some (.sl _ _) => .ok (.int .i64 n)
  | .arr _ _ _, some (.arr _ n _) => .ok (.int .i64 n)
  | _, _ => .fail

def hdMin (isMax : Bool) (x y : AV) : HOut :=
  match x, y with
  | .int k a, .int k' b => ⟨k = k', .int k (if isMax = true then max a b else min a b), none⟩
  | _, _ => .fail

def hdCall (E : Env) (c : Call) (F : Nat → AV) : HOut :=
  match c.callee with
  | .value f => hdCallF E.fs (evA F f) (argsA F c.args.toList)
  | .builtin b => match b, argsA F c.args.toList, c.argTypes.toList with
    | .len, [x], [t] => hdLen (look E.ty t) x
    | .min, [x, y], _ => hdMin false x y
    | .max, [x, y], _ => hdMin true x y
    | _, _, _ => .fail
  | _ => .fail

def hd (E : Env) (op : Op) (d : Nat) (F : Nat → AV) (R : Nat → Option Row) : HOut :=
  match op with
  | .move x => .ok (evA F x)
  | .assign x => .ok (evA F x)
  | .pick c a b => match evA F c with
    | .bool t => .ok (pickA t (evA F a) (evA F b))
    | _ => .fail
  | .alloc t => match look E.ty t with
    | some (.arr k n _) => ⟨True, .elt d 0, some ⟨k, n, fun _ => 0⟩⟩
    | _ => .fail
  | .box t x => match look E.ty t, evA F x with
    | some (.arr _ _ _), .arr k n f => ⟨True, .elt d 0, some ⟨k, n, f⟩⟩
    | _, _ => .fail
  | .build t parts => match look E.ty t with
    | some (.arr k n _) => ⟨partsOk F k n parts.toList, .arr k n (partsF F parts.toList fun _ => 0), none⟩
    | _ => .fail
  | .buildSlice t len parts => match look E.ty t with
    | some (.sl k _) => ⟨partsOk F k len parts.toList ∧ len ≤ 1000, .sl d 0 len, some ⟨k, len, partsF F parts.toList fun _ => 0⟩⟩
    | _ => .fail
  | .makeSlice t l c => match look E.ty t, evA F l, evA F c with
    | some (.sl k _), .int .i64 z, .int .i64 z' => ⟨z = z' ∧ 0 ≤ z ∧ z ≤ 4294967296, .sl d 0 z.toNat, some ⟨k, z.toNat, fun _ => 0⟩⟩
    | _, _, _ => .fail
  | .load t x => hdLoad (look E.ty t) (evA F x) R
  | .binOp op t x y _ => hdBin op (look E.ty t) (evA F x) (evA F y)
  | .unOp op _ x => hdUn op (evA F x)
  | .convert s t x => hdConv (look E.ty s) (look E.ty t) (evA F x)
  | .indexAddr t x i => hdIdxAddr (look E.ty t) (evA F x) (evA F i)
  | .index t x i => hdIdx (look E.ty t) (evA F x) (evA F i)
  | .slice t x lo hi none => hdSlice (look E.ty t) (evA F x) (mapA F lo) (mapA F hi) R
  | .sliceToArrayPointer t x => match look E.ty t, evA F x with
    | some (.arr _ n _), .sl id o len => ⟨n ≤ len, .elt id o, none⟩
    | _, _ => .fail
  | .extract x i => match evA F x, i with
    | .pair p _, 0 => .ok p
    | .pair _ q, 1 => .ok q
    | _, _ => .fail
  | .call c => hdCall E c F
  | _ => .fail

end Go.Proofs.YtijoifajbmhgdaaGreat.Sym
