/- Abstract values, abstract heaps and the quiet steps of the abstract machine: definitions only, nothing is proved here. -/
import Derived.Calls
import Derived.Orders
import Derived.Laws.BytesArg
namespace Go.Proofs.Ythjogeodclpafaa.AM
open Go

/-! ### Data types whose cells hold no address but that of frozen memory -/
inductive Ty where
  | int (k : IntKind) | bool | str
  | pair (a b : Ty) | sl (e : TypeId) (a : Ty) | arr (n : Nat) (a : Ty)
  deriving DecidableEq

@[reducible] def Ty.D : Ty → Type
  | .int _ => Int
  | .bool => Bool
  | .str => ByteArray
  | .pair a b => a.D × b.D
  | .sl _ a => List a.D
  | .arr _ a => List a.D

def Ty.wd : Ty → Nat
  | .pair a b => a.wd + b.wd
  | .arr n a => n * a.wd
  | _ => 1

def Ty.zero : (τ : Ty) → τ.D
  | .int _ => (0 : Int)
  | .bool => false
  | .str => (⟨#[]⟩ : ByteArray)
  | .pair a b => (a.zero, b.zero)
  | .sl _ _ => []
  | .arr n a => List.replicate n a.zero

def listEqb {α : Type} (f : α → α → Bool) : List α → List α → Bool
  | [], [] => true
  | x :: xs, y :: ys => f x y && listEqb f xs ys
  | _, _ => false

/-- Go's '=='. -/
def Ty.eqb : (τ : Ty) → τ.D → τ.D → Bool
  | .int _, x, y => (show Int from x) == (show Int from y)
  | .bool, x, y => (show Bool from x) == (show Bool from y)
  | .str, x, y => (show ByteArray from x).toList == (show ByteArray from y).toList
  | .pair a b, x, y => a.eqb x.1 y.1 && b.eqb x.2 y.2
  | .sl _ _, _, _ => false
  | .arr _ a, x, y => listEqb a.eqb x y

def Ty.flat : Ty → Bool
  | .pair a b => a.flat && b.flat
  | .arr _ a => a.flat
  | .sl _ _ => false
  | _ => true

/-! ### Values -/
/-- What one cell holds; 'arr': what a run of cells holds. -/
inductive BV where
  | any
  | int (k : IntKind) (n : Int)
  | bool (b : Bool)
  | lit (b : Bool)
  | str (s : ByteArray)
  | nilp | nils | nilm | nilf
  | ptr (n off : Nat)
  | eptr (n wd i off : Nat)
  | fptr (τ : Ty) (x : τ.D) (off : Nat)
  | aptr (n off m wd i o : Nat)
  | hd (n : Nat)
  | sub (n wd lo len : Nat)
  | fsl (e : TypeId) (τ : Ty) (xs : List τ.D)
  | map (n : Nat)
  | fn (f : FuncId) (caps : List Nat)
  | arr (m : Nat) (τ : Ty) (xs : List τ.D)
  | nz (w : Bool) (p : Prop)
  | pre (n len : Nat)
  | win (n wd lo len : Nat)
  | prec (n len : Nat)

inductive TV where
  | one (v : BV)
  | agg (cs : List BV)

inductive SV where
  | any
  | t (v : TV)
  | tup (vs : List TV)
  | cond (ts : List (Nat × Bool)) (g : Bool) (v : TV)

inductive AObj where
  | cells (t : TypeId) (cs : List BV)
  | row (e : TypeId) (τ : Ty) (xs : List τ.D)
  | map (agg : Bool) (κ τ : Ty) (es : List (κ.D × τ.D))
  | frow (e : TypeId) (τ : Ty) (xs : List τ.D)
  | buf (e : TypeId) (τ : Ty) (ys : List τ.D) (k : Nat)
  | dead

def SV.b (v : BV) : SV := .t (.one v)

def BV.wd : BV → Nat
  | .arr m τ _ => m * τ.wd
  | _ => 1

def widths : List BV → Nat
  | [] => 0
  | c :: cs => c.wd + widths cs

def TV.cells : TV → List BV
  | .one v => [v]
  | .agg cs => cs

/-- What an element's cells read as. -/
def Ty.enc : (τ : Ty) → τ.D → List BV
  | .int k, n => [.int k n]
  | .bool, b => [.bool b]
  | .str, s => [.str s]
  | .pair a b, x => a.enc x.1 ++ b.enc x.2
  | .sl e a, xs => [.fsl e a xs]
  | .arr n a, xs => [.arr n a xs]

def parseMany {α : Type} (f : List BV → Option (α × List BV)) : Nat → List BV → Option (List α × List BV)
  | 0, cs => some ([], cs)
  | n + 1, cs => match f cs with
    | some (x, r) => match parseMany f n r with
      | some (xs, r') => some (x :: xs, r')
      | none => none
    | none => none

def castL {a b : Ty} (h : a = b) (xs : List a.D) : List b.D := h ▸ xs

def Ty.parse : (τ : Ty) → List BV → Option (τ.D × List BV)
  | .int k, cs => match cs with
    | .int k' n :: r => match decEq k k' with
      | isTrue _ => some (n, r)
      | isFalse _ => none
    | _ => none
  | .bool, cs => match cs with
    | .bool b :: r => some (b, r)
    | .lit b :: r => some (b, r)
    | _ => none
  | .str, cs => match cs with
    | .str s :: r => some (s, r)
    | _ => none
  | .pair a b, cs => match a.parse cs with
    | some (x, r) => match b.parse r with
      | some (y, r') => some ((x, y), r')
      | none => none
    | none => none
  | .sl _ a, cs => match cs with
    | .fsl _ a' xs :: r => match decEq a' a with
      | isTrue h => some (castL h xs, r)
      | isFalse _ => none
    | .nils :: r => some ([], r)
    | _ => none
  | .arr n a, cs => match cs with
    | .arr m a' xs :: r => match decEq a' a with
      | isTrue h => match Nat.beq m n with
        | true => some (castL h xs, r)
        | false => none
      | isFalse _ => none
    | _ => parseMany a.parse n cs

/-- All of the cells. -/
def Ty.dec (τ : Ty) (cs : List BV) : Option τ.D :=
  match τ.parse cs with
  | some (x, []) => some x
  | _ => none

def Ty.decOne (τ : Ty) : TV → Option τ.D
  | .one v => τ.dec [v]
  | .agg _ => none

/-! ### Types of the program -/
def tyFields (f : TypeId → Option Ty) : List TypeId → Option Ty
  | [] => none
  | [t] => f t
  | t :: ts => match f t, tyFields f ts with
    | some a, some b => some (.pair a b)
    | _, _ => none

def tyOf (P : Program) : Nat → TypeId → Option Ty
  | 0, _ => none
  | n + 1, t => match P.underlying t with
    | some (.int k) => some (.int k)
    | some .bool => some .bool
    | some .string => some .str
    | some (.slice e) => match tyOf P n e with | some a => some (.sl e a) | none => none
    | some (.array m e) => match tyOf P n e with | some a => some (.arr m a) | none => none
    | some (.struct fs) => tyFields (tyOf P n) (fs.toList.map (·.type))
    | _ => none

def depth : Nat := 8

/-- The type of values that '==' compares part by part: the fields lie one behind the other. -/
def tyEqFields (P : Program) (f : TypeId → Option Ty) : Nat → List Field → Option Ty
  | _, [] => none
  | o, [fd] => match Nat.beq fd.offset o, fd.name != "_", f fd.type, P.info? fd.type with
    | true, true, some a, some i => match Nat.beq i.size a.wd with
      | true => some a
      | false => none
    | _, _, _, _ => none
  | o, fd :: r => match Nat.beq fd.offset o, fd.name != "_", f fd.type, P.info? fd.type with
    | true, true, some a, some i => match Nat.beq i.size a.wd, tyEqFields P f (o + a.wd) r with
      | true, some b => some (.pair a b)
      | _, _ => none
    | _, _, _, _ => none

def tyEq (P : Program) : Nat → TypeId → Option Ty
  | 0, _ => none
  | n + 1, t => match P.underlying t with
    | some (.int k) => some (.int k)
    | some .bool => some .bool
    | some .string => some .str
    | some (.struct fs) => match P.stoodInHeld t with
      | false => tyEqFields P (tyEq P n) 0 fs.toList
      | true => none
    | _ => none

/-- Is a value of this type an aggregate, and how many cells has it? -/
def kindOf (P : Program) (t : TypeId) : Option (Bool × Nat) :=
  match P.underlying t, P.info? t with
  | some (.struct _), some i => some (true, i.size)
  | some (.array _ _), some i => some (true, i.size)
  | some _, some i => some (false, i.size)
  | _, _ => none

/-- An element type, its kind and bytes: of slices. -/
def elemOf? (P : Program) (t : TypeId) : Option (TypeId × Ty × Nat) :=
  match P.underlying t with
  | some (.slice e) => match tyOf P depth e, P.info? e with
    | some τ, some i => match Nat.beq τ.wd i.size, Nat.beq i.size 0 with
      | true, false => some (e, τ, i.bytes)
      | _, _ => none
    | _, _ => none
  | _ => none

/-! ### Cells of an object -/
def dropW : Nat → List BV → Option (List BV)
  | 0, cs => some cs
  | _ + 1, [] => none
  | k + 1, c :: cs => match Nat.ble c.wd (k + 1) with
    | true => dropW (k + 1 - c.wd) cs
    | false => none
termination_by structural _ cs => cs

def takeW : Nat → List BV → Option (List BV)
  | 0, _ => some []
  | _ + 1, [] => none
  | k + 1, c :: cs => match Nat.ble c.wd (k + 1) with
    | true => match takeW (k + 1 - c.wd) cs with
      | some r => some (c :: r)
      | none => none
    | false => none
termination_by structural _ cs => cs

/-- 'n' cells from 'off' on. -/
def sliceW (off n : Nat) (cs : List BV) : Option (List BV) :=
  match dropW off cs with
  | some r => takeW n r
  | none => none

/-- As a value of a type. -/
def asTV (agg : Bool) (cs : List BV) : Option TV :=
  match agg with
  | true => some (.agg cs)
  | false => match cs with
    | [c] => match c with
      | .arr _ _ _ => none
      | c => some (.one c)
    | _ => none

/-- What is stored at 'off' replaces as many cells. -/
def patchW (off : Nat) (news cs : List BV) : Option (List BV) :=
  match takeW off cs, dropW (off + widths news) cs with
  | some a, some b => some (a ++ (news ++ b))
  | _, _ => none

/-! ### Slots -/
def sget : List (Nat × SV) → Nat → SV
  | [], _ => .any
  | (i, v) :: r, k => match Nat.beq i k with
    | true => v
    | false => sget r k

/-- In descending order, so that puts in whatever order come to the same. -/
def sput : List (Nat × SV) → Nat → SV → List (Nat × SV)
  | [], k, v => [(k, v)]
  | (i, u) :: r, k, v => match Nat.beq i k with
    | true => (k, v) :: r
    | false => match Nat.blt i k with
      | true => (k, v) :: (i, u) :: r
      | false => (i, u) :: sput r k v

structure St where
  n0 : Nat
  N : Nat
  sl : List (Nat × SV)
  H : List AObj

def ofCell : Value → BV
  | .int k n => .int k n
  | .bool b => .lit b
  | .string s => .str s
  | .pointer none => .nilp
  | .slice none 0 0 => .nils
  | .map none => .nilm
  | .nilFunc => .nilf
  | _ => .any

def BV.known : BV → Bool
  | .any => false
  | _ => true

def ofValue : Value → SV
  | .agg vs => match (vs.toList.map ofCell).all BV.known with
    | true => .t (.agg (vs.toList.map ofCell))
    | false => .any
  | .tuple _ => .any
  | v => match ofCell v with
    | .any => .any
    | c => .b c

def opSV (s : List (Nat × SV)) : Operand → SV
  | .tmp t => sget s t
  | .const v => ofValue v
  | .global _ => .any
  | .func f => .b (.fn f [])

def objAt (H : List AObj) (n : Nat) : AObj := H.getD n .dead

/-! ### Quiet steps: obligations and a value -/
abbrev YR := Option (List Prop × SV)

def yv (v : BV) : YR := some ([], .b v)

/-- The list behind a slice. -/
def listOf (H : List AObj) (τ : Ty) : BV → Option (List τ.D)
  | .nils => some []
  | .fsl _ a xs => match decEq a τ with
    | isTrue h => some (castL h xs)
    | isFalse _ => none
  | .hd n => match objAt H n with
    | .row _ a xs => match decEq a τ with
      | isTrue h => some (castL h xs)
      | isFalse _ => none
    | .frow _ a xs => match decEq a τ with
      | isTrue h => some (castL h xs)
      | isFalse _ => none
    | .buf _ a ys k => match decEq a τ with
      | isTrue h => some ((castL h ys).take k)
      | isFalse _ => none
    | _ => none
  | .sub n wd lo len => match objAt H n with
    | .row _ a xs => match decEq a τ, Nat.beq wd τ.wd with
      | isTrue h, true => some (((castL h xs).drop lo).take len)
      | _, _ => none
    | .frow _ a xs => match decEq a τ, Nat.beq wd τ.wd with
      | isTrue h, true => some (((castL h xs).drop lo).take len)
      | _, _ => none
    | _ => none
  | .pre n len => match objAt H n with
    | .row _ a xs => match decEq a τ with
      | isTrue h => some ((castL h xs).take len)
      | isFalse _ => none
    | .frow _ a xs => match decEq a τ with
      | isTrue h => some ((castL h xs).take len)
      | isFalse _ => none
    | _ => none
  | .prec n len => match objAt H n with
    | .buf _ a ys _ => match decEq a τ with
      | isTrue h => some ((castL h ys).take len)
      | isFalse _ => none
    | _ => none
  | .win n wd lo len => match objAt H n with
    | .buf _ a ys _ => match decEq a τ, Nat.beq wd τ.wd with
      | isTrue h, true => some (((castL h ys).drop lo).take len)
      | _, _ => none
    | _ => none
  | _ => none

def lenOf (H : List AObj) : BV → Option Nat
  | .nils => some 0
  | .fsl _ _ xs => some xs.length
  | .hd n => match objAt H n with
    | .row _ _ xs => some xs.length
    | .frow _ _ xs => some xs.length
    | .buf _ _ _ k => some k
    | _ => none
  | .sub _ _ _ len => some len
  | .pre _ len => some len
  | .prec _ len => some len
  | .win _ _ _ len => some len
  | .str s => some s.size
  | _ => none

def intOp (op : BinOp) (k : IntKind) (a b : Int) : YR :=
  match op with
  | .add => yv (.int k (k.wrap (a + b)))
  | .sub => yv (.int k (k.wrap (a - b)))
  | .mul => yv (.int k (k.wrap (a * b)))
  | .quo => some ([b ≠ 0], .b (.int k (k.wrap (a.tdiv b))))
  | .rem => some ([b ≠ 0], .b (.int k (a.tmod b)))
  | .and => yv (.int k (k.wrap (BitVec.ofInt k.bits a &&& BitVec.ofInt k.bits b).toNat))
  | .or => yv (.int k (k.wrap (BitVec.ofInt k.bits a ||| BitVec.ofInt k.bits b).toNat))
  | .xor => yv (.int k (k.wrap (BitVec.ofInt k.bits a ^^^ BitVec.ofInt k.bits b).toNat))
  | .eql => yv (.bool (a == b))
  | .neq => yv (.bool (a != b))
  | .lss => yv (.bool (decide (a < b)))
  | .leq => yv (.bool (decide (a ≤ b)))
  | .gtr => yv (.bool (decide (a > b)))
  | .geq => yv (.bool (decide (a ≥ b)))
  | _ => none

def shOp (op : BinOp) (k : IntKind) (a b : Int) : YR :=
  match op with
  | .shl => some ([0 ≤ b], .b (.int k (k.wrap (a * 2 ^ (min b.toNat k.bits)))))
  | .shr => some ([0 ≤ b], .b (.int k (a.fdiv (2 ^ (min b.toNat k.bits)))))
  | _ => none

def strOp (op : BinOp) (a b : ByteArray) : YR :=
  match op with
  | .add => some ([((a.size + b.size : Nat) : Int) ≤ IntKind.i64.max], .b (.str (a ++ b)))
  | .eql => yv (.bool (a.toList == b.toList))
  | .neq => yv (.bool (!(a.toList == b.toList)))
  | .lss => yv (.bool (Op.bytesLess a.toList b.toList))
  | .leq => yv (.bool (Op.bytesLess a.toList b.toList || a.toList == b.toList))
  | .gtr => yv (.bool (!(Op.bytesLess a.toList b.toList || a.toList == b.toList)))
  | .geq => yv (.bool (!Op.bytesLess a.toList b.toList))
  | _ => none

def boolOp (op : BinOp) (a b : Bool) : YR :=
  match op with
  | .eql => yv (.bool (a == b))
  | .neq => yv (.bool (!(a == b)))
  | _ => none

def litOp (op : BinOp) (b : Bool) : YR :=
  match op with
  | .eql => yv (.lit b)
  | .neq => yv (.lit (!b))
  | _ => none

def aggOp (P : Program) (op : BinOp) (t : TypeId) (xs ys : List BV) : YR :=
  match tyEq P depth t, P.eqGuardType P.depth t, kindOf P t with
  | some τ, false, some (true, sz) => match Nat.beq sz τ.wd, τ.dec xs, τ.dec ys with
    | true, some x, some y => match op with
      | .eql => yv (.bool (τ.eqb x y))
      | .neq => yv (.bool (!(τ.eqb x y)))
      | _ => none
    | _, _, _ => none
  | _, _, _ => none

def boolTy (P : Program) (t : TypeId) : Bool :=
  match P.underlying t with
  | some .bool => true
  | _ => false

def ptrTy (P : Program) (t : TypeId) : Bool :=
  match P.underlying t with
  | some (.pointer _) => true
  | _ => false

def binStep (P : Program) (op : BinOp) (t : TypeId) (x y : TV) : YR :=
  match x, y with
  | .one (.int k a), .one (.int k' b) => match op with
    | .shl => shOp op k a b
    | .shr => shOp op k a b
    | _ => match decEq k k' with
      | isTrue _ => intOp op k a b
      | isFalse _ => none
  | .one (.str a), .one (.str b) => strOp op a b
  | .one (.bool a), .one (.bool b) => match boolTy P t with | true => boolOp op a b | false => none
  | .one (.lit a), .one (.bool b) => match boolTy P t with | true => boolOp op a b | false => none
  | .one (.bool a), .one (.lit b) => match boolTy P t with | true => boolOp op a b | false => none
  | .one (.lit a), .one (.lit b) => match boolTy P t with | true => boolOp op a b | false => none
  | .one .nilp, .one .nilp => match ptrTy P t with | true => litOp op true | false => none
  | .one (.ptr _ _), .one .nilp => match ptrTy P t with | true => litOp op false | false => none
  | .one .nilp, .one (.ptr _ _) => match ptrTy P t with | true => litOp op false | false => none
  | .agg xs, .agg ys => aggOp P op t xs ys
  | _, _ => none

def unStep (op : UnOp) (x : TV) : YR :=
  match op, x with
  | .not, .one (.bool b) => yv (.bool (!b))
  | .not, .one (.lit b) => yv (.lit (!b))
  | .neg, .one (.int k n) => yv (.int k (k.wrap (0 - n)))
  | _, _ => none

def convStep (P : Program) (H : List AObj) (src dst : TypeId) (x : TV) : YR :=
  match P.underlying src, P.underlying dst, x with
  | some _, some (.int k), .one (.int _ n) => yv (.int k (k.wrap n))
  | some .string, some .string, .one (.str s) => yv (.str s)
  | some (.slice _), some .string, .one v => match elemOf? P src with
    | some (e, .int .u8, _) => match P.underlying e, listOf H (.int .u8) v with
      | some (.int .u8), some xs => yv (.str (strOfNums xs))
      | _, _ => none
    | _ => none
  | _, _, _ => none

/-- A field's place: its type, its cells' offset. -/
def fieldOf (P : Program) (s : TypeId) (f : Nat) : Option (TypeId × Nat × Bool × Nat) :=
  match P.underlying s with
  | some (.struct fields) => match fields.toList[f]? with
    | some fld => match kindOf P fld.type with
      | some (agg, sz) => some (fld.type, fld.offset, agg, sz)
      | none => none
    | none => none
  | _ => none

def fieldAddrStep (P : Program) (s : TypeId) (f : Nat) (x : TV) : YR :=
  match fieldOf P s f, x with
  | some (_, o, _, sz), .one p => match Nat.beq sz 0 with
    | true => none
    | false => match p with
      | .ptr n off => yv (.ptr n (off + o))
      | .eptr n wd i off => yv (.eptr n wd i (off + o))
      | .fptr τ v off => yv (.fptr τ v (off + o))
      | .aptr n off m wd i q => yv (.aptr n off m wd i (q + o))
      | _ => none
  | _, _ => none

def tvR : Option TV → YR
  | some v => some ([], .t v)
  | none => none

def fieldStep (P : Program) (s : TypeId) (f : Nat) (x : TV) : YR :=
  match fieldOf P s f, x with
  | some (_, o, agg, sz), .agg cs => match sliceW o sz cs with
    | some r => tvR (asTV agg r)
    | none => none
  | _, _ => none

/-- The run of an array at 'off'. -/
def runAt (off : Nat) (cs : List BV) : Option (Nat × (τ : Ty) × List τ.D) :=
  match dropW off cs with
  | some (.arr m τ xs :: _) => some (m, ⟨τ, xs⟩)
  | _ => none

def indexAddrStep (P : Program) (H : List AObj) (t : TypeId) (x : TV) (i : TV) : YR :=
  match x, i with
  | .one p, .one (.int _ i) => match P.underlying t with
    | some (.slice _) => match elemOf? P t with
      | some (_, τ, _) => match p with
        | .fsl _ a xs => match decEq a τ with
          | isTrue h => some ([0 ≤ i ∧ i < xs.length], .b (.fptr τ ((castL h xs).getD i.toNat τ.zero) 0))
          | isFalse _ => none
        | .hd n => match lenOf H p with
          | some l => some ([0 ≤ i ∧ i < l], .b (.eptr n τ.wd i.toNat 0))
          | none => none
        | .sub n wd lo l => match Nat.beq wd τ.wd with
          | true => some ([0 ≤ i ∧ i < l], .b (.eptr n τ.wd (lo + i.toNat) 0))
          | false => none
        | _ => none
      | none => none
    | some (.array m e) => match p, kindOf P e with
      | .ptr n off, some (_, sz) => match objAt H n with
        | .cells _ cs => match runAt off cs with
          | some (m', ⟨τ, _⟩) => match Nat.beq m m', Nat.beq sz τ.wd, Nat.ble 2 m with
            | true, true, true => some ([0 ≤ i ∧ i < m], .b (.aptr n off m τ.wd i.toNat 0))
            | _, _, _ => none
          | none => none
        | _ => none
      | _, _ => none
    | _ => none
  | _, _ => none

def indexStep (P : Program) (t : TypeId) (x : TV) (i : TV) : YR :=
  match x, i with
  | .one (.str s), .one (.int _ i) => match P.underlying t with
    | some .string => some ([0 ≤ i ∧ i < s.size], .b (.int .u8 ((s.toList.getD i.toNat 0).toNat)))
    | _ => none
  | .agg [.arr m τ xs], .one (.int _ i) => match P.underlying t with
    | some (.array m' e) => match kindOf P e with
      | some (agg, sz) => match Nat.beq m m', Nat.beq sz τ.wd with
        | true, true => match asTV agg (τ.enc (xs.getD i.toNat τ.zero)) with
          | some v => some ([0 ≤ i ∧ i < m], .t v)
          | none => none
        | _, _ => none
      | none => none
    | _ => none
  | _, _ => none

/-- The cells at an address. -/
def cellsAt (H : List AObj) (sz : Nat) : BV → Option (List Prop × List BV)
  | .ptr n off => match objAt H n with
    | .cells _ cs => match sliceW off sz cs with
      | some r => some ([], r)
      | none => none
    | _ => none
  | .eptr n wd i off => match objAt H n with
    | .row _ τ xs => match Nat.beq wd τ.wd, sliceW off sz (τ.enc (xs.getD i τ.zero)) with
      | true, some r => some ([i < xs.length], r)
      | _, _ => none
    | .frow _ τ xs => match Nat.beq wd τ.wd, sliceW off sz (τ.enc (xs.getD i τ.zero)) with
      | true, some r => some ([i < xs.length], r)
      | _, _ => none
    | _ => none
  | .fptr τ x off => match sliceW off sz (τ.enc x) with
    | some r => some ([], r)
    | none => none
  | .aptr n off m wd i o => match objAt H n with
    | .cells _ cs => match runAt off cs with
      | some (m', ⟨τ, xs⟩) => match Nat.beq wd τ.wd, Nat.beq m m', sliceW o sz (τ.enc (xs.getD i τ.zero)) with
        | true, true, some r => some ([i < m], r)
        | _, _, _ => none
      | none => none
    | _ => none
  | _ => none

def loadStep (P : Program) (H : List AObj) (t : TypeId) (x : TV) : YR :=
  match kindOf P t, x with
  | some (agg, sz), .one p => match cellsAt H sz p with
    | some (obs, cs) => match asTV agg cs with
      | some v => some (obs, .t v)
      | none => none
    | none => none
  | _, _ => none

def nilCheckStep (x : TV) : YR :=
  match x with
  | .one (.ptr n off) => yv (.ptr n off)
  | .one (.eptr n wd i off) => yv (.eptr n wd i off)
  | .one (.fptr τ v off) => yv (.fptr τ v off)
  | .one (.aptr n off m wd i o) => yv (.aptr n off m wd i o)
  | .one (.fn f c) => yv (.fn f c)
  | _ => none

def pickB (c : Bool) (x y : TV) : Option BV :=
  match x, y with
  | .one (.bool a), .one (.lit false) => some (.bool (c && a))
  | .one (.lit true), .one (.bool b) => some (.bool (c || b))
  | .one (.bool a), .one (.bool b) => some (.bool (bif c then a else b))
  | .one (.lit a), .one (.lit b) => some (.bool (bif c then a else b))
  | .one (.lit a), .one (.bool b) => some (.bool (bif c then a else b))
  | .one (.bool a), .one (.lit b) => some (.bool (bif c then a else b))
  | _, _ => none

/-- Take a value out of its condition. -/
def open_ (v : SV) : Option (List Prop × TV) :=
  match v with
  | .t x => some ([], x)
  | _ => none

def under (b : Prop) (ps : List Prop) : List Prop := ps.map fun p => b → p

def pickStep (c x y : SV) : YR :=
  match c with
  | .t (.one (.lit true)) => match x with
    | .t v => some ([], .t v)
    | _ => none
  | .t (.one (.lit false)) => match y with
    | .t v => some ([], .t v)
    | _ => none
  | .t (.one (.bool b)) => match x, y with
    | .t v, .t u => match pickB b v u with
      | some r => some ([], .b r)
      | none => none
    | _, _ => none
  | _ => none

def boundOf (d : Nat) : Option TV → Option Int
  | none => some d
  | some (.one (.int _ i)) => some i
  | _ => none

def sliceStep (P : Program) (H : List AObj) (t : TypeId) (x : TV) (lo hi : Option TV) : YR :=
  match x with
  | .one (.str s) => match P.underlying t, boundOf 0 lo, boundOf s.size hi with
    | some .string, some l, some h => some ([0 ≤ h ∧ h ≤ s.size, 0 ≤ l ∧ l ≤ h], .b (.str (s.extract l.toNat h.toNat)))
    | _, _, _ => none
  | .one p => match elemOf? P t, lenOf H p with
    | some (e, τ, _), some n => match boundOf 0 lo, boundOf n hi with
      | some l, some h => match p with
        | .fsl _ a xs => match decEq a τ with
          | isTrue q => some ([0 ≤ h ∧ h ≤ n, 0 ≤ l ∧ l ≤ h], .b (.fsl e τ (((castL q xs).drop l.toNat).take (h.toNat - l.toNat))))
          | isFalse _ => none
        | .hd m => match objAt H m with
          | .buf _ _ _ _ => none
          | _ => match lo with
            | none => some ([0 ≤ h ∧ h ≤ n, 0 ≤ l ∧ l ≤ h], .b (.pre m h.toNat))
            | some _ => some ([0 ≤ h ∧ h ≤ n, 0 ≤ l ∧ l ≤ h], .b (.sub m τ.wd l.toNat (h.toNat - l.toNat)))
        | .sub m wd lo' _ => match Nat.beq wd τ.wd with
          | true => some ([0 ≤ h ∧ h ≤ n, 0 ≤ l ∧ l ≤ h], .b (.sub m τ.wd (lo' + l.toNat) (h.toNat - l.toNat)))
          | false => none
        | .nils => some ([h = 0, l = 0], .b .nils)
        | _ => none
      | _, _ => none
    | _, _ => none
  | _ => none

def cellEqb : Value → Value → Bool
  | .int k a, .int k' b => (decide (k = k')) && (decide (a = b))
  | .bool a, .bool b => a == b
  | .string a, .string b => a.toList == b.toList
  | .pointer none, .pointer none => true
  | .slice none 0 0, .slice none 0 0 => true
  | .map none, .map none => true
  | .nilFunc, .nilFunc => true
  | _, _ => false

/-- The type's zero value, cell by cell. -/
def Ty.zcells : Ty → List Value
  | .int k => [.int k 0]
  | .bool => [.bool false]
  | .str => [.string ⟨#[]⟩]
  | .pair a b => a.zcells ++ b.zcells
  | .sl _ _ => [.slice none 0 0]
  | .arr n a => (List.replicate n a.zcells).flatten

def allEqb : List Value → List Value → Bool
  | [], [] => true
  | a :: as, b :: bs => cellEqb a b && allEqb as bs
  | _, _ => false

/-- Is the program's zero value of the type that of 'τ'? -/
def zeroOK (P : Program) (t : TypeId) (agg : Bool) (τ : Ty) : Bool :=
  match P.info? t with
  | some i => match i.zero with
    | some (.agg cs) => agg && allEqb cs.toList τ.zcells
    | some z => !agg && allEqb [z] τ.zcells
    | none => false
  | none => false

def mapGet {κ τ : Ty} (k : κ.D) : List (κ.D × τ.D) → Option τ.D
  | [] => none
  | (a, b) :: r => match κ.eqb k a with
    | true => some b
    | false => mapGet k r

/-- Keys are integers or strings. -/
def keyTy (P : Program) (kt : TypeId) : Option Ty :=
  match P.underlying kt with
  | some (.int k) => some (.int k)
  | some .string => some .str
  | _ => none

def lookupStep (P : Program) (H : List AObj) (t : TypeId) (m k : TV) (commaOk : Bool) : YR :=
  match P.underlying t, m with
  | some (.map kt et), .one (.map n) => match objAt H n, kindOf P et, keyTy P kt with
    | .map agg' κ τ es, some (agg, sz), some κ' => match decEq κ' κ, κ.decOne k, Nat.beq sz τ.wd && (agg == agg') with
      | isTrue _, some key, true => match asTV agg (τ.enc ((mapGet key es).getD τ.zero)) with
        | some v => match zeroOK P et agg τ with
          | true => match commaOk with
            | true => some ([], .tup [v, .one (.bool (mapGet key es).isSome)])
            | false => some ([], .t v)
          | false => none
        | none => none
      | _, _, _ => none
    | _, _, _ => none
  | _, _ => none

def minMax (mn : Bool) (k : IntKind) : Int → List TV → Option Int
  | a, [] => some a
  | a, .one (.int k' b) :: r => match decEq k k' with
    | isTrue _ => match mn with
      | true => minMax mn k (min a b) r
      | false => minMax mn k (max a b) r
    | isFalse _ => none
  | _, _ => none

def lenStep (P : Program) (H : List AObj) (ts : List TypeId) (v : BV) : YR :=
  match ts with
  | t :: _ => match P.underlying t, v with
    | some (.map _ _), .map n => match objAt H n with
      | .map _ _ _ es => yv (.int .i64 es.length)
      | _ => none
    | some (.map _ _), .nilm => yv (.int .i64 0)
    | some .string, .str s => yv (.int .i64 s.size)
    | some (.slice _), .str _ => none
    | some (.slice _), v => match lenOf H v with
      | some n => yv (.int .i64 n)
      | none => none
    | _, _ => none
  | [] => none

/-- A field's place: its cells' offset and number. -/
def placeB (P : Program) (fs : List Field) (i : Nat) : Option (Nat × Nat) :=
  match fs[i]? with
  | some fd => match P.info? fd.type with
    | some inf => some (fd.offset, inf.size)
    | none => none
  | none => none

def fillB (P : Program) (fs : List Field) : List BV → List (Nat × TV) → Option (List BV)
  | cs, [] => some cs
  | cs, (i, v) :: r => match placeB P fs i with
    | some (off, sz) => match Nat.beq (widths v.cells) sz, patchW off v.cells cs with
      | true, some cs' => fillB P fs cs' r
      | _, _ => none
    | none => none

/-- The value of a composite literal of a struct. -/
def buildStep (P : Program) (t : TypeId) (parts : List (Nat × TV)) : YR :=
  match P.underlying t, P.info? t with
  | some (.struct fs), some i => match i.zero with
    | some z => match (z.cells.toList.map ofCell).all BV.known, fs.toList.all fun f => (P.info? f.type).isSome with
      | true, true => match fillB P fs.toList (z.cells.toList.map ofCell) parts with
        | some cs => some ([], .t (.agg cs))
        | none => none
      | _, _ => none
    | none => none
  | _, _ => none

def zipParts : List (Nat × Operand) → List TV → Option (List (Nat × TV))
  | [], [] => some []
  | (i, _) :: r, v :: vs => match zipParts r vs with
    | some l => some ((i, v) :: l)
    | none => none
  | _, _ => none

def capNames : List TV → Option (List Nat)
  | [] => some []
  | .one (.ptr n 0) :: r => match capNames r with
    | some l => some (n :: l)
    | none => none
  | _ => none

def openAll : List SV → Option (List Prop × List TV)
  | [] => some ([], [])
  | v :: r => match open_ v, openAll r with
    | some (p, x), some (q, xs) => some (p ++ q, x :: xs)
    | _, _ => none

def noProps : YR → Bool
  | some ([], _) => true
  | _ => false

def isNilC : Operand → Bool
  | .const (.slice none 0 0) => true
  | _ => false

/-- A slice against nil. -/
def nilTest (P : Program) (H : List AObj) (o : BinOp) (t : TypeId) (x : TV) : YR :=
  match elemOf? P t, x with
  | some (_, τ, _), .one v => match v with
    | .nils => litOp o true
    | v => match listOf H τ v with
      | some xs => match o with
        | .eql => yv (.nz true (xs = []))
        | .neq => yv (.nz false (xs = []))
        | _ => none
      | none => none
  | _, _ => none

/-- The quiet operations on opened operands. -/
def quietOp (P : Program) (H : List AObj) (op : Op) (xs : List TV) : YR :=
  match op, xs with
  | .nilCheck _, [x] => nilCheckStep x
  | .binOp o t _ y _, [x, u] => match isNilC y with
    | true => match u with
      | .one .nils => nilTest P H o t x
      | _ => none
    | false => binStep P o t x u
  | .unOp o _ _, [x] => unStep o x
  | .convert s d _, [x] => convStep P H s d x
  | .fieldAddr s _ f, [x] => fieldAddrStep P s f x
  | .field s _ f, [x] => fieldStep P s f x
  | .indexAddr t _ _, [x, i] => indexAddrStep P H t x i
  | .index t _ _, [x, i] => indexStep P t x i
  | .load t _, [x] => loadStep P H t x
  | .lookup t _ _ ok, [m, k] => lookupStep P H t m k ok
  | .slice t _ none none none, [x] => sliceStep P H t x none none
  | .slice t _ (some _) none none, [x, l] => sliceStep P H t x (some l) none
  | .slice t _ none (some _) none, [x, h] => sliceStep P H t x none (some h)
  | .slice t _ (some _) (some _) none, [x, l, h] => sliceStep P H t x (some l) (some h)
  | .build t ps, xs => match zipParts ps.toList xs with
    | some l => buildStep P t l
    | none => none
  | .makeFunc (.func f) first _, xs => match first.toList, capNames xs with
    | [], some l => yv (.fn f l)
    | _, _ => none
  | .call c, xs => match c.callee with
    | .builtin .len => match xs with
      | [.one v] => lenStep P H c.argTypes.toList v
      | _ => none
    | .builtin .min => match xs with
      | .one (.int k a) :: r => match minMax true k a r with
        | some n => yv (.int k n)
        | none => none
      | _ => none
    | .builtin .max => match xs with
      | .one (.int k a) :: r => match minMax false k a r with
        | some n => yv (.int k n)
        | none => none
      | _ => none
    | _ => none
  | _, _ => none

/-- The quiet operations; 'none': not one of them, or not covered. -/
def quiet (P : Program) (H : List AObj) (op : Op) (vs : List SV) : YR :=
  match op, vs with
  | .move _, [v] => some ([], v)
  | .assign _, [v] => some ([], v)
  | .extract _ i, [.tup ts] => match ts[i]? with
    | some v => some ([], .t v)
    | none => none
  | op, vs => match openAll vs with
    | some (ps, xs) => match quietOp P H op xs with
      | some (qs, v) => some (ps ++ qs, v)
      | none => none
    | none => none

end Go.Proofs.Ythjogeodclpafaa.AM
