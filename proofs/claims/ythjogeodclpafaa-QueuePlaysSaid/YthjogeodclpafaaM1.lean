/- Parts of the proof. Abstract values, abstract heaps and the quiet steps of the abstract machine: definitions only, nothing is proved here. What abstract values and heaps stand for in a world of the model; what is kept from world to world. The pieces of abstract values read as their cells do: parsing, lists behind slices, cells at an address. The quiet operations of the abstract machine do what the model's do. The quiet operations of the abstract machine, the rest: memory that is read, addresses, slices, maps. Composite literals of structs; pieces that later texts want too. The quiet operations of the abstract machine: slicing, maps, builtins; and all of them together. Steps from heap to heap: what a step may turn, and the ways in which an abstract heap goes on. The operations of the abstract machine that make or write memory: definitions. The operations of the abstract machine that make or write memory do what the model's do. The operations that make or write memory, the rest: slices, stores, appends, maps. Appends, maps; all the operations that make or write memory together. -/
import Derived.Calls
import Derived.Orders
import Derived.Laws.BytesArg
import Derived.Laws.AppendOwn
import Derived.Below
import Derived.Laws.StructEq
import Derived.Laws.Slices
import Derived.Laws.Cells
import Derived.Laws.Small
import Derived.Tactics
import Derived.Laws.NewBlocks
import Derived.Laws.MakeOwn
import Derived.Laws.OwnMore
set_option linter.unusedVariables false
set_option linter.unusedSimpArgs false

section
namespace Go.Proofs.Ythjogeodclpafaa.AM
open Go

/-! ### Data types whose cells hold no address but that of frozen memory -/
inductive Ty where
  | int (k : IntKind) | bool | str
  | pair (a b : Ty) | sl (e : TypeId) (a : Ty) | arr (n : Nat) (a : Ty)
  deriving DecidableEq

@[reducible] def Ty.D : Ty → Type
  | .int _ => Int
  | .bool => Bool
  | .str => ByteArray
  | .pair a b => a.D × b.D
  | .sl _ a => List a.D
  | .arr _ a => List a.D

def Ty.wd : Ty → Nat
  | .pair a b => a.wd + b.wd
  | .arr n a => n * a.wd
  | _ => 1

def Ty.zero : (τ : Ty) → τ.D
  | .int _ => (0 : Int)
  | .bool => false
  | .str => (⟨#[]⟩ : ByteArray)
  | .pair a b => (a.zero, b.zero)
  | .sl _ _ => []
  | .arr n a => List.replicate n a.zero

def listEqb {α : Type} (f : α → α → Bool) : List α → List α → Bool
  | [], [] => true
  | x :: xs, y :: ys => f x y && listEqb f xs ys
  | _, _ => false

/-- Go's '=='. -/
def Ty.eqb : (τ : Ty) → τ.D → τ.D → Bool
  | .int _, x, y => (show Int from x) == (show Int from y)
  | .bool, x, y => (show Bool from x) == (show Bool from y)
  | .str, x, y => (show ByteArray from x).toList == (show ByteArray from y).toList
  | .pair a b, x, y => a.eqb x.1 y.1 && b.eqb x.2 y.2
  | .sl _ _, _, _ => false
  | .arr _ a, x, y => listEqb a.eqb x y

def Ty.flat : Ty → Bool
  | .pair a b => a.flat && b.flat
  | .arr _ a => a.flat
  | .sl _ _ => false
  | _ => true

/-! ### Values -/
/-- What one cell holds; 'arr': what a run of cells holds. -/
inductive BV where
  | any
  | int (k : IntKind) (n : Int)
  | bool (b : Bool)
  | lit (b : Bool)
  | str (s : ByteArray)
  | nilp | nils | nilm | nilf
  | ptr (n off : Nat)
  | eptr (n wd i off : Nat)
  | fptr (τ : Ty) (x : τ.D) (off : Nat)
  | aptr (n off m wd i o : Nat)
  | hd (n : Nat)
  | sub (n wd lo len : Nat)
  | fsl (e : TypeId) (τ : Ty) (xs : List τ.D)
  | map (n : Nat)
  | fn (f : FuncId) (caps : List Nat)
  | arr (m : Nat) (τ : Ty) (xs : List τ.D)
  | nz (w : Bool) (p : Prop)
  | pre (n len : Nat)
  | win (n wd lo len : Nat)
  | prec (n len : Nat)

inductive TV where
  | one (v : BV)
  | agg (cs : List BV)

inductive SV where
  | any
  | t (v : TV)
  | tup (vs : List TV)
  | cond (ts : List (Nat × Bool)) (g : Bool) (v : TV)

inductive AObj where
  | cells (t : TypeId) (cs : List BV)
  | row (e : TypeId) (τ : Ty) (xs : List τ.D)
  | map (agg : Bool) (κ τ : Ty) (es : List (κ.D × τ.D))
  | frow (e : TypeId) (τ : Ty) (xs : List τ.D)
  | buf (e : TypeId) (τ : Ty) (ys : List τ.D) (k : Nat)
  | dead

def SV.b (v : BV) : SV := .t (.one v)

def BV.wd : BV → Nat
  | .arr m τ _ => m * τ.wd
  | _ => 1

def widths : List BV → Nat
  | [] => 0
  | c :: cs => c.wd + widths cs

def TV.cells : TV → List BV
  | .one v => [v]
  | .agg cs => cs

/-- What an element's cells read as. -/
def Ty.enc : (τ : Ty) → τ.D → List BV
  | .int k, n => [.int k n]
  | .bool, b => [.bool b]
  | .str, s => [.str s]
  | .pair a b, x => a.enc x.1 ++ b.enc x.2
  | .sl e a, xs => [.fsl e a xs]
  | .arr n a, xs => [.arr n a xs]

def parseMany {α : Type} (f : List BV → Option (α × List BV)) : Nat → List BV → Option (List α × List BV)
  | 0, cs => some ([], cs)
  | n + 1, cs => match f cs with
    | some (x, r) => match parseMany f n r with
      | some (xs, r') => some (x :: xs, r')
      | none => none
    | none => none

def castL {a b : Ty} (h : a = b) (xs : List a.D) : List b.D := h ▸ xs

def Ty.parse : (τ : Ty) → List BV → Option (τ.D × List BV)
  | .int k, cs => match cs with
    | .int k' n :: r => match decEq k k' with
      | isTrue _ => some (n, r)
      | isFalse _ => none
    | _ => none
  | .bool, cs => match cs with
    | .bool b :: r => some (b, r)
    | .lit b :: r => some (b, r)
    | _ => none
  | .str, cs => match cs with
    | .str s :: r => some (s, r)
    | _ => none
  | .pair a b, cs => match a.parse cs with
    | some (x, r) => match b.parse r with
      | some (y, r') => some ((x, y), r')
      | none => none
    | none => none
  | .sl _ a, cs => match cs with
    | .fsl _ a' xs :: r => match decEq a' a with
      | isTrue h => some (castL h xs, r)
      | isFalse _ => none
    | .nils :: r => some ([], r)
    | _ => none
  | .arr n a, cs => match cs with
    | .arr m a' xs :: r => match decEq a' a with
      | isTrue h => match Nat.beq m n with
        | true => some (castL h xs, r)
        | false => none
      | isFalse _ => none
    | _ => parseMany a.parse n cs

/-- All of the cells. -/
def Ty.dec (τ : Ty) (cs : List BV) : Option τ.D :=
  match τ.parse cs with
  | some (x, []) => some x
  | _ => none

def Ty.decOne (τ : Ty) : TV → Option τ.D
  | .one v => τ.dec [v]
  | .agg _ => none

/-! ### Types of the program -/
def tyFields (f : TypeId → Option Ty) : List TypeId → Option Ty
  | [] => none
  | [t] => f t
  | t :: ts => match f t, tyFields f ts with
    | some a, some b => some (.pair a b)
    | _, _ => none

def tyOf (P : Program) : Nat → TypeId → Option Ty
  | 0, _ => none
  | n + 1, t => match P.underlying t with
    | some (.int k) => some (.int k)
    | some .bool => some .bool
    | some .string => some .str
    | some (.slice e) => match tyOf P n e with | some a => some (.sl e a) | none => none
    | some (.array m e) => match tyOf P n e with | some a => some (.arr m a) | none => none
    | some (.struct fs) => tyFields (tyOf P n) (fs.toList.map (·.type))
    | _ => none

def depth : Nat := 8

/-- The type of values that '==' compares part by part: the fields lie one behind the other. -/
def tyEqFields (P : Program) (f : TypeId → Option Ty) : Nat → List Field → Option Ty
  | _, [] => none
  | o, [fd] => match Nat.beq fd.offset o, fd.name != "_", f fd.type, P.info? fd.type with
    | true, true, some a, some i => match Nat.beq i.size a.wd with
      | true => some a
      | false => none
    | _, _, _, _ => none
  | o, fd :: r => match Nat.beq fd.offset o, fd.name != "_", f fd.type, P.info? fd.type with
    | true, true, some a, some i => match Nat.beq i.size a.wd, tyEqFields P f (o + a.wd) r with
      | true, some b => some (.pair a b)
      | _, _ => none
    | _, _, _, _ => none

def tyEq (P : Program) : Nat → TypeId → Option Ty
  | 0, _ => none
  | n + 1, t => match P.underlying t with
    | some (.int k) => some (.int k)
    | some .bool => some .bool
    | some .string => some .str
    | some (.struct fs) => match P.stoodInHeld t with
      | false => tyEqFields P (tyEq P n) 0 fs.toList
      | true => none
    | _ => none

/-- Is a value of this type an aggregate, and how many cells has it? -/
def kindOf (P : Program) (t : TypeId) : Option (Bool × Nat) :=
  match P.underlying t, P.info? t with
  | some (.struct _), some i => some (true, i.size)
  | some (.array _ _), some i => some (true, i.size)
  | some _, some i => some (false, i.size)
  | _, _ => none

/-- An element type, its kind and bytes: of slices. -/
def elemOf? (P : Program) (t : TypeId) : Option (TypeId × Ty × Nat) :=
  match P.underlying t with
  | some (.slice e) => match tyOf P depth e, P.info? e with
    | some τ, some i => match Nat.beq τ.wd i.size, Nat.beq i.size 0 with
      | true, false => some (e, τ, i.bytes)
      | _, _ => none
    | _, _ => none
  | _ => none

/-! ### Cells of an object -/
def dropW : Nat → List BV → Option (List BV)
  | 0, cs => some cs
  | _ + 1, [] => none
  | k + 1, c :: cs => match Nat.ble c.wd (k + 1) with
    | true => dropW (k + 1 - c.wd) cs
    | false => none
termination_by structural _ cs => cs

def takeW : Nat → List BV → Option (List BV)
  | 0, _ => some []
  | _ + 1, [] => none
  | k + 1, c :: cs => match Nat.ble c.wd (k + 1) with
    | true => match takeW (k + 1 - c.wd) cs with
      | some r => some (c :: r)
      | none => none
    | false => none
termination_by structural _ cs => cs

/-- 'n' cells from 'off' on. -/
def sliceW (off n : Nat) (cs : List BV) : Option (List BV) :=
  match dropW off cs with
  | some r => takeW n r
  | none => none

/-- As a value of a type. -/
def asTV (agg : Bool) (cs : List BV) : Option TV :=
  match agg with
  | true => some (.agg cs)
  | false => match cs with
    | [c] => match c with
      | .arr _ _ _ => none
      | c => some (.one c)
    | _ => none

/-- What is stored at 'off' replaces as many cells. -/
def patchW (off : Nat) (news cs : List BV) : Option (List BV) :=
  match takeW off cs, dropW (off + widths news) cs with
  | some a, some b => some (a ++ (news ++ b))
  | _, _ => none

/-! ### Slots -/
def sget : List (Nat × SV) → Nat → SV
  | [], _ => .any
  | (i, v) :: r, k => match Nat.beq i k with
    | true => v
    | false => sget r k

/-- In descending order, so that puts in whatever order come to the same. -/
def sput : List (Nat × SV) → Nat → SV → List (Nat × SV)
  | [], k, v => [(k, v)]
  | (i, u) :: r, k, v => match Nat.beq i k with
    | true => (k, v) :: r
    | false => match Nat.blt i k with
      | true => (k, v) :: (i, u) :: r
      | false => (i, u) :: sput r k v

structure St where
  n0 : Nat
  N : Nat
  sl : List (Nat × SV)
  H : List AObj

def ofCell : Value → BV
  | .int k n => .int k n
  | .bool b => .lit b
  | .string s => .str s
  | .pointer none => .nilp
  | .slice none 0 0 => .nils
  | .map none => .nilm
  | .nilFunc => .nilf
  | _ => .any

def BV.known : BV → Bool
  | .any => false
  | _ => true

def ofValue : Value → SV
  | .agg vs => match (vs.toList.map ofCell).all BV.known with
    | true => .t (.agg (vs.toList.map ofCell))
    | false => .any
  | .tuple _ => .any
  | v => match ofCell v with
    | .any => .any
    | c => .b c

def opSV (s : List (Nat × SV)) : Operand → SV
  | .tmp t => sget s t
  | .const v => ofValue v
  | .global _ => .any
  | .func f => .b (.fn f [])

def objAt (H : List AObj) (n : Nat) : AObj := H.getD n .dead

/-! ### Quiet steps: obligations and a value -/
abbrev YR := Option (List Prop × SV)

def yv (v : BV) : YR := some ([], .b v)

/-- The list behind a slice. -/
def listOf (H : List AObj) (τ : Ty) : BV → Option (List τ.D)
  | .nils => some []
  | .fsl _ a xs => match decEq a τ with
    | isTrue h => some (castL h xs)
    | isFalse _ => none
  | .hd n => match objAt H n with
    | .row _ a xs => match decEq a τ with
      | isTrue h => some (castL h xs)
      | isFalse _ => none
    | .frow _ a xs => match decEq a τ with
      | isTrue h => some (castL h xs)
      | isFalse _ => none
    | .buf _ a ys k => match decEq a τ with
      | isTrue h => some ((castL h ys).take k)
      | isFalse _ => none
    | _ => none
  | .sub n wd lo len => match objAt H n with
    | .row _ a xs => match decEq a τ, Nat.beq wd τ.wd with
      | isTrue h, true => some (((castL h xs).drop lo).take len)
      | _, _ => none
    | .frow _ a xs => match decEq a τ, Nat.beq wd τ.wd with
      | isTrue h, true => some (((castL h xs).drop lo).take len)
      | _, _ => none
    | _ => none
  | .pre n len => match objAt H n with
    | .row _ a xs => match decEq a τ with
      | isTrue h => some ((castL h xs).take len)
      | isFalse _ => none
    | .frow _ a xs => match decEq a τ with
      | isTrue h => some ((castL h xs).take len)
      | isFalse _ => none
    | _ => none
  | .prec n len => match objAt H n with
    | .buf _ a ys _ => match decEq a τ with
      | isTrue h => some ((castL h ys).take len)
      | isFalse _ => none
    | _ => none
  | .win n wd lo len => match objAt H n with
    | .buf _ a ys _ => match decEq a τ, Nat.beq wd τ.wd with
      | isTrue h, true => some (((castL h ys).drop lo).take len)
      | _, _ => none
    | _ => none
  | _ => none

def lenOf (H : List AObj) : BV → Option Nat
  | .nils => some 0
  | .fsl _ _ xs => some xs.length
  | .hd n => match objAt H n with
    | .row _ _ xs => some xs.length
    | .frow _ _ xs => some xs.length
    | .buf _ _ _ k => some k
    | _ => none
  | .sub _ _ _ len => some len
  | .pre _ len => some len
  | .prec _ len => some len
  | .win _ _ _ len => some len
  | .str s => some s.size
  | _ => none

def intOp (op : BinOp) (k : IntKind) (a b : Int) : YR :=
  match op with
  | .add => yv (.int k (k.wrap (a + b)))
  | .sub => yv (.int k (k.wrap (a - b)))
  | .mul => yv (.int k (k.wrap (a * b)))
  | .quo => some ([b ≠ 0], .b (.int k (k.wrap (a.tdiv b))))
  | .rem => some ([b ≠ 0], .b (.int k (a.tmod b)))
  | .and => yv (.int k (k.wrap (BitVec.ofInt k.bits a &&& BitVec.ofInt k.bits b).toNat))
  | .or => yv (.int k (k.wrap (BitVec.ofInt k.bits a ||| BitVec.ofInt k.bits b).toNat))
  | .xor => yv (.int k (k.wrap (BitVec.ofInt k.bits a ^^^ BitVec.ofInt k.bits b).toNat))
  | .eql => yv (.bool (a == b))
  | .neq => yv (.bool (a != b))
  | .lss => yv (.bool (decide (a < b)))
  | .leq => yv (.bool (decide (a ≤ b)))
  | .gtr => yv (.bool (decide (a > b)))
  | .geq => yv (.bool (decide (a ≥ b)))
  | _ => none

def shOp (op : BinOp) (k : IntKind) (a b : Int) : YR :=
  match op with
  | .shl => some ([0 ≤ b], .b (.int k (k.wrap (a * 2 ^ (min b.toNat k.bits)))))
  | .shr => some ([0 ≤ b], .b (.int k (a.fdiv (2 ^ (min b.toNat k.bits)))))
  | _ => none

def strOp (op : BinOp) (a b : ByteArray) : YR :=
  match op with
  | .add => some ([((a.size + b.size : Nat) : Int) ≤ IntKind.i64.max], .b (.str (a ++ b)))
  | .eql => yv (.bool (a.toList == b.toList))
  | .neq => yv (.bool (!(a.toList == b.toList)))
  | .lss => yv (.bool (Op.bytesLess a.toList b.toList))
  | .leq => yv (.bool (Op.bytesLess a.toList b.toList || a.toList == b.toList))
  | .gtr => yv (.bool (!(Op.bytesLess a.toList b.toList || a.toList == b.toList)))
  | .geq => yv (.bool (!Op.bytesLess a.toList b.toList))
  | _ => none

def boolOp (op : BinOp) (a b : Bool) : YR :=
  match op with
  | .eql => yv (.bool (a == b))
  | .neq => yv (.bool (!(a == b)))
  | _ => none

def litOp (op : BinOp) (b : Bool) : YR :=
  match op with
  | .eql => yv (.lit b)
  | .neq => yv (.lit (!b))
  | _ => none

def aggOp (P : Program) (op : BinOp) (t : TypeId) (xs ys : List BV) : YR :=
  match tyEq P depth t, P.eqGuardType P.depth t, kindOf P t with
  | some τ, false, some (true, sz) => match Nat.beq sz τ.wd, τ.dec xs, τ.dec ys with
    | true, some x, some y => match op with
      | .eql => yv (.bool (τ.eqb x y))
      | .neq => yv (.bool (!(τ.eqb x y)))
      | _ => none
    | _, _, _ => none
  | _, _, _ => none

def boolTy (P : Program) (t : TypeId) : Bool :=
  match P.underlying t with
  | some .bool => true
  | _ => false

def ptrTy (P : Program) (t : TypeId) : Bool :=
  match P.underlying t with
  | some (.pointer _) => true
  | _ => false

def binStep (P : Program) (op : BinOp) (t : TypeId) (x y : TV) : YR :=
  match x, y with
  | .one (.int k a), .one (.int k' b) => match op with
    | .shl => shOp op k a b
    | .shr => shOp op k a b
    | _ => match decEq k k' with
      | isTrue _ => intOp op k a b
      | isFalse _ => none
  | .one (.str a), .one (.str b) => strOp op a b
  | .one (.bool a), .one (.bool b) => match boolTy P t with | true => boolOp op a b | false => none
  | .one (.lit a), .one (.bool b) => match boolTy P t with | true => boolOp op a b | false => none
  | .one (.bool a), .one (.lit b) => match boolTy P t with | true => boolOp op a b | false => none
  | .one (.lit a), .one (.lit b) => match boolTy P t with | true => boolOp op a b | false => none
  | .one .nilp, .one .nilp => match ptrTy P t with | true => litOp op true | false => none
  | .one (.ptr _ _), .one .nilp => match ptrTy P t with | true => litOp op false | false => none
  | .one .nilp, .one (.ptr _ _) => match ptrTy P t with | true => litOp op false | false => none
  | .agg xs, .agg ys => aggOp P op t xs ys
  | _, _ => none

def unStep (op : UnOp) (x : TV) : YR :=
  match op, x with
  | .not, .one (.bool b) => yv (.bool (!b))
  | .not, .one (.lit b) => yv (.lit (!b))
  | .neg, .one (.int k n) => yv (.int k (k.wrap (0 - n)))
  | _, _ => none

def convStep (P : Program) (H : List AObj) (src dst : TypeId) (x : TV) : YR :=
  match P.underlying src, P.underlying dst, x with
  | some _, some (.int k), .one (.int _ n) => yv (.int k (k.wrap n))
  | some .string, some .string, .one (.str s) => yv (.str s)
  | some (.slice _), some .string, .one v => match elemOf? P src with
    | some (e, .int .u8, _) => match P.underlying e, listOf H (.int .u8) v with
      | some (.int .u8), some xs => yv (.str (strOfNums xs))
      | _, _ => none
    | _ => none
  | _, _, _ => none

/-- A field's place: its type, its cells' offset. -/
def fieldOf (P : Program) (s : TypeId) (f : Nat) : Option (TypeId × Nat × Bool × Nat) :=
  match P.underlying s with
  | some (.struct fields) => match fields.toList[f]? with
    | some fld => match kindOf P fld.type with
      | some (agg, sz) => some (fld.type, fld.offset, agg, sz)
      | none => none
    | none => none
  | _ => none

def fieldAddrStep (P : Program) (s : TypeId) (f : Nat) (x : TV) : YR :=
  match fieldOf P s f, x with
  | some (_, o, _, sz), .one p => match Nat.beq sz 0 with
    | true => none
    | false => match p with
      | .ptr n off => yv (.ptr n (off + o))
      | .eptr n wd i off => yv (.eptr n wd i (off + o))
      | .fptr τ v off => yv (.fptr τ v (off + o))
      | .aptr n off m wd i q => yv (.aptr n off m wd i (q + o))
      | _ => none
  | _, _ => none

def tvR : Option TV → YR
  | some v => some ([], .t v)
  | none => none

def fieldStep (P : Program) (s : TypeId) (f : Nat) (x : TV) : YR :=
  match fieldOf P s f, x with
  | some (_, o, agg, sz), .agg cs => match sliceW o sz cs with
    | some r => tvR (asTV agg r)
    | none => none
  | _, _ => none

/-- The run of an array at 'off'. -/
def runAt (off : Nat) (cs : List BV) : Option (Nat × (τ : Ty) × List τ.D) :=
  match dropW off cs with
  | some (.arr m τ xs :: _) => some (m, ⟨τ, xs⟩)
  | _ => none

def indexAddrStep (P : Program) (H : List AObj) (t : TypeId) (x : TV) (i : TV) : YR :=
  match x, i with
  | .one p, .one (.int _ i) => match P.underlying t with
    | some (.slice _) => match elemOf? P t with
      | some (_, τ, _) => match p with
        | .fsl _ a xs => match decEq a τ with
          | isTrue h => some ([0 ≤ i ∧ i < xs.length], .b (.fptr τ ((castL h xs).getD i.toNat τ.zero) 0))
          | isFalse _ => none
        | .hd n => match lenOf H p with
          | some l => some ([0 ≤ i ∧ i < l], .b (.eptr n τ.wd i.toNat 0))
          | none => none
        | .sub n wd lo l => match Nat.beq wd τ.wd with
          | true => some ([0 ≤ i ∧ i < l], .b (.eptr n τ.wd (lo + i.toNat) 0))
          | false => none
        | _ => none
      | none => none
    | some (.array m e) => match p, kindOf P e with
      | .ptr n off, some (_, sz) => match objAt H n with
        | .cells _ cs => match runAt off cs with
          | some (m', ⟨τ, _⟩) => match Nat.beq m m', Nat.beq sz τ.wd, Nat.ble 2 m with
            | true, true, true => some ([0 ≤ i ∧ i < m], .b (.aptr n off m τ.wd i.toNat 0))
            | _, _, _ => none
          | none => none
        | _ => none
      | _, _ => none
    | _ => none
  | _, _ => none

def indexStep (P : Program) (t : TypeId) (x : TV) (i : TV) : YR :=
  match x, i with
  | .one (.str s), .one (.int _ i) => match P.underlying t with
    | some .string => some ([0 ≤ i ∧ i < s.size], .b (.int .u8 ((s.toList.getD i.toNat 0).toNat)))
    | _ => none
  | .agg [.arr m τ xs], .one (.int _ i) => match P.underlying t with
    | some (.array m' e) => match kindOf P e with
      | some (agg, sz) => match Nat.beq m m', Nat.beq sz τ.wd with
        | true, true => match asTV agg (τ.enc (xs.getD i.toNat τ.zero)) with
          | some v => some ([0 ≤ i ∧ i < m], .t v)
          | none => none
        | _, _ => none
      | none => none
    | _ => none
  | _, _ => none

/-- The cells at an address. -/
def cellsAt (H : List AObj) (sz : Nat) : BV → Option (List Prop × List BV)
  | .ptr n off => match objAt H n with
    | .cells _ cs => match sliceW off sz cs with
      | some r => some ([], r)
      | none => none
    | _ => none
  | .eptr n wd i off => match objAt H n with
    | .row _ τ xs => match Nat.beq wd τ.wd, sliceW off sz (τ.enc (xs.getD i τ.zero)) with
      | true, some r => some ([i < xs.length], r)
      | _, _ => none
    | .frow _ τ xs => match Nat.beq wd τ.wd, sliceW off sz (τ.enc (xs.getD i τ.zero)) with
      | true, some r => some ([i < xs.length], r)
      | _, _ => none
    | _ => none
  | .fptr τ x off => match sliceW off sz (τ.enc x) with
    | some r => some ([], r)
    | none => none
  | .aptr n off m wd i o => match objAt H n with
    | .cells _ cs => match runAt off cs with
      | some (m', ⟨τ, xs⟩) => match Nat.beq wd τ.wd, Nat.beq m m', sliceW o sz (τ.enc (xs.getD i τ.zero)) with
        | true, true, some r => some ([i < m], r)
        | _, _, _ => none
      | none => none
    | _ => none
  | _ => none

def loadStep (P : Program) (H : List AObj) (t : TypeId) (x : TV) : YR :=
  match kindOf P t, x with
  | some (agg, sz), .one p => match cellsAt H sz p with
    | some (obs, cs) => match asTV agg cs with
      | some v => some (obs, .t v)
      | none => none
    | none => none
  | _, _ => none

def nilCheckStep (x : TV) : YR :=
  match x with
  | .one (.ptr n off) => yv (.ptr n off)
  | .one (.eptr n wd i off) => yv (.eptr n wd i off)
  | .one (.fptr τ v off) => yv (.fptr τ v off)
  | .one (.aptr n off m wd i o) => yv (.aptr n off m wd i o)
  | .one (.fn f c) => yv (.fn f c)
  | _ => none

def pickB (c : Bool) (x y : TV) : Option BV :=
  match x, y with
  | .one (.bool a), .one (.lit false) => some (.bool (c && a))
  | .one (.lit true), .one (.bool b) => some (.bool (c || b))
  | .one (.bool a), .one (.bool b) => some (.bool (bif c then a else b))
  | .one (.lit a), .one (.lit b) => some (.bool (bif c then a else b))
  | .one (.lit a), .one (.bool b) => some (.bool (bif c then a else b))
  | .one (.bool a), .one (.lit b) => some (.bool (bif c then a else b))
  | _, _ => none

/-- Take a value out of its condition. -/
def open_ (v : SV) : Option (List Prop × TV) :=
  match v with
  | .t x => some ([], x)
  | _ => none

def under (b : Prop) (ps : List Prop) : List Prop := ps.map fun p => b → p

def pickStep (c x y : SV) : YR :=
  match c with
  | .t (.one (.lit true)) => match x with
    | .t v => some ([], .t v)
    | _ => none
  | .t (.one (.lit false)) => match y with
    | .t v => some ([], .t v)
    | _ => none
  | .t (.one (.bool b)) => match x, y with
    | .t v, .t u => match pickB b v u with
      | some r => some ([], .b r)
      | none => none
    | _, _ => none
  | _ => none

def boundOf (d : Nat) : Option TV → Option Int
  | none => some d
  | some (.one (.int _ i)) => some i
  | _ => none

def sliceStep (P : Program) (H : List AObj) (t : TypeId) (x : TV) (lo hi : Option TV) : YR :=
  match x with
  | .one (.str s) => match P.underlying t, boundOf 0 lo, boundOf s.size hi with
    | some .string, some l, some h => some ([0 ≤ h ∧ h ≤ s.size, 0 ≤ l ∧ l ≤ h], .b (.str (s.extract l.toNat h.toNat)))
    | _, _, _ => none
  | .one p => match elemOf? P t, lenOf H p with
    | some (e, τ, _), some n => match boundOf 0 lo, boundOf n hi with
      | some l, some h => match p with
        | .fsl _ a xs => match decEq a τ with
          | isTrue q => some ([0 ≤ h ∧ h ≤ n, 0 ≤ l ∧ l ≤ h], .b (.fsl e τ (((castL q xs).drop l.toNat).take (h.toNat - l.toNat))))
          | isFalse _ => none
        | .hd m => match objAt H m with
          | .buf _ _ _ _ => none
          | _ => match lo with
            | none => some ([0 ≤ h ∧ h ≤ n, 0 ≤ l ∧ l ≤ h], .b (.pre m h.toNat))
            | some _ => some ([0 ≤ h ∧ h ≤ n, 0 ≤ l ∧ l ≤ h], .b (.sub m τ.wd l.toNat (h.toNat - l.toNat)))
        | .sub m wd lo' _ => match Nat.beq wd τ.wd with
          | true => some ([0 ≤ h ∧ h ≤ n, 0 ≤ l ∧ l ≤ h], .b (.sub m τ.wd (lo' + l.toNat) (h.toNat - l.toNat)))
          | false => none
        | .nils => some ([h = 0, l = 0], .b .nils)
        | _ => none
      | _, _ => none
    | _, _ => none
  | _ => none

def cellEqb : Value → Value → Bool
  | .int k a, .int k' b => (decide (k = k')) && (decide (a = b))
  | .bool a, .bool b => a == b
  | .string a, .string b => a.toList == b.toList
  | .pointer none, .pointer none => true
  | .slice none 0 0, .slice none 0 0 => true
  | .map none, .map none => true
  | .nilFunc, .nilFunc => true
  | _, _ => false

/-- The type's zero value, cell by cell. -/
def Ty.zcells : Ty → List Value
  | .int k => [.int k 0]
  | .bool => [.bool false]
  | .str => [.string ⟨#[]⟩]
  | .pair a b => a.zcells ++ b.zcells
  | .sl _ _ => [.slice none 0 0]
  | .arr n a => (List.replicate n a.zcells).flatten

def allEqb : List Value → List Value → Bool
  | [], [] => true
  | a :: as, b :: bs => cellEqb a b && allEqb as bs
  | _, _ => false

/-- Is the program's zero value of the type that of 'τ'? -/
def zeroOK (P : Program) (t : TypeId) (agg : Bool) (τ : Ty) : Bool :=
  match P.info? t with
  | some i => match i.zero with
    | some (.agg cs) => agg && allEqb cs.toList τ.zcells
    | some z => !agg && allEqb [z] τ.zcells
    | none => false
  | none => false

def mapGet {κ τ : Ty} (k : κ.D) : List (κ.D × τ.D) → Option τ.D
  | [] => none
  | (a, b) :: r => match κ.eqb k a with
    | true => some b
    | false => mapGet k r

/-- Keys are integers or strings. -/
def keyTy (P : Program) (kt : TypeId) : Option Ty :=
  match P.underlying kt with
  | some (.int k) => some (.int k)
  | some .string => some .str
  | _ => none

def lookupStep (P : Program) (H : List AObj) (t : TypeId) (m k : TV) (commaOk : Bool) : YR :=
  match P.underlying t, m with
  | some (.map kt et), .one (.map n) => match objAt H n, kindOf P et, keyTy P kt with
    | .map agg' κ τ es, some (agg, sz), some κ' => match decEq κ' κ, κ.decOne k, Nat.beq sz τ.wd && (agg == agg') with
      | isTrue _, some key, true => match asTV agg (τ.enc ((mapGet key es).getD τ.zero)) with
        | some v => match zeroOK P et agg τ with
          | true => match commaOk with
            | true => some ([], .tup [v, .one (.bool (mapGet key es).isSome)])
            | false => some ([], .t v)
          | false => none
        | none => none
      | _, _, _ => none
    | _, _, _ => none
  | _, _ => none

def minMax (mn : Bool) (k : IntKind) : Int → List TV → Option Int
  | a, [] => some a
  | a, .one (.int k' b) :: r => match decEq k k' with
    | isTrue _ => match mn with
      | true => minMax mn k (min a b) r
      | false => minMax mn k (max a b) r
    | isFalse _ => none
  | _, _ => none

def lenStep (P : Program) (H : List AObj) (ts : List TypeId) (v : BV) : YR :=
  match ts with
  | t :: _ => match P.underlying t, v with
    | some (.map _ _), .map n => match objAt H n with
      | .map _ _ _ es => yv (.int .i64 es.length)
      | _ => none
    | some (.map _ _), .nilm => yv (.int .i64 0)
    | some .string, .str s => yv (.int .i64 s.size)
    | some (.slice _), .str _ => none
    | some (.slice _), v => match lenOf H v with
      | some n => yv (.int .i64 n)
      | none => none
    | _, _ => none
  | [] => none

/-- A field's place: its cells' offset and number. -/
def placeB (P : Program) (fs : List Field) (i : Nat) : Option (Nat × Nat) :=
  match fs[i]? with
  | some fd => match P.info? fd.type with
    | some inf => some (fd.offset, inf.size)
    | none => none
  | none => none

def fillB (P : Program) (fs : List Field) : List BV → List (Nat × TV) → Option (List BV)
  | cs, [] => some cs
  | cs, (i, v) :: r => match placeB P fs i with
    | some (off, sz) => match Nat.beq (widths v.cells) sz, patchW off v.cells cs with
      | true, some cs' => fillB P fs cs' r
      | _, _ => none
    | none => none

/-- The value of a composite literal of a struct. -/
def buildStep (P : Program) (t : TypeId) (parts : List (Nat × TV)) : YR :=
  match P.underlying t, P.info? t with
  | some (.struct fs), some i => match i.zero with
    | some z => match (z.cells.toList.map ofCell).all BV.known, fs.toList.all fun f => (P.info? f.type).isSome with
      | true, true => match fillB P fs.toList (z.cells.toList.map ofCell) parts with
        | some cs => some ([], .t (.agg cs))
        | none => none
      | _, _ => none
    | none => none
  | _, _ => none

def zipParts : List (Nat × Operand) → List TV → Option (List (Nat × TV))
  | [], [] => some []
  | (i, _) :: r, v :: vs => match zipParts r vs with
    | some l => some ((i, v) :: l)
    | none => none
  | _, _ => none

def capNames : List TV → Option (List Nat)
  | [] => some []
  | .one (.ptr n 0) :: r => match capNames r with
    | some l => some (n :: l)
    | none => none
  | _ => none

def openAll : List SV → Option (List Prop × List TV)
  | [] => some ([], [])
  | v :: r => match open_ v, openAll r with
    | some (p, x), some (q, xs) => some (p ++ q, x :: xs)
    | _, _ => none

def noProps : YR → Bool
  | some ([], _) => true
  | _ => false

def isNilC : Operand → Bool
  | .const (.slice none 0 0) => true
  | _ => false

/-- A slice against nil. -/
def nilTest (P : Program) (H : List AObj) (o : BinOp) (t : TypeId) (x : TV) : YR :=
  match elemOf? P t, x with
  | some (_, τ, _), .one v => match v with
    | .nils => litOp o true
    | v => match listOf H τ v with
      | some xs => match o with
        | .eql => yv (.nz true (xs = []))
        | .neq => yv (.nz false (xs = []))
        | _ => none
      | none => none
  | _, _ => none

/-- The quiet operations on opened operands. -/
def quietOp (P : Program) (H : List AObj) (op : Op) (xs : List TV) : YR :=
  match op, xs with
  | .nilCheck _, [x] => nilCheckStep x
  | .binOp o t _ y _, [x, u] => match isNilC y with
    | true => match u with
      | .one .nils => nilTest P H o t x
      | _ => none
    | false => binStep P o t x u
  | .unOp o _ _, [x] => unStep o x
  | .convert s d _, [x] => convStep P H s d x
  | .fieldAddr s _ f, [x] => fieldAddrStep P s f x
  | .field s _ f, [x] => fieldStep P s f x
  | .indexAddr t _ _, [x, i] => indexAddrStep P H t x i
  | .index t _ _, [x, i] => indexStep P t x i
  | .load t _, [x] => loadStep P H t x
  | .lookup t _ _ ok, [m, k] => lookupStep P H t m k ok
  | .slice t _ none none none, [x] => sliceStep P H t x none none
  | .slice t _ (some _) none none, [x, l] => sliceStep P H t x (some l) none
  | .slice t _ none (some _) none, [x, h] => sliceStep P H t x none (some h)
  | .slice t _ (some _) (some _) none, [x, l, h] => sliceStep P H t x (some l) (some h)
  | .build t ps, xs => match zipParts ps.toList xs with
    | some l => buildStep P t l
    | none => none
  | .makeFunc (.func f) first _, xs => match first.toList, capNames xs with
    | [], some l => yv (.fn f l)
    | _, _ => none
  | .call c, xs => match c.callee with
    | .builtin .len => match xs with
      | [.one v] => lenStep P H c.argTypes.toList v
      | _ => none
    | .builtin .min => match xs with
      | .one (.int k a) :: r => match minMax true k a r with
        | some n => yv (.int k n)
        | none => none
      | _ => none
    | .builtin .max => match xs with
      | .one (.int k a) :: r => match minMax false k a r with
        | some n => yv (.int k n)
        | none => none
      | _ => none
    | _ => none
  | _, _ => none

/-- The quiet operations; 'none': not one of them, or not covered. -/
def quiet (P : Program) (H : List AObj) (op : Op) (vs : List SV) : YR :=
  match op, vs with
  | .move _, [v] => some ([], v)
  | .assign _, [v] => some ([], v)
  | .extract _ i, [.tup ts] => match ts[i]? with
    | some v => some ([], .t v)
    | none => none
  | op, vs => match openAll vs with
    | some (ps, xs) => match quietOp P H op xs with
      | some (qs, v) => some (ps ++ qs, v)
      | none => none
    | none => none

end Go.Proofs.Ythjogeodclpafaa.AM
end

section
set_option linter.unusedVariables false
set_option linter.unusedSimpArgs false
namespace Go.Proofs.Ythjogeodclpafaa.AM
open Go

/-- A list of cells that is the pieces of the elements, one after the other. -/
def EncAll {α : Type} (R : α → List Value → Prop) : List α → List Value → Prop
  | [], cs => cs = []
  | x :: xs, cs => ∃ c1 c2, cs = c1 ++ c2 ∧ R x c1 ∧ EncAll R xs c2

/-- A slice of n elements whose cells, in frozen blocks, are 'cs'. -/
def FrozenAt (Z : Nat → Prop) (w : World) (R : List Value → Prop) (n : Nat) (v : Value) : Prop :=
  ∃ A c cs, v = .slice A n c ∧ n ≤ c ∧ c ≤ maxLen ∧ R cs ∧
    (n ≠ 0 → ∃ ad, A = some ad ∧ ad.spot = none ∧ Z ad.block ∧ ∀ j u, cs[j]? = some u → w.cell? (ad.add j) = some u)

def Ty.Enc (Z : Nat → Prop) (w : World) : (τ : Ty) → τ.D → List Value → Prop
  | .int k, n, cs => cs = [.int k n]
  | .bool, b, cs => cs = [.bool b]
  | .str, s, cs => cs = [.string s]
  | .pair a b, x, cs => ∃ c1 c2, cs = c1 ++ c2 ∧ a.Enc Z w x.1 c1 ∧ b.Enc Z w x.2 c2
  | .sl _ a, xs, cs => ∃ v, cs = [v] ∧ FrozenAt Z w (EncAll (a.Enc Z w) xs) xs.length v
  | .arr n a, xs, cs => xs.length = n ∧ EncAll (a.Enc Z w) xs cs

def CapsOK (β : List Value) : List Nat → List Value → Prop
  | [], vs => vs = []
  | n :: ns, vs => ∃ b r, vs = .pointer (some ⟨b, 0, none⟩) :: r ∧ β[n]? = some (.pointer (some ⟨b, 0, none⟩)) ∧ CapsOK β ns r

def BV.conc (β : List Value) (Z : Nat → Prop) (w : World) : BV → List Value → Prop
  | .any, cs => ∃ v, cs = [v] ∧ v.oneCell' = true
  | .int k n, cs => cs = [.int k n]
  | .bool b, cs => cs = [.bool b]
  | .lit b, cs => cs = [.bool b]
  | .str s, cs => cs = [.string s]
  | .nilp, cs => cs = [.pointer none]
  | .nils, cs => cs = [.slice none 0 0]
  | .nilm, cs => cs = [.map none]
  | .nilf, cs => cs = [.nilFunc]
  | .ptr n off, cs => ∃ b, β[n]? = some (.pointer (some ⟨b, 0, none⟩)) ∧ cs = [.pointer (some ⟨b, off, none⟩)]
  | .eptr n wd i off, cs => ∃ b m c, β[n]? = some (.slice (some ⟨b, 0, none⟩) m c) ∧ cs = [.pointer (some ⟨b, i * wd + off, none⟩)]
  | .fptr τ x off, cs => ∃ b o es, cs = [.pointer (some ⟨b, o + off, none⟩)] ∧ Z b ∧ τ.Enc Z w x es ∧
      ∀ j u, es[j]? = some u → w.cell? ⟨b, o + j, none⟩ = some u
  | .aptr n off _ wd i o, cs => ∃ b, β[n]? = some (.pointer (some ⟨b, 0, none⟩)) ∧ cs = [.pointer (some ⟨b, off + i * wd + o, none⟩)]
  | .hd n, cs => ∃ A m c, β[n]? = some (.slice A m c) ∧ cs = [.slice A m c]
  | .sub n wd lo len, cs => ∃ A m c A' c', β[n]? = some (.slice A m c) ∧ cs = [.slice A' len c'] ∧ lo + len ≤ m ∧ m ≤ c ∧ lo + c' = c ∧ c ≤ maxLen ∧
      (len ≠ 0 → ∃ b, A = some ⟨b, 0, none⟩ ∧ A' = some ⟨b, lo * wd, none⟩)
  | .fsl _ τ xs, cs => ∃ v, cs = [v] ∧ FrozenAt Z w (EncAll (τ.Enc Z w) xs) xs.length v
  | .map n, cs => ∃ b, β[n]? = some (.map (some b)) ∧ cs = [.map (some b)]
  | .fn f caps, cs => ∃ vs, cs = [.func (.func f) #[] vs.toArray] ∧ CapsOK β caps vs
  | .arr m τ xs, cs => xs.length = m ∧ EncAll (τ.Enc Z w) xs cs
  | .nz t p, cs => ∃ b, cs = [.bool b] ∧ (b = t → p)
  | .pre n len, cs => ∃ A m c, β[n]? = some (.slice A m c) ∧ cs = [.slice A len c] ∧ len ≤ m ∧ m ≤ c ∧ c ≤ maxLen
  | .prec n len, cs => ∃ A m c, β[n]? = some (.slice A m c) ∧ cs = [.slice A len c] ∧ len ≤ c ∧ c ≤ maxLen
  | .win n wd lo len, cs => ∃ A m c A' c', β[n]? = some (.slice A m c) ∧ cs = [.slice A' len c'] ∧ lo + len ≤ c ∧ lo + c' = c ∧ c ≤ maxLen ∧
      (len ≠ 0 → ∃ b, A = some ⟨b, 0, none⟩ ∧ A' = some ⟨b, lo * wd, none⟩)

def ConcL (β : List Value) (Z : Nat → Prop) (w : World) : List BV → List Value → Prop
  | [], vs => vs = []
  | c :: cs, vs => ∃ v1 v2, vs = v1 ++ v2 ∧ c.conc β Z w v1 ∧ ConcL β Z w cs v2

def TV.conc (β : List Value) (Z : Nat → Prop) (w : World) : TV → Value → Prop
  | .one v, x => v.conc β Z w [x]
  | .agg cs, x => ∃ vs, x = .agg vs ∧ ConcL β Z w cs vs.toList

def TVs (β : List Value) (Z : Nat → Prop) (w : World) : List TV → List Value → Prop
  | [], xs => xs = []
  | t :: ts, xs => ∃ x r, xs = x :: r ∧ t.conc β Z w x ∧ TVs β Z w ts r

def SV.conc (β : List Value) (Z : Nat → Prop) (w : World) : SV → Value → Prop
  | .any, _ => True
  | .t v, x => v.conc β Z w x
  | .tup ts, x => ∃ xs, x = .tuple xs ∧ TVs β Z w ts xs.toList
  | .cond _ g v, x => (g = true → v.conc β Z w x) ∧ (g = false → x = undef)

/-- A value by its cells: one cell by itself, or an aggregate. -/
def valOf (agg : Bool) (cs : List Value) : Value := if agg then .agg cs.toArray else cs.headD undef

def MapEnc {κ τ : Ty} (agg : Bool) (Z : Nat → Prop) (w : World) : List (κ.D × τ.D) → List MapEntry → Prop
  | [], ms => ms = []
  | (k, x) :: r, ms => ∃ e ms', ms = e :: ms' ∧ κ.Enc Z w k [e.key] ∧ (∃ cv, e.val = valOf agg cv ∧ τ.Enc Z w x cv) ∧ MapEnc agg Z w r ms'

/-- The cells of a slice's block from the k-th on are elements of the type as well. -/
def Spare (τ : Ty) (Z : Nat → Prop) (w : World) (v : Value) (k : Nat) : Prop :=
  ∀ (g n cap : Nat) (cur : Array Value) (t : TypeId) (o : Nat × Nat), v = .slice (some ⟨g, 0, none⟩) n cap → w.heap[g]? = some (.cells cur t o) → ∃ js, EncAll (τ.Enc Z w) js (cur.toList.drop k)

def ObjOK (β : List Value) (Z : Nat → Prop) (w : World) (v : Value) : AObj → Prop
  | .cells t cs => ∃ b vs, v = .pointer (some ⟨b, 0, none⟩) ∧ w.heap[b]? = some (.cells vs t (0, 0)) ∧ ConcL β Z w cs vs.toList
  | .row e τ xs => ∃ cs, w.ownsRow 0 e τ.wd v xs.length cs ∧ EncAll (τ.Enc Z w) xs cs ∧ Spare τ Z w v (xs.length * τ.wd)
  | .map agg κ τ es => ∃ b ms clock, v = .map (some b) ∧ w.heap[b]? = some (.map ms clock) ∧ MapEnc (κ := κ) (τ := τ) agg Z w es ms.toList
  | .frow _ τ xs => FrozenAt Z w (EncAll (τ.Enc Z w) xs) xs.length v ∧ ∀ A n c, v = .slice A n c → n ≠ 0 → ∃ b, A = some ⟨b, 0, none⟩
  | .buf e τ ys k => ∃ A cs, v = .slice A k ys.length ∧ k ≤ ys.length ∧ w.ownsRow 0 e τ.wd (.slice A ys.length ys.length) ys.length cs ∧ EncAll (τ.Enc Z w) ys cs
  | .dead => True

def blockOf : Value → Option Nat
  | .pointer (some a) => some a.block
  | .slice (some a) _ _ => some a.block
  | .map (some b) => some b
  | _ => none

def AObj.live : AObj → Bool
  | .frow _ _ _ => false
  | .dead => false
  | _ => true

/-- The blocks that belong to a heap's live objects. -/
def LiveB (β : List Value) (H : List AObj) (b : Nat) : Prop := ∃ (n : Nat) (o : AObj) (v : Value), H[n]? = some o ∧ o.live = true ∧ β[n]? = some v ∧ blockOf v = some b

structure HeapOK (β : List Value) (H : List AObj) (Z : Nat → Prop) (w : World) : Prop where
  len : β.length = H.length
  objs : ∀ (n : Nat) (o : AObj) (v : Value), H[n]? = some o → β[n]? = some v → ObjOK β Z w v o
  apart : ∀ (n m : Nat) (o p : AObj) (u v : Value) (b : Nat), H[n]? = some o → H[m]? = some p → o.live = true → p.live = true → β[n]? = some u → β[m]? = some v →
    blockOf u = some b → blockOf v = some b → n = m
  frz : ∀ b, LiveB β H b → ¬ Z b
  zlt : ∀ b, Z b → b < w.heap.size

/-- From world to world: nothing has turned but the blocks of 'L' and what is new. -/
structure Keep (L : Nat → Prop) (w w' : World) : Prop where
  os : w'.os = w.os
  tape : w'.tape = w.tape
  output : w'.output = w.output
  size : w.heap.size ≤ w'.heap.size
  block : ∀ b, b < w.heap.size → ¬ L b → w'.heap[b]? = w.heap[b]?

theorem Keep.refl (L : Nat → Prop) (w : World) : Keep L w w := ⟨rfl, rfl, rfl, Nat.le_refl _, fun _ _ _ => rfl⟩
theorem Keep.drew {L : Nat → Prop} {w w' : World} (h : Keep L w w') : Keep L w w'.drew := ⟨h.os, h.tape, h.output, h.size, h.block⟩
theorem Keep.mono {L L' : Nat → Prop} {w w' : World} (h : Keep L w w') (hL : ∀ b, L b → L' b) : Keep L' w w' :=
  ⟨h.os, h.tape, h.output, h.size, fun b hb hn => h.block b hb fun hl => hn (hL b hl)⟩
theorem Keep.trans {L L' : Nat → Prop} {a b c : World} (h : Keep L a b) (k : Keep L' b c) (hL : ∀ x, x < a.heap.size → L' x → L x) : Keep L a c :=
  ⟨k.os.trans h.os, k.tape.trans h.tape, k.output.trans h.output, Nat.le_trans h.size k.size, fun x hx hn =>
    (k.block x (Nat.lt_of_lt_of_le hx h.size) fun hl => hn (hL x hx hl)).trans (h.block x hx hn)⟩
theorem Keep.alloc {L : Nat → Prop} {w w' : World} (h : Keep L w w') (o : Obj) : Keep L w (w'.alloc o) :=
  h.trans (L' := fun _ => False) ⟨rfl, rfl, rfl, by simp, fun b hb _ => heap_alloc_old _ _ _ hb⟩ (fun _ _ h => h.elim)

/-! ### What is kept when frozen blocks stay as they are -/
structure ZKeep (Z Z' : Nat → Prop) (w w' : World) : Prop where
  sub : ∀ b, Z b → Z' b
  block : ∀ b, Z b → w'.heap[b]? = w.heap[b]?

theorem EncAll.mono {α : Type} {R R' : α → List Value → Prop} (h : ∀ x cs, R x cs → R' x cs) : ∀ {xs : List α} {cs : List Value}, EncAll R xs cs → EncAll R' xs cs
  | [], _, hh => hh
  | _ :: _, _, ⟨c1, c2, e, h1, h2⟩ => ⟨c1, c2, e, h _ _ h1, EncAll.mono h h2⟩

theorem ZKeep.cell {Z Z' : Nat → Prop} {w w' : World} (k : ZKeep Z Z' w w') {a : Addr} (h : Z a.block) : w'.cell? a = w.cell? a := World.cell?_of_block (k.block _ h)

theorem Addr.add_block (a : Addr) (j : Nat) : (a.add j).block = a.block := by unfold Addr.add; split <;> rfl

theorem FrozenAt.mono {Z Z' : Nat → Prop} {w w' : World} (k : ZKeep Z Z' w w') {R R' : List Value → Prop} (hR : ∀ cs, R cs → R' cs) {n : Nat} {v : Value} (h : FrozenAt Z w R n v) : FrozenAt Z' w' R' n v := by
  obtain ⟨A, c, cs, e, h1, h2, h3, h4⟩ := h
  refine ⟨A, c, cs, e, h1, h2, hR _ h3, fun hn => ?_⟩
  obtain ⟨ad, e1, e2, e3, e4⟩ := h4 hn
  exact ⟨ad, e1, e2, k.sub _ e3, fun j u hj => (k.cell (by rw [Addr.add_block]; exact e3)).trans (e4 j u hj)⟩

theorem Ty.Enc.mono {Z Z' : Nat → Prop} {w w' : World} (k : ZKeep Z Z' w w') : ∀ (τ : Ty) {x : τ.D} {cs : List Value}, τ.Enc Z w x cs → τ.Enc Z' w' x cs
  | .int _, _, _, h => h
  | .bool, _, _, h => h
  | .str, _, _, h => h
  | .pair a b, _, _, ⟨c1, c2, e, h1, h2⟩ => ⟨c1, c2, e, Ty.Enc.mono k a h1, Ty.Enc.mono k b h2⟩
  | .sl _ a, _, _, ⟨v, e, h⟩ => ⟨v, e, h.mono k fun _ hh => hh.mono fun _ _ => Ty.Enc.mono k a⟩
  | .arr _ a, _, _, ⟨e, h⟩ => ⟨e, h.mono fun _ _ => Ty.Enc.mono k a⟩

theorem get_app {β ext : List Value} {n : Nat} {v : Value} (h : β[n]? = some v) : (β ++ ext)[n]? = some v := by
  have hn : n < β.length := (List.getElem?_eq_some_iff.1 h).1
  rw [List.getElem?_append_left hn]; exact h

theorem CapsOK.mono {β ext : List Value} : ∀ {ns : List Nat} {vs : List Value}, CapsOK β ns vs → CapsOK (β ++ ext) ns vs
  | [], _, h => h
  | _ :: _, _, ⟨b, r, e, h, hr⟩ => ⟨b, r, e, get_app h, CapsOK.mono hr⟩

theorem BV.conc.mono {β ext : List Value} {Z Z' : Nat → Prop} {w w' : World} (k : ZKeep Z Z' w w') : ∀ {v : BV} {cs : List Value}, v.conc β Z w cs → v.conc (β ++ ext) Z' w' cs
  | .any, _, h => h
  | .int _ _, _, h => h
  | .bool _, _, h => h
  | .lit _, _, h => h
  | .str _, _, h => h
  | .nilp, _, h => h
  | .nils, _, h => h
  | .nilm, _, h => h
  | .nilf, _, h => h
  | .ptr _ _, _, ⟨b, h, e⟩ => ⟨b, get_app h, e⟩
  | .eptr _ _ _ _, _, ⟨b, m, c, h, e⟩ => ⟨b, m, c, get_app h, e⟩
  | .fptr τ _ _, _, ⟨b, o, es, e, hz, he, hc⟩ => ⟨b, o, es, e, k.sub _ hz, he.mono k, fun j u hj => (k.cell (a := ⟨b, o + j, none⟩) hz).trans (hc j u hj)⟩
  | .aptr _ _ _ _ _ _, _, ⟨b, h, e⟩ => ⟨b, get_app h, e⟩
  | .hd _, _, ⟨A, m, c, h, e⟩ => ⟨A, m, c, get_app h, e⟩
  | .sub _ _ _ _, _, ⟨A, m, c, A', c', h, r⟩ => ⟨A, m, c, A', c', get_app h, r⟩
  | .fsl _ τ _, _, ⟨v, e, h⟩ => ⟨v, e, h.mono k fun _ hh => hh.mono fun _ _ => Ty.Enc.mono k τ⟩
  | .map _, _, ⟨b, h, e⟩ => ⟨b, get_app h, e⟩
  | .fn _ _, _, ⟨vs, e, h⟩ => ⟨vs, e, h.mono⟩
  | .arr _ τ _, _, ⟨e, h⟩ => ⟨e, h.mono fun _ _ => Ty.Enc.mono k τ⟩
  | .nz _ _, _, h => h
  | .pre _ _, _, ⟨A, m, c, h, e⟩ => ⟨A, m, c, get_app h, e⟩
  | .prec _ _, _, ⟨A, m, c, h, e⟩ => ⟨A, m, c, get_app h, e⟩
  | .win _ _ _ _, _, ⟨A, m, c, A', c', h, r⟩ => ⟨A, m, c, A', c', get_app h, r⟩

theorem ConcL.mono {β ext : List Value} {Z Z' : Nat → Prop} {w w' : World} (k : ZKeep Z Z' w w') : ∀ {cs : List BV} {vs : List Value}, ConcL β Z w cs vs → ConcL (β ++ ext) Z' w' cs vs
  | [], _, h => h
  | _ :: _, _, ⟨v1, v2, e, h1, h2⟩ => ⟨v1, v2, e, h1.mono k, ConcL.mono k h2⟩

theorem TV.conc.mono {β ext : List Value} {Z Z' : Nat → Prop} {w w' : World} (k : ZKeep Z Z' w w') : ∀ {t : TV} {x : Value}, t.conc β Z w x → t.conc (β ++ ext) Z' w' x
  | .one _, _, h => BV.conc.mono k h
  | .agg _, _, ⟨vs, e, h⟩ => ⟨vs, e, h.mono k⟩

theorem TVs.mono {β ext : List Value} {Z Z' : Nat → Prop} {w w' : World} (k : ZKeep Z Z' w w') : ∀ {ts : List TV} {xs : List Value}, TVs β Z w ts xs → TVs (β ++ ext) Z' w' ts xs
  | [], _, h => h
  | _ :: _, _, ⟨x, r, e, h1, h2⟩ => ⟨x, r, e, h1.mono k, TVs.mono k h2⟩

theorem SV.conc.mono {β ext : List Value} {Z Z' : Nat → Prop} {w w' : World} (k : ZKeep Z Z' w w') : ∀ {t : SV} {x : Value}, t.conc β Z w x → t.conc (β ++ ext) Z' w' x
  | .any, _, _ => trivial
  | .t _, _, h => TV.conc.mono k h
  | .tup _, _, ⟨xs, e, h⟩ => ⟨xs, e, h.mono k⟩
  | .cond _ _ _, _, h => ⟨fun hb => (h.1 hb).mono k, h.2⟩

theorem ZKeep.refl (Z : Nat → Prop) (w : World) : ZKeep Z Z w w := ⟨fun _ h => h, fun _ _ => rfl⟩
theorem ZKeep.drew (Z : Nat → Prop) (w : World) : ZKeep Z Z w w.drew := ⟨fun _ h => h, fun _ _ => rfl⟩

theorem MapEnc.mono {κ τ : Ty} {agg : Bool} {Z Z' : Nat → Prop} {w w' : World} (k : ZKeep Z Z' w w') : ∀ {es : List (κ.D × τ.D)} {ms : List MapEntry}, MapEnc agg Z w es ms → MapEnc agg Z' w' es ms
  | [], _, h => h
  | _ :: _, _, ⟨e, ms', h, h1, ⟨cv, e2, h2⟩, hr⟩ => ⟨e, ms', h, h1.mono k, ⟨cv, e2, h2.mono k⟩, hr.mono k⟩

theorem ownsRow_block {w w' : World} {base : Nat} {e : TypeId} {size n : Nat} {v : Value} {xs : List Value} (h : w.ownsRow base e size v n xs) (hb : ∀ b, blockOf v = some b → w'.heap[b]? = w.heap[b]?) : w'.ownsRow base e size v n xs := by
  refine ⟨h.1, ?_⟩
  rcases h.2 with hn | ⟨g, cap, cur, rfl, h1, h2, rest⟩
  · exact .inl hn
  · exact .inr ⟨g, cap, cur, rfl, h1, (hb g rfl).trans h2, rest⟩

theorem Spare.mono {τ : Ty} {Z Z' : Nat → Prop} {w w' : World} (k : ZKeep Z Z' w w') {v : Value} (hb : ∀ b, blockOf v = some b → w'.heap[b]? = w.heap[b]?) {n : Nat} (h : Spare τ Z w v n) : Spare τ Z' w' v n := by
  intro g m cap cur t o e hg
  obtain ⟨js, hj⟩ := h g m cap cur t o e (by rw [← hb g (by rw [e]; rfl)]; exact hg)
  exact ⟨js, hj.mono fun _ _ => Ty.Enc.mono k τ⟩

/-- An object whose own block stays as it is. -/
theorem ObjOK.mono {β ext : List Value} {Z Z' : Nat → Prop} {w w' : World} (k : ZKeep Z Z' w w') {v : Value} : ∀ {o : AObj}, (o.live = true → ∀ b, blockOf v = some b → w'.heap[b]? = w.heap[b]?) → ObjOK β Z w v o → ObjOK (β ++ ext) Z' w' v o
  | .cells _ _, hb, ⟨b, vs, e, h1, h2⟩ => ⟨b, vs, e, (hb rfl b (by rw [e]; rfl)).trans h1, h2.mono k⟩
  | .row _ τ _, hb, ⟨cs, h1, h2, h3⟩ => ⟨cs, ownsRow_block h1 (hb rfl), h2.mono fun _ _ => Ty.Enc.mono k τ, h3.mono k (hb rfl)⟩
  | .map _ _ _ _, hb, ⟨b, ms, cl, e, h1, h2⟩ => ⟨b, ms, cl, e, (hb rfl b (by rw [e]; rfl)).trans h1, h2.mono k⟩
  | .frow _ τ _, _, ⟨h, hA⟩ => ⟨h.mono k fun _ hh => hh.mono fun _ _ => Ty.Enc.mono k τ, hA⟩
  | .buf _ τ _ _, hb, ⟨A, cs, e, h1, h2, h3⟩ => ⟨A, cs, e, h1, ownsRow_block h2 (fun b hbb => hb rfl b (by rw [e]; cases A with | none => cases hbb | some a => exact hbb)), h3.mono fun _ _ => Ty.Enc.mono k τ⟩
  | .dead, _, _ => trivial

theorem app_nil_conc {P : List Value → Prop} {β : List Value} (h : P (β ++ [])) : P β := by simpa using h

end Go.Proofs.Ythjogeodclpafaa.AM
end

section
set_option linter.unusedVariables false
set_option linter.unusedSimpArgs false
namespace Go.Proofs.Ythjogeodclpafaa.AM
open Go

section
variable {β : List Value} {Z : Nat → Prop} {w : World}

theorem EncAll.length {α : Type} {R : α → List Value → Prop} {k : Nat} (h : ∀ x cs, R x cs → cs.length = k) : ∀ {xs : List α} {cs : List Value}, EncAll R xs cs → cs.length = xs.length * k
  | [], _, e => by simp [EncAll] at e; simp [e]
  | x :: xs, _, ⟨c1, c2, e, h1, h2⟩ => by
    have := EncAll.length h h2
    simp only [e, List.length_append, h x c1 h1, this, List.length_cons, Nat.add_mul]; omega

theorem Ty.Enc.length : ∀ (τ : Ty) {x : τ.D} {cs : List Value}, τ.Enc Z w x cs → cs.length = τ.wd
  | .int _, _, _, e => by simp [Ty.Enc] at e; simp [e, Ty.wd]
  | .bool, _, _, e => by simp [Ty.Enc] at e; simp [e, Ty.wd]
  | .str, _, _, e => by simp [Ty.Enc] at e; simp [e, Ty.wd]
  | .pair a b, _, _, ⟨c1, c2, e, h1, h2⟩ => by simp [e, Ty.wd, Ty.Enc.length a h1, Ty.Enc.length b h2]
  | .sl _ a, _, _, ⟨v, e, _⟩ => by simp [e, Ty.wd]
  | .arr n a, _, _, ⟨e, h⟩ => by rw [EncAll.length (fun _ _ => Ty.Enc.length a) h, e]; rfl

theorem BV.conc.length : ∀ {v : BV} {cs : List Value}, v.conc β Z w cs → cs.length = v.wd
  | .any, _, ⟨_, e, _⟩ => by simp [e, BV.wd]
  | .int _ _, _, e => by simp [BV.conc] at e; simp [e, BV.wd]
  | .bool _, _, e => by simp [BV.conc] at e; simp [e, BV.wd]
  | .lit _, _, e => by simp [BV.conc] at e; simp [e, BV.wd]
  | .str _, _, e => by simp [BV.conc] at e; simp [e, BV.wd]
  | .nilp, _, e => by simp [BV.conc] at e; simp [e, BV.wd]
  | .nils, _, e => by simp [BV.conc] at e; simp [e, BV.wd]
  | .nilm, _, e => by simp [BV.conc] at e; simp [e, BV.wd]
  | .nilf, _, e => by simp [BV.conc] at e; simp [e, BV.wd]
  | .ptr _ _, _, ⟨b, h, e⟩ => by simp [e, BV.wd]
  | .eptr _ _ _ _, _, ⟨b, m, c, h, e⟩ => by simp [e, BV.wd]
  | .fptr _ _ _, _, ⟨b, o, es, e, _⟩ => by simp [e, BV.wd]
  | .aptr _ _ _ _ _ _, _, ⟨b, h, e⟩ => by simp [e, BV.wd]
  | .hd _, _, ⟨A, m, c, h, e⟩ => by simp [e, BV.wd]
  | .sub _ _ _ _, _, ⟨A, m, c, A', c', h, e, _⟩ => by simp [e, BV.wd]
  | .fsl _ _ _, _, ⟨v, e, h⟩ => by simp [e, BV.wd]
  | .map _, _, ⟨b, h, e⟩ => by simp [e, BV.wd]
  | .fn _ _, _, ⟨vs, e, h⟩ => by simp [e, BV.wd]
  | .arr m τ xs, _, ⟨e, h⟩ => by rw [EncAll.length (fun _ _ => Ty.Enc.length τ) h, e]; rfl
  | .nz _ _, _, ⟨b, e, _⟩ => by simp [e, BV.wd]
  | .pre _ _, _, ⟨A, m, c, h, e, _⟩ => by simp [e, BV.wd]
  | .win _ _ _ _, _, ⟨A, m, c, A', c', h, e, _⟩ => by simp [e, BV.wd]
  | .prec _ _, _, ⟨A, m, c, h, e, _⟩ => by simp [e, BV.wd]

theorem ConcL.length : ∀ {cs : List BV} {vs : List Value}, ConcL β Z w cs vs → vs.length = widths cs
  | [], _, e => by simp [ConcL] at e; simp [e, widths]
  | _ :: _, _, ⟨v1, v2, e, h1, h2⟩ => by simp [e, widths, h1.length, ConcL.length h2]

theorem ConcL.app {β : List Value} {Z : Nat → Prop} {w : World} : ∀ {as bs : List BV} {us vs : List Value}, ConcL β Z w as us → ConcL β Z w bs vs → ConcL β Z w (as ++ bs) (us ++ vs)
  | [], _, _, _, e, h => by simp [ConcL] at e; simpa [e] using h
  | _ :: _, _, _, _, ⟨v1, v2, e, h1, h2⟩, h => ⟨v1, v2 ++ _, by rw [e, List.append_assoc], h1, ConcL.app h2 h⟩

theorem ConcL.split : ∀ {as bs : List BV} {vs : List Value}, ConcL β Z w (as ++ bs) vs → ∃ us us', vs = us ++ us' ∧ ConcL β Z w as us ∧ ConcL β Z w bs us'
  | [], _, vs, h => ⟨[], vs, rfl, rfl, h⟩
  | _ :: _, _, _, ⟨v1, v2, e, h1, h2⟩ => by
    obtain ⟨us, us', e', ha, hb⟩ := ConcL.split h2
    exact ⟨v1 ++ us, us', by rw [e, e', List.append_assoc], ⟨v1, us, rfl, h1, ha⟩, hb⟩

theorem dropW_conc : ∀ {cs : List BV} {k : Nat} {r : List BV} {vs : List Value}, dropW k cs = some r → ConcL β Z w cs vs → ∃ us us', vs = us ++ us' ∧ us.length = k ∧ ConcL β Z w r us'
  | cs, 0, r, vs, h, hc => by simp [dropW] at h; exact ⟨[], vs, rfl, rfl, h ▸ hc⟩
  | [], k + 1, r, vs, h, hc => by simp [dropW] at h
  | c :: cs, k + 1, r, vs, h, ⟨v1, v2, e, h1, h2⟩ => by
    simp only [dropW] at h
    split at h
    · rename_i hb
      have hle := Nat.le_of_ble_eq_true hb
      obtain ⟨us, us', e', hl, hr⟩ := dropW_conc h h2
      exact ⟨v1 ++ us, us', by rw [e, e', List.append_assoc], by rw [List.length_append, h1.length, hl]; omega, hr⟩
    · cases h

theorem takeW_conc : ∀ {cs : List BV} {k : Nat} {r : List BV} {vs : List Value}, takeW k cs = some r → ConcL β Z w cs vs → ∃ us us', vs = us ++ us' ∧ us.length = k ∧ ConcL β Z w r us
  | cs, 0, r, vs, h, hc => by simp [takeW] at h; exact ⟨[], vs, rfl, rfl, by rw [h]; rfl⟩
  | [], k + 1, r, vs, h, hc => by simp [takeW] at h
  | c :: cs, k + 1, r, vs, h, ⟨v1, v2, e, h1, h2⟩ => by
    simp only [takeW] at h
    split at h
    · rename_i hb
      have hle := Nat.le_of_ble_eq_true hb
      split at h
      · rename_i r' hr'
        obtain ⟨us, us', e', hl, hr⟩ := takeW_conc hr' h2
        cases h
        exact ⟨v1 ++ us, us', by rw [e, e', List.append_assoc], by rw [List.length_append, h1.length, hl]; omega, v1, us, rfl, h1, hr⟩
      · cases h
    · cases h

theorem sliceW_conc {off n : Nat} {cs r : List BV} {vs : List Value} (h : sliceW off n cs = some r) (hc : ConcL β Z w cs vs) :
    ∃ us, us.length = n ∧ ConcL β Z w r us ∧ us = vs.extract off (off + n) ∧ off + n ≤ vs.length ∧ ∀ j u, us[j]? = some u → vs[off + j]? = some u := by
  unfold sliceW at h
  split at h
  · rename_i r' hr'
    obtain ⟨a, b, e, hl, hb⟩ := dropW_conc hr' hc
    obtain ⟨us, us', e', hl', hr⟩ := takeW_conc h hb
    subst e e' hl hl'
    refine ⟨us, rfl, hr, ?_, by simp, fun j u hj => ?_⟩
    · rw [List.extract_eq_take_drop]; simp
    · rw [List.getElem?_append_right (by omega), Nat.add_sub_cancel_left, List.getElem?_append_left (List.getElem?_eq_some_iff.1 hj).1]; exact hj
  · cases h

theorem enc_conc : ∀ (τ : Ty) {x : τ.D} {cs : List Value}, τ.Enc Z w x cs → ConcL β Z w (τ.enc x) cs
  | .int _, _, _, e => ⟨_, [], by simp, e, rfl⟩
  | .bool, _, _, e => ⟨_, [], by simp, e, rfl⟩
  | .str, _, _, e => ⟨_, [], by simp, e, rfl⟩
  | .pair a b, _, _, ⟨c1, c2, e, h1, h2⟩ => by rw [e]; exact ConcL.app (enc_conc a h1) (enc_conc b h2)
  | .sl _ a, _, _, h => ⟨_, [], by simp, h, rfl⟩
  | .arr n a, _, _, h => ⟨_, [], by simp, h, rfl⟩

theorem enc_wd : ∀ (τ : Ty) (x : τ.D), widths (τ.enc x) = τ.wd
  | .int _, _ => rfl
  | .bool, _ => rfl
  | .str, _ => rfl
  | .pair a b, x => by
    have h : ∀ (l m : List BV), widths (l ++ m) = widths l + widths m := by
      intro l m; induction l with
      | nil => simp [widths]
      | cons c l ih => simp [widths, ih, Nat.add_assoc]
    simp [Ty.enc, h, enc_wd a, enc_wd b, Ty.wd]
  | .sl _ _, _ => rfl
  | .arr _ _, _ => rfl

theorem castL_enc {a b : Ty} (h : a = b) (xs : List a.D) (cs : List Value) : EncAll (a.Enc Z w) xs cs ↔ EncAll (b.Enc Z w) (castL h xs) cs := by subst h; exact Iff.rfl
theorem castL_length {a b : Ty} (h : a = b) (xs : List a.D) : (castL h xs).length = xs.length := by subst h; rfl

theorem parseMany_conc {α : Type} {f : List BV → Option (α × List BV)} {R : α → List Value → Prop}
    (hf : ∀ cs x r vs, f cs = some (x, r) → ConcL β Z w cs vs → ∃ v1 v2, vs = v1 ++ v2 ∧ R x v1 ∧ ConcL β Z w r v2) :
    ∀ (n : Nat) {cs : List BV} {xs : List α} {r : List BV} {vs : List Value}, parseMany f n cs = some (xs, r) → ConcL β Z w cs vs →
      ∃ v1 v2, vs = v1 ++ v2 ∧ xs.length = n ∧ EncAll R xs v1 ∧ ConcL β Z w r v2
  | 0, cs, xs, r, vs, h, hc => by simp [parseMany] at h; obtain ⟨rfl, rfl⟩ := h; exact ⟨[], vs, rfl, rfl, rfl, hc⟩
  | n + 1, cs, xs, r, vs, h, hc => by
    simp only [parseMany] at h
    split at h
    · rename_i x r' hx
      split at h
      · rename_i xs' r'' hxs
        cases h
        obtain ⟨v1, v2, e, h1, h2⟩ := hf _ _ _ _ hx hc
        obtain ⟨u1, u2, e', hl, h3, h4⟩ := parseMany_conc hf n hxs h2
        exact ⟨v1 ++ u1, u2, by rw [e, e', List.append_assoc], by simp [hl], ⟨v1, u1, rfl, h1, h3⟩, h4⟩
      · cases h
    · cases h

theorem parse_conc : ∀ (τ : Ty) (cs : List BV) (x : τ.D) (r : List BV) (vs : List Value), τ.parse cs = some (x, r) → ConcL β Z w cs vs →
    ∃ v1 v2, vs = v1 ++ v2 ∧ τ.Enc Z w x v1 ∧ ConcL β Z w r v2
  | .int k, cs, x, r, vs, h, hc => by
    simp only [Ty.parse] at h
    split at h
    · split at h
      · rename_i he _
        subst he
        cases h
        obtain ⟨v1, v2, e, h1, h2⟩ := hc
        exact ⟨v1, v2, e, h1, h2⟩
      · cases h
    · cases h
  | .bool, cs, x, r, vs, h, hc => by
    simp only [Ty.parse] at h
    split at h
    · cases h
      obtain ⟨v1, v2, e, h1, h2⟩ := hc
      exact ⟨v1, v2, e, h1, h2⟩
    · cases h
      obtain ⟨v1, v2, e, h1, h2⟩ := hc
      exact ⟨v1, v2, e, h1, h2⟩
    · cases h
  | .str, cs, x, r, vs, h, hc => by
    simp only [Ty.parse] at h
    split at h
    · cases h
      obtain ⟨v1, v2, e, h1, h2⟩ := hc
      exact ⟨v1, v2, e, h1, h2⟩
    · cases h
  | .pair a b, cs, x, r, vs, h, hc => by
    simp only [Ty.parse] at h
    split at h
    · rename_i x1 r1 hx
      split at h
      · rename_i y r2 hy
        cases h
        obtain ⟨v1, v2, e, h1, h2⟩ := parse_conc a _ _ _ _ hx hc
        obtain ⟨u1, u2, e', h3, h4⟩ := parse_conc b _ _ _ _ hy h2
        exact ⟨v1 ++ u1, u2, by rw [e, e', List.append_assoc], ⟨v1, u1, rfl, h1, h3⟩, h4⟩
      · cases h
    · cases h
  | .sl e0 a, cs, x, r, vs, h, hc => by
    simp only [Ty.parse] at h
    split at h
    · split at h
      · rename_i q _
        subst q
        cases h
        obtain ⟨v1, v2, e, h1, h2⟩ := hc
        exact ⟨v1, v2, e, h1, h2⟩
      · cases h
    · cases h
      obtain ⟨v1, v2, e, h1, h2⟩ := hc
      refine ⟨v1, v2, e, ⟨_, h1, ?_⟩, h2⟩
      exact ⟨none, 0, [], rfl, Nat.le_refl _, by unfold maxLen; omega, rfl, fun hn => absurd rfl hn⟩
    · cases h
  | .arr n a, cs, x, r, vs, h, hc => by
    simp only [Ty.parse] at h
    split at h
    · split at h
      · rename_i q _
        split at h
        · rename_i hm
          have hm := Nat.eq_of_beq_eq_true hm
          subst q hm
          cases h
          obtain ⟨v1, v2, e, h1, h2⟩ := hc
          exact ⟨v1, v2, e, h1, h2⟩
        · cases h
      · cases h
    · obtain ⟨v1, v2, e, hl, h1, h2⟩ := parseMany_conc (R := a.Enc Z w) (fun cs x r vs => parse_conc a cs x r vs) n h hc
      exact ⟨v1, v2, e, ⟨hl, h1⟩, h2⟩

theorem dec_conc {τ : Ty} {cs : List BV} {x : τ.D} {vs : List Value} (h : τ.dec cs = some x) (hc : ConcL β Z w cs vs) : τ.Enc Z w x vs := by
  unfold Ty.dec at h
  split at h
  · rename_i x' hx
    cases h
    obtain ⟨v1, v2, e, h1, h2⟩ := parse_conc τ _ _ _ _ hx hc
    simp [ConcL] at h2
    simpa [e, h2] using h1
  · cases h

/-! ### Lists behind slices -/
/-- A slice value that reads, in this world, as the list. -/
def ReadsL (w : World) (R : List Value → Prop) (n : Nat) (x : Value) : Prop :=
  ∃ A c cs, x = .slice A n c ∧ n ≤ c ∧ c ≤ maxLen ∧ R cs ∧ (n ≠ 0 → ∃ ad, A = some ad ∧ ad.spot = none ∧ ∀ j u, cs[j]? = some u → w.cell? (ad.add j) = some u)

theorem EncAll.drop {α : Type} {R : α → List Value → Prop} {k : Nat} (hR : ∀ x cs, R x cs → cs.length = k) : ∀ (m : Nat) {xs : List α} {cs : List Value}, EncAll R xs cs → EncAll R (xs.drop m) (cs.drop (m * k))
  | 0, _, _, h => by simpa using h
  | m + 1, [], _, h => by simp [EncAll] at h; simp [h, EncAll]
  | m + 1, x :: xs, _, ⟨c1, c2, e, h1, h2⟩ => by
    have := EncAll.drop hR m h2
    subst e
    rw [List.drop_succ_cons, Nat.add_mul, Nat.one_mul, Nat.add_comm, ← hR _ _ h1, ← List.drop_drop, List.drop_left, hR _ _ h1]
    exact this

theorem EncAll.take {α : Type} {R : α → List Value → Prop} {k : Nat} (hR : ∀ x cs, R x cs → cs.length = k) : ∀ (m : Nat) {xs : List α} {cs : List Value}, EncAll R xs cs → EncAll R (xs.take m) (cs.take (m * k))
  | 0, _, _, h => by simp [EncAll]
  | m + 1, [], _, h => by simp [EncAll] at h; simp [h, EncAll]
  | m + 1, x :: xs, _, ⟨c1, c2, e, h1, h2⟩ => by
    have := EncAll.take hR m h2
    subst e
    rw [List.take_succ_cons, Nat.add_mul, Nat.one_mul, Nat.add_comm, ← hR _ _ h1, List.take_length_add_append, hR _ _ h1]
    exact ⟨c1, _, rfl, h1, this⟩

theorem EncAll.getD {α : Type} {R : α → List Value → Prop} {k : Nat} (hR : ∀ x cs, R x cs → cs.length = k) (z : α) : ∀ (i : Nat) {xs : List α} {cs : List Value}, EncAll R xs cs → i < xs.length →
    ∃ es, R (xs.getD i z) es ∧ ∀ j u, es[j]? = some u → cs[i * k + j]? = some u
  | 0, x :: xs, _, ⟨c1, c2, e, h1, h2⟩, _ => ⟨c1, h1, fun j u hj => by rw [e, Nat.zero_mul, Nat.zero_add, List.getElem?_append_left (List.getElem?_eq_some_iff.1 hj).1]; exact hj⟩
  | i + 1, x :: xs, _, ⟨c1, c2, e, h1, h2⟩, hi => by
    obtain ⟨es, h3, h4⟩ := EncAll.getD hR z i h2 (by simpa using hi)
    refine ⟨es, h3, fun j u hj => ?_⟩
    have := h4 j u hj
    have hl := hR _ _ h1
    rw [e, List.getElem?_append_right (by rw [hl, Nat.add_mul]; omega), hl, show (i + 1) * k + j - k = i * k + j by rw [Nat.add_mul]; omega]
    exact this
  | _, [], _, _, hi => by simp at hi

theorem Addr.add_zero' (b o j : Nat) : (⟨b, o, none⟩ : Addr).add j = ⟨b, o + j, none⟩ := by
  unfold Addr.add; split <;> simp_all

theorem Addr.add_spot {a : Addr} (h : a.spot = none) (j : Nat) : a.add j = ⟨a.block, a.off + j, none⟩ := by
  obtain ⟨b, o, s⟩ := a; simp at h; subst h; exact Addr.add_zero' b o j

structure ObjsOK (β : List Value) (Z : Nat → Prop) (w : World) (H : List AObj) : Prop where
  len : β.length = H.length
  objs : ∀ (n : Nat) (o : AObj) (v : Value), H[n]? = some o → β[n]? = some v → ObjOK β Z w v o

theorem ObjsOK.at_ {H : List AObj} (h : ObjsOK β Z w H) {n : Nat} {v : Value} (hv : β[n]? = some v) : ObjOK β Z w v (objAt H n) := by
  have hn : n < H.length := by rw [← h.len]; exact (List.getElem?_eq_some_iff.1 hv).1
  have : H[n]? = some (objAt H n) := by unfold objAt; rw [List.getD_eq_getElem?_getD, List.getElem?_eq_getElem hn]; rfl
  exact h.objs n _ v this hv

theorem FrozenAt.reads {R : List Value → Prop} {n : Nat} {x : Value} (h : FrozenAt Z w R n x) : ReadsL w R n x := by
  obtain ⟨A, c, cs, e, h1, h2, h3, h4⟩ := h
  exact ⟨A, c, cs, e, h1, h2, h3, fun hn => let ⟨ad, a, b, _, d⟩ := h4 hn; ⟨ad, a, b, d⟩⟩

theorem ownsRow_reads {e : TypeId} {size n : Nat} {v : Value} {cs : List Value} (h : w.ownsRow 0 e size v n cs) : ReadsL w (fun l => l = cs) n v ∧ ∃ A c, v = .slice A n c ∧ ∀ ad, A = some ad → ∃ b, ad = ⟨b, 0, none⟩ := by
  rcases h.2 with ⟨rfl, rfl⟩ | ⟨g, cap, cur, rfl, _, _, h1, h2, _⟩
  · exact ⟨⟨none, 0, cs, rfl, Nat.le_refl _, by unfold maxLen; omega, rfl, fun hn => absurd rfl hn⟩, none, 0, rfl, fun ad h => by cases h⟩
  · exact ⟨⟨_, cap, cs, rfl, h1, h2, rfl, fun _ => ⟨_, rfl, rfl, h.cells rfl⟩⟩, _, cap, rfl, fun ad h => by cases h; exact ⟨g, rfl⟩⟩

theorem ReadsL.mono {R R' : List Value → Prop} (hR : ∀ cs, R cs → R' cs) {n : Nat} {x : Value} (h : ReadsL w R n x) : ReadsL w R' n x :=
  let ⟨A, c, cs, e, h1, h2, h3, h4⟩ := h
  ⟨A, c, cs, e, h1, h2, hR _ h3, h4⟩

/-- A view of a slice that begins at the begin of its block. -/
theorem ReadsL.sub {α : Type} {R : α → List Value → Prop} {k : Nat} (hR : ∀ x cs, R x cs → cs.length = k) {xs : List α} {A : Option Addr} {m c : Nat} (hm : m = xs.length) (h : ReadsL w (EncAll R xs) xs.length (.slice A m c))
    {A' : Option Addr} {c' lo len : Nat} (h1 : lo + len ≤ m) (h2 : lo + c' = c) (h3 : len ≠ 0 → ∃ b, A = some ⟨b, 0, none⟩ ∧ A' = some ⟨b, lo * k, none⟩) :
    ReadsL w (EncAll R ((xs.drop lo).take len)) len (.slice A' len c') ∧ ((xs.drop lo).take len).length = len := by
  obtain ⟨A0, c0, cs, e, q1, q2, q3, q4⟩ := h
  cases e
  refine ⟨⟨A', c', (cs.drop (lo * k)).take (len * k), rfl, by omega, by omega, (q3.drop hR lo).take hR len, fun hn => ?_⟩, by simp; omega⟩
  obtain ⟨b, e1, e2⟩ := h3 hn
  obtain ⟨ad, e3, _, e4⟩ := q4 (by omega)
  rw [e1] at e3; cases e3
  refine ⟨_, e2, rfl, fun j u hj => ?_⟩
  have : cs[lo * k + j]? = some u := by
    rw [List.getElem?_take] at hj
    split at hj
    · rwa [List.getElem?_drop] at hj
    · cases hj
  have := e4 _ _ this
  rw [Addr.add_zero'] at this ⊢
  rwa [Nat.zero_add] at this

theorem buf_reads {v : Value} {e : TypeId} {τ : Ty} {ys : List τ.D} {k : Nat} (h : ObjOK β Z w v (.buf e τ ys k)) :
    ∃ A, v = .slice A k ys.length ∧ k ≤ ys.length ∧ ys.length ≤ maxLen ∧ ReadsL w (EncAll (τ.Enc Z w) ys) ys.length (.slice A ys.length ys.length) ∧ ∀ ad, A = some ad → ∃ b, ad = ⟨b, 0, none⟩ := by
  obtain ⟨A, cs, e1, h1, h2, h3⟩ := h
  obtain ⟨hr, A', c', e2, hA⟩ := ownsRow_reads h2
  simp only [Value.slice.injEq] at e2
  obtain ⟨rfl, _, rfl⟩ := e2
  have hr' := hr.mono (R' := EncAll (Ty.Enc Z w _) ys) fun l e' => by rw [e']; exact h3
  refine ⟨A, e1, h1, ?_, hr', hA⟩
  obtain ⟨_, _, _, e3, _, q, _⟩ := hr
  cases e3
  exact q

theorem ReadsL.pre {τ : Ty} {ys : List τ.D} {A : Option Addr} (hr : ReadsL w (EncAll (τ.Enc Z w) ys) ys.length (.slice A ys.length ys.length)) (hA : ∀ ad, A = some ad → ∃ b, ad = ⟨b, 0, none⟩) {len : Nat} (hl : len ≤ ys.length) :
    ReadsL w (EncAll (τ.Enc Z w) (ys.take len)) (ys.take len).length (.slice A len ys.length) := by
  have := hr.sub (fun _ _ => Ty.Enc.length τ) rfl (lo := 0) (len := len) (A' := A) (c' := ys.length) (by omega) (by omega) (fun hne => by
    obtain ⟨_, _, _, e3, _, _, _, h4⟩ := hr
    cases e3
    obtain ⟨ad, e4, _⟩ := h4 (by omega)
    obtain ⟨b, e5⟩ := hA ad e4
    exact ⟨b, by rw [e4, e5], by rw [e4, e5, Nat.zero_mul]⟩)
  rw [List.drop_zero] at this
  rw [this.2]; exact this.1

theorem listOf_conc {H : List AObj} (hH : ObjsOK β Z w H) {τ : Ty} {v : BV} {xs : List τ.D} {x : Value} (h : listOf H τ v = some xs) (hv : v.conc β Z w [x]) : ReadsL w (EncAll (τ.Enc Z w) xs) xs.length x := by
  unfold listOf at h
  split at h
  · cases h
    simp only [BV.conc, List.cons.injEq, and_true] at hv
    subst hv
    exact ⟨none, 0, [], rfl, Nat.le_refl _, by unfold maxLen; omega, rfl, fun hn => absurd rfl hn⟩
  · split at h
    · rename_i q _; subst q; cases h
      obtain ⟨y, e, hy⟩ := hv
      cases e
      exact hy.reads
    · cases h
  · obtain ⟨A, m, c, hb, e⟩ := hv
    cases e
    have ho := hH.at_ hb
    split at h
    · rename_i a ys hn
      split at h
      · rename_i q _; subst q; cases h
        rw [hn] at ho
        obtain ⟨cs, h1, h2, _⟩ := ho
        exact (ownsRow_reads h1).1.mono fun l e => e ▸ h2
      · cases h
    · rename_i a ys hn
      split at h
      · rename_i q _; subst q; cases h
        rw [hn] at ho
        exact ho.1.reads
      · cases h
    · rename_i a ys k hn
      split at h
      · rename_i q _; subst q; cases h
        rw [hn] at ho
        obtain ⟨A', e1, q1, _, hr, hA⟩ := buf_reads ho
        cases e1
        exact hr.pre hA q1
      · cases h
    · cases h
  · obtain ⟨A, m, c, A', c', hb, e, h1, hmc, h2, h3, h4⟩ := hv
    cases e
    have ho := hH.at_ hb
    split at h
    · rename_i a ys hn
      split at h
      · rename_i q _ hw
        have hw := Nat.eq_of_beq_eq_true hw
        subst q hw; cases h
        rw [hn] at ho
        obtain ⟨cs, g1, g2, _⟩ := ho
        have hr := (ownsRow_reads g1).1.mono (R' := EncAll (Ty.Enc Z w _) ys) fun l e' => by rw [e']; exact g2
        have hm : m = ys.length := by obtain ⟨_, _, e, _⟩ := (ownsRow_reads g1).2; cases e; rfl
        have := hr.sub (fun _ _ => Ty.Enc.length a) hm h1 h2 h4
        show ReadsL w (EncAll (a.Enc Z w) ((ys.drop _).take _)) ((ys.drop _).take _).length _
        rw [this.2]; exact this.1
      · cases h
    · rename_i a ys hn
      split at h
      · rename_i q _ hw
        have hw := Nat.eq_of_beq_eq_true hw
        subst q hw; cases h
        rw [hn] at ho
        have hr := ho.1.reads
        have hm : m = ys.length := by obtain ⟨_, _, _, e, _⟩ := hr; cases e; rfl
        have := hr.sub (fun _ _ => Ty.Enc.length a) hm h1 h2 h4
        show ReadsL w (EncAll (a.Enc Z w) ((ys.drop _).take _)) ((ys.drop _).take _).length _
        rw [this.2]; exact this.1
      · cases h
    · cases h
  · rename_i n len
    obtain ⟨A, m, c, hb, e, h1, hmc, h2⟩ := hv
    cases e
    have ho := hH.at_ hb
    split at h
    · rename_i a ys hn
      split at h
      · rename_i q _
        subst q; cases h
        rw [hn] at ho
        obtain ⟨cs, g1, g2, _⟩ := ho
        have hr := (ownsRow_reads g1).1.mono (R' := EncAll (Ty.Enc Z w _) ys) fun l e' => by rw [e']; exact g2
        obtain ⟨_, _, e, hA⟩ := (ownsRow_reads g1).2
        cases e
        have := hr.sub (fun _ _ => Ty.Enc.length a) rfl (lo := 0) (len := len) (A' := A) (c' := c) (by omega) (by omega) (fun hne => by
          obtain ⟨_, _, _, e3, _, _, _, h4⟩ := hr
          cases e3
          obtain ⟨ad, e4, _⟩ := h4 (by omega)
          obtain ⟨b, e5⟩ := hA ad e4
          exact ⟨b, by rw [e4, e5], by rw [e4, e5, Nat.zero_mul]⟩)
        rw [List.drop_zero] at this
        show ReadsL w (EncAll (a.Enc Z w) (ys.take _)) (ys.take _).length _
        rw [this.2]; exact this.1
      · cases h
    · rename_i a ys hn
      split at h
      · rename_i q _
        subst q; cases h
        rw [hn] at ho
        have hr := ho.1.reads
        have hm : m = ys.length := by obtain ⟨_, _, _, e, _⟩ := hr; cases e; rfl
        have := hr.sub (fun _ _ => Ty.Enc.length a) hm (lo := 0) (len := len) (A' := A) (c' := c) (by omega) (by omega) (fun hne => by
          obtain ⟨b, e4⟩ := ho.2 _ _ _ rfl (by omega)
          exact ⟨b, e4, by rw [e4, Nat.zero_mul]⟩)
        rw [List.drop_zero] at this
        show ReadsL w (EncAll (a.Enc Z w) (ys.take _)) (ys.take _).length _
        rw [this.2]; exact this.1
      · cases h
    · cases h
  · obtain ⟨A, m, c, hb, e, h1, h2⟩ := hv
    cases e
    have ho := hH.at_ hb
    split at h
    · rename_i a ys k hn
      split at h
      · rename_i q _; subst q; cases h
        rw [hn] at ho
        obtain ⟨A', e1, q1, _, hr, hA⟩ := buf_reads ho
        cases e1
        exact hr.pre hA h1
      · cases h
    · cases h
  · obtain ⟨A, m, c, A', c', hb, e, h1, h2, h3, h4⟩ := hv
    cases e
    have ho := hH.at_ hb
    split at h
    · rename_i a ys k hn
      split at h
      · rename_i q _ hw
        have hw := Nat.eq_of_beq_eq_true hw
        subst q hw; cases h
        rw [hn] at ho
        obtain ⟨A1, e1, q1, _, hr, hA⟩ := buf_reads ho
        cases e1
        have := hr.sub (fun _ _ => Ty.Enc.length a) rfl h1 h2 h4
        show ReadsL w (EncAll (a.Enc Z w) ((ys.drop _).take _)) ((ys.drop _).take _).length _
        rw [this.2]; exact this.1
      · cases h
    · cases h
  · cases h

theorem lenOf_conc {H : List AObj} (hH : ObjsOK β Z w H) {v : BV} {n : Nat} {x : Value} (h : lenOf H v = some n) (hv : v.conc β Z w [x]) : (∃ A c, x = .slice A n c ∧ n ≤ c ∧ c ≤ maxLen) ∨ ∃ s, v = .str s ∧ x = .string s ∧ s.size = n := by
  unfold lenOf at h
  split at h
  · cases h
    simp only [BV.conc, List.cons.injEq, and_true] at hv
    subst hv
    exact .inl ⟨none, 0, rfl, Nat.le_refl _, by unfold maxLen; omega⟩
  · cases h
    obtain ⟨y, e, A, c, cs, e', h1, h2, _⟩ := hv
    cases e
    exact .inl ⟨A, c, e', h1, h2⟩
  · obtain ⟨A, m, c, hb, e⟩ := hv
    cases e
    have ho := hH.at_ hb
    split at h
    · rename_i a ys hn
      cases h
      rw [hn] at ho
      obtain ⟨cs, h1, h2, _⟩ := ho
      obtain ⟨_, _, _, e, q1, q2, _⟩ := (ownsRow_reads h1).1
      exact .inl ⟨_, _, e, q1, q2⟩
    · rename_i a ys hn
      cases h
      rw [hn] at ho
      obtain ⟨_, _, _, e, q1, q2, _⟩ := ho.1.reads
      exact .inl ⟨_, _, e, q1, q2⟩
    · rename_i a ys k hn
      cases h
      rw [hn] at ho
      obtain ⟨A', e1, q1, q2, _⟩ := buf_reads ho
      exact .inl ⟨_, _, e1, q1, q2⟩
    · cases h
  · cases h
    obtain ⟨A, m, c, A', c', hb, e, h1, hmc, h2, h3, h4⟩ := hv
    cases e
    exact .inl ⟨_, _, rfl, by omega, by omega⟩
  · cases h
    obtain ⟨A, m, c, hb, e, h1, hmc, h2⟩ := hv
    cases e
    exact .inl ⟨_, _, rfl, by omega, by omega⟩
  · cases h
    obtain ⟨A, m, c, hb, e, h1, h2⟩ := hv
    cases e
    exact .inl ⟨_, _, rfl, by omega, by omega⟩
  · cases h
    obtain ⟨A, m, c, A', c', hb, e, h1, h2, h3, h4⟩ := hv
    cases e
    exact .inl ⟨_, _, rfl, by omega, by omega⟩
  · cases h
    simp only [BV.conc, List.cons.injEq, and_true] at hv
    exact .inr ⟨_, rfl, hv, rfl⟩
  · cases h

theorem runAt_conc {off : Nat} {cs : List BV} {vs : List Value} {m : Nat} {τ : Ty} {xs : List τ.D} (h : runAt off cs = some (m, ⟨τ, xs⟩)) (hc : ConcL β Z w cs vs) :
    xs.length = m ∧ ∃ us, EncAll (τ.Enc Z w) xs us ∧ ∀ j u, us[j]? = some u → vs[off + j]? = some u := by
  unfold runAt at h
  split at h
  · rename_i hd
    cases h
    obtain ⟨a, b, e, hl, hb⟩ := dropW_conc hd hc
    obtain ⟨v1, v2, e2, h1, h2⟩ := hb
    subst hl e e2
    refine ⟨h1.1, v1, h1.2, fun j u hj => ?_⟩
    rw [List.getElem?_append_right (by omega), Nat.add_sub_cancel_left, List.getElem?_append_left (List.getElem?_eq_some_iff.1 hj).1]
    exact hj
  · cases h

/-- What is read at an address. -/
theorem cellsAt_conc {H : List AObj} (hH : ObjsOK β Z w H) {p : BV} {sz : Nat} {obs : List Prop} {cs : List BV} {x : Value} (h : cellsAt H sz p = some (obs, cs)) (hobs : ∀ q ∈ obs, q) (hp : p.conc β Z w [x]) :
    ∃ b o vs, x = .pointer (some ⟨b, o, none⟩) ∧ vs.length = sz ∧ ConcL β Z w cs vs ∧ ∀ j u, vs[j]? = some u → w.cell? ⟨b, o + j, none⟩ = some u := by
  unfold cellsAt at h
  split at h
  · obtain ⟨b, hb, e⟩ := hp
    cases e
    have ho := hH.at_ hb
    split at h
    · rename_i hn
      split at h
      · rename_i r hs
        cases h
        rw [hn] at ho
        obtain ⟨b', vs, e, h1, h2⟩ := ho
        cases e
        obtain ⟨us, q1, q2, _, _, q3⟩ := sliceW_conc hs h2
        exact ⟨b, _, us, rfl, q1, q2, fun j u hj => by rw [cell_of_row w b _ vs _ _ h1]; simpa using q3 j u hj⟩
      · cases h
    · cases h
  · obtain ⟨b, m, c, hb, e⟩ := hp
    cases e
    have ho := hH.at_ hb
    split at h
    · rename_i τ ys hn
      split at h
      · rename_i r hw hs
        cases h
        have hi : _ < ys.length := hobs _ (List.mem_singleton.2 rfl)
        have hw := Nat.eq_of_beq_eq_true hw
        subst hw
        rw [hn] at ho
        obtain ⟨vs, g1, g2, _⟩ := ho
        obtain ⟨es, h1, h2⟩ := g2.getD (fun _ _ => Ty.Enc.length τ) τ.zero _ hi
        obtain ⟨us, q1, q2, _, _, q3⟩ := sliceW_conc hs (enc_conc (β := β) τ h1)
        refine ⟨b, _, us, rfl, q1, q2, fun j u hj => ?_⟩
        have := g1.cells (g := b) rfl _ _ (h2 _ _ (q3 _ _ hj))
        rw [Addr.add_zero'] at this
        rw [Nat.zero_add, ← Nat.add_assoc] at this
        exact this
      · cases h
    · rename_i τ ys hn
      split at h
      · rename_i r hw hs
        cases h
        have hi : _ < ys.length := hobs _ (List.mem_singleton.2 rfl)
        have hw := Nat.eq_of_beq_eq_true hw
        subst hw
        rw [hn] at ho
        obtain ⟨A, c', vs, e, _, _, g2, g4⟩ := ho.1
        cases e
        obtain ⟨ad, e, hsp, _, g5⟩ := g4 (by omega)
        cases e
        obtain ⟨es, h1, h2⟩ := g2.getD (fun _ _ => Ty.Enc.length τ) τ.zero _ hi
        obtain ⟨us, q1, q2, _, _, q3⟩ := sliceW_conc hs (enc_conc (β := β) τ h1)
        refine ⟨b, _, us, rfl, q1, q2, fun j u hj => ?_⟩
        have := g5 _ _ (h2 _ _ (q3 _ _ hj))
        rw [Addr.add_zero'] at this
        rw [Nat.zero_add, ← Nat.add_assoc] at this
        exact this
      · cases h
    · cases h
  · rename_i τ y off
    split at h
    · rename_i r hs
      cases h
      obtain ⟨b, o, es, e, _, h1, h2⟩ := hp
      cases e
      obtain ⟨us, q1, q2, _, _, q3⟩ := sliceW_conc hs (enc_conc (β := β) τ h1)
      exact ⟨b, _, us, rfl, q1, q2, fun j u hj => by rw [Nat.add_assoc]; exact h2 _ _ (q3 _ _ hj)⟩
    · cases h
  · obtain ⟨b, hb, e⟩ := hp
    cases e
    have ho := hH.at_ hb
    split at h
    · rename_i hn
      split at h
      · rename_i m' τ ys hrun
        split at h
        · rename_i r hw hm hs
          cases h
          have hi := hobs _ (List.mem_singleton.2 rfl)
          have hw := Nat.eq_of_beq_eq_true hw
          have hm := Nat.eq_of_beq_eq_true hm
          subst hw hm
          rw [hn] at ho
          obtain ⟨b', vs, e, h1, h2⟩ := ho
          cases e
          obtain ⟨hl, us0, g1, g2⟩ := runAt_conc hrun h2
          obtain ⟨es, h3, h4⟩ := g1.getD (fun _ _ => Ty.Enc.length τ) τ.zero _ (by rw [hl]; exact hi)
          obtain ⟨us, q1, q2, _, _, q3⟩ := sliceW_conc hs (enc_conc (β := β) τ h3)
          refine ⟨b, _, us, rfl, q1, q2, fun j u hj => ?_⟩
          rw [cell_of_row w b _ vs _ _ h1]
          have := g2 _ _ (h4 _ _ (q3 _ _ hj))
          rw [← Nat.add_assoc, ← Nat.add_assoc] at this
          simpa using this
        · cases h
      · cases h
    · cases h
  · cases h

end

end Go.Proofs.Ythjogeodclpafaa.AM
end

section
set_option linter.unusedVariables false
set_option linter.unusedSimpArgs false
namespace Go.Proofs.Ythjogeodclpafaa.AM
open Go

section
variable {P : Program} {β : List Value} {Z : Nat → Prop} {w : World} {H : List AObj}

/-- A quiet operation is right: whatever it says, the model's operation comes to it and leaves the world alone. -/
def Yields1 (P : Program) (β : List Value) (Z : Nat → Prop) (w : World) (s : Sem Value) (r : YR) : Prop :=
  ∀ obs v, r = some (obs, v) → (∀ q ∈ obs, q) → ∃ x, s.run P w = .ok x w ∧ v.conc β Z w x

theorem yields_none (s : Sem Value) : Yields1 P β Z w s none := fun _ _ h => by cases h
theorem yields_yv {s : Sem Value} {v : BV} {x : Value} (h : s.run P w = .ok x w) (hv : v.conc β Z w [x]) : Yields1 P β Z w s (yv v) := by
  intro obs v' e _
  cases e
  exact ⟨x, h, hv⟩
theorem yields_some {s : Sem Value} {obs : List Prop} {v : SV} (h : (∀ q ∈ obs, q) → ∃ x, s.run P w = .ok x w ∧ v.conc β Z w x) : Yields1 P β Z w s (some (obs, v)) := by
  intro obs' v' e ho
  cases e
  exact h ho

theorem one_int {k : IntKind} {n : Int} {x : Value} (h : (TV.one (.int k n)).conc β Z w x) : x = .int k n := by simpa [TV.conc, BV.conc] using h
theorem one_bool {b : Bool} {x : Value} (h : (TV.one (.bool b)).conc β Z w x) : x = .bool b := by simpa [TV.conc, BV.conc] using h
theorem one_lit {b : Bool} {x : Value} (h : (TV.one (.lit b)).conc β Z w x) : x = .bool b := by simpa [TV.conc, BV.conc] using h
theorem one_str {s : ByteArray} {x : Value} (h : (TV.one (.str s)).conc β Z w x) : x = .string s := by simpa [TV.conc, BV.conc] using h
theorem one_nilp {x : Value} (h : (TV.one .nilp).conc β Z w x) : x = .pointer none := by simpa [TV.conc, BV.conc] using h
theorem one_ptr {n o : Nat} {x : Value} (h : (TV.one (.ptr n o)).conc β Z w x) : ∃ b, β[n]? = some (.pointer (some ⟨b, 0, none⟩)) ∧ x = .pointer (some ⟨b, o, none⟩) := by
  obtain ⟨b, h1, h2⟩ := h; cases h2; exact ⟨b, h1, rfl⟩

/-! ### '==' on aggregates -/
theorem kindOf_spec {t : TypeId} {agg : Bool} {n : Nat} (h : kindOf P t = some (agg, n)) :
    ∃ d i, P.underlying t = some d ∧ P.info? t = some i ∧ n = i.size ∧ (isAgg t).run P w = .ok agg w ∧ ((∃ fs, d = .struct fs) → agg = true) ∧ ((∃ m e, d = .array m e) → agg = true) ∧
      (agg = true → (∃ fs, d = .struct fs) ∨ (∃ m e, d = .array m e)) := by
  unfold kindOf at h
  split at h
  · rename_i i hu hi; cases h
    exact ⟨_, i, hu, hi, rfl, by simp [isAgg, run_underlying hu], fun _ => rfl, fun _ => rfl, fun _ => .inl ⟨_, rfl⟩⟩
  · rename_i i hu hi; cases h
    exact ⟨_, i, hu, hi, rfl, by simp [isAgg, run_underlying hu], fun _ => rfl, fun _ => rfl, fun _ => .inr ⟨_, _, rfl⟩⟩
  · rename_i d i hns hna hu hi; cases h
    refine ⟨d, i, hu, hi, rfl, ?_, fun ⟨fs, e⟩ => (hns fs e).elim, fun ⟨m, e, q⟩ => (hna m e q).elim, fun h => by cases h⟩
    simp only [isAgg, Sem.run_bind, run_underlying hu, Result.andThen_ok]
    cases d <;> first | rfl | exact (hns _ rfl).elim | exact (hna _ _ rfl).elim
  · cases h

theorem run_sizeOf' {t : TypeId} {i : TypeInfo} (h : P.info? t = some i) : (sizeOf t).run P w = .ok i.size w := by simp [sizeOf, typeInfo, h]

theorem run_part (t : TypeId) (agg : Bool) (sz : Nat) (hk : kindOf P t = some (agg, sz)) (xs : Array Value) (off : Nat) (pre cs post : List Value) (hx : xs.toList = pre ++ (cs ++ post)) (hp : pre.length = off) (hc : cs.length = sz) (h1 : agg = false → sz = 1) :
    (part t xs off).run P w = .ok (valOf agg cs) w := by
  obtain ⟨xs⟩ := xs
  simp only at hx
  subst hx
  obtain ⟨d, i, hu, hi, hn, ha, _⟩ := kindOf_spec (w := w) hk
  subst hn
  cases agg with
  | true =>
    simp only [part, Sem.run_bind, ha, Result.andThen_ok, if_true, run_sizeOf' hi, Sem.run_pure]
    simp [valOf, ← hp, ← hc]
  | false =>
    have hl : cs.length = 1 := by rw [hc]; exact h1 rfl
    obtain ⟨c, rfl⟩ : ∃ c, cs = [c] := by
      match cs, hl with
      | [c], _ => exact ⟨c, rfl⟩
    have hg : (pre ++ ([c] ++ post)).toArray[off]? = some c := by simp [← hp]
    simp only [part, Sem.run_bind, ha, Result.andThen_ok, hg]
    rfl

theorem tyEq_kind : ∀ (n : Nat) (t : TypeId) (τ : Ty) (i : TypeInfo), tyEq P n t = some τ → P.info? t = some i → i.size = τ.wd → ∃ agg, kindOf P t = some (agg, τ.wd) ∧ (agg = false → τ.wd = 1)
  | 0, t, τ, i, h, hi, hs => by cases h
  | n + 1, t, τ, i, h, hi, hs => by
    unfold tyEq at h
    unfold kindOf
    split at h
    · rename_i hu; cases h; rw [hu, hi]; exact ⟨false, by simp [hs], fun _ => rfl⟩
    · rename_i hu; cases h; rw [hu, hi]; exact ⟨false, by simp [hs], fun _ => rfl⟩
    · rename_i hu; cases h; rw [hu, hi]; exact ⟨false, by simp [hs], fun _ => rfl⟩
    · rename_i hu; rw [hu, hi]; exact ⟨true, by simp [hs], fun h => by cases h⟩
    · cases h

theorem run_eqFields {n d : Nat} (ih : ∀ (t : TypeId) (τ : Ty) (agg : Bool) (x y : τ.D) (cx cy : List Value), tyEq P n t = some τ → kindOf P t = some (agg, τ.wd) → τ.Enc Z w x cx → τ.Enc Z w y cy →
      (Op.equalIn d t (valOf agg cx) (valOf agg cy)).run P w = .ok (τ.eqb x y) w) :
    ∀ (fs : List Field) (o : Nat) (τ : Ty) (x y : τ.D) (xs ys : Array Value) (px py cx cy : List Value), tyEqFields P (tyEq P n) o fs = some τ →
      xs.toList = px ++ cx → ys.toList = py ++ cy → px.length = o → py.length = o → τ.Enc Z w x cx → τ.Enc Z w y cy →
      (Op.eqFields d xs ys fs).run P w = .ok (τ.eqb x y) w
  | [], o, τ, x, y, xs, ys, px, py, cx, cy, h, _, _, _, _, _, _ => by simp [tyEqFields] at h
  | [fd], o, τ, x, y, xs, ys, px, py, cx, cy, h, hx, hy, hpx, hpy, ex, ey => by
    simp only [tyEqFields] at h
    split at h
    · rename_i a i ho hn ht hi
      split at h
      · rename_i hs
        cases h
        have ho := Nat.eq_of_beq_eq_true ho
        have hs := Nat.eq_of_beq_eq_true hs
        obtain ⟨agg, hk, h1⟩ := tyEq_kind n _ _ _ ht hi hs
        have p1 := run_part (P := P) (w := w) fd.type agg _ hk xs fd.offset px cx [] (by simpa using hx) (by rw [ho]; exact hpx) (Ty.Enc.length _ ex) h1
        have p2 := run_part (P := P) (w := w) fd.type agg _ hk ys fd.offset py cy [] (by simpa using hy) (by rw [ho]; exact hpy) (Ty.Enc.length _ ey) h1
        have p3 := ih fd.type _ agg x y cx cy ht hk ex ey
        have hn' : fd.name ≠ "_" := by simpa using hn
        simp only [Op.eqFields, if_pos hn', Sem.run_bind, p1, p2, p3, Result.andThen_ok, Sem.run_ite, Sem.run_pure]
        cases Ty.eqb _ x y <;> simp
      · cases h
    · cases h
  | fd :: fd' :: r, o, τ, x, y, xs, ys, px, py, cx, cy, h, hx, hy, hpx, hpy, ex, ey => by
    simp only [tyEqFields] at h
    split at h
    · rename_i a i ho hn ht hi
      split at h
      · rename_i b hs hb
        cases h
        have ho := Nat.eq_of_beq_eq_true ho
        have hs := Nat.eq_of_beq_eq_true hs
        obtain ⟨agg, hk, h1⟩ := tyEq_kind n _ _ _ ht hi hs
        obtain ⟨x1, x2, rfl, ex1, ex2⟩ := ex
        obtain ⟨y1, y2, rfl, ey1, ey2⟩ := ey
        have p1 := run_part (P := P) (w := w) fd.type agg _ hk xs fd.offset px x1 x2 hx (by rw [ho]; exact hpx) (Ty.Enc.length _ ex1) h1
        have p2 := run_part (P := P) (w := w) fd.type agg _ hk ys fd.offset py y1 y2 hy (by rw [ho]; exact hpy) (Ty.Enc.length _ ey1) h1
        have p3 := ih fd.type _ agg x.1 y.1 x1 y1 ht hk ex1 ey1
        have p4 := run_eqFields ih (fd' :: r) (o + a.wd) b x.2 y.2 xs ys (px ++ x1) (py ++ y1) x2 y2 hb (by rw [hx, List.append_assoc]) (by rw [hy, List.append_assoc])
          (by rw [List.length_append, hpx, Ty.Enc.length _ ex1]) (by rw [List.length_append, hpy, Ty.Enc.length _ ey1]) ex2 ey2
        have hn' : fd.name ≠ "_" := by simpa using hn
        rw [Op.eqFields]
        simp only [if_pos hn', Sem.run_bind, p1, p2, p3, Result.andThen_ok, Sem.run_ite, Sem.run_pure, p4, Ty.eqb]
        cases Ty.eqb a x.1 y.1 <;> simp
      · cases h
    · cases h

theorem agg_false {t : TypeId} {agg : Bool} {n : Nat} {d : TypeDesc} (hk : kindOf P t = some (agg, n)) (hu : P.underlying t = some d) (hs : ∀ fs, d ≠ .struct fs) (ha : ∀ m e, d ≠ .array m e) : agg = false := by
  obtain ⟨d', i, hu', _, _, _, _, _, h⟩ := kindOf_spec (w := default) hk
  rw [hu] at hu'; cases hu'
  cases agg with
  | false => rfl
  | true => rcases h rfl with ⟨fs, e⟩ | ⟨m, e, q⟩
            · exact (hs _ e).elim
            · exact (ha _ _ q).elim

theorem run_equalIn : ∀ (n : Nat) (d : Nat) (t : TypeId) (τ : Ty) (agg : Bool) (x y : τ.D) (cx cy : List Value), n ≤ d → tyEq P n t = some τ → kindOf P t = some (agg, τ.wd) → τ.Enc Z w x cx → τ.Enc Z w y cy →
      (Op.equalIn d t (valOf agg cx) (valOf agg cy)).run P w = .ok (τ.eqb x y) w
  | 0, d, t, τ, agg, x, y, cx, cy, hd, h, hk, ex, ey => by cases h
  | n + 1, d, t, τ, agg, x, y, cx, cy, hd, h, hk, ex, ey => by
    obtain ⟨d, rfl⟩ : ∃ m, d = m + 1 := ⟨d - 1, by omega⟩
    unfold tyEq at h
    split at h
    · rename_i k hu; cases h
      have := agg_false hk hu (by simp) (by simp); subst this
      cases ex; cases ey
      exact run_equalIn_int w d t k k x y hu
    · rename_i hu; cases h
      have := agg_false hk hu (by simp) (by simp); subst this
      cases ex; cases ey
      exact run_equalIn_bool w d t x y hu
    · rename_i hu; cases h
      have := agg_false hk hu (by simp) (by simp); subst this
      cases ex; cases ey
      exact run_equalIn_string w d t x y hu
    · rename_i fs hu
      split at h
      · rename_i hst
        obtain ⟨d', _, hu', _, _, _, hs, _⟩ := kindOf_spec (w := w) hk
        rw [hu] at hu'; cases hu'
        have := hs ⟨_, rfl⟩; subst this
        have hf : P.fieldsOf t = fs := by simp [Program.fieldsOf, hu]
        rw [show valOf true cx = .agg cx.toArray from rfl, show valOf true cy = .agg cy.toArray from rfl, run_equalIn_struct w d t _ _ (by rw [hf]; exact hu) hst, hf]
        exact run_eqFields (fun t τ agg x y cx cy h1 h2 => run_equalIn n d t τ agg x y cx cy (by omega) h1 h2) fs.toList 0 τ x y _ _ [] [] cx cy h rfl rfl rfl rfl ex ey
      · cases h
    · cases h

theorem agg_yields (op : BinOp) (t : TypeId) (x y : Operand) (xs ys : List BV) (a b : Value) (ha : (TV.agg xs).conc β Z w a) (hb : (TV.agg ys).conc β Z w b) :
    Yields1 P β Z w (do eqGuard op t x y a b; binOp op t a b) (aggOp P op t xs ys) := by
  obtain ⟨va, rfl, hca⟩ := ha
  obtain ⟨vb, rfl, hcb⟩ := hb
  unfold aggOp
  split
  · rename_i τ sz ht hg hk
    split
    · rename_i dx dy hsz hx hy
      have hsz := Nat.eq_of_beq_eq_true hsz
      subst hsz
      have heq := run_equalIn depth 10000 t τ true dx dy _ _ (by decide) ht hk (dec_conc hx hca) (dec_conc hy hcb)
      simp only [valOf, if_true, Array.toArray_toList] at heq
      split
      · refine yields_yv (x := .bool _) ?_ rfl
        simp only [Sem.run_bind, run_eqGuard_agg w _ t x y va vb hg, Result.andThen_ok, run_eql_struct, heq]
      · refine yields_yv (x := .bool _) ?_ rfl
        simp only [Sem.run_bind, run_eqGuard_agg w _ t x y va vb hg, Result.andThen_ok, run_neq_struct, heq]
      · exact yields_none _
    · exact yields_none _
  · exact yields_none _

theorem guard_ok (op : BinOp) (t : TypeId) (x y : Operand) (a b : Value) (h1 : ∀ c d, ¬ (a = .agg c ∧ b = .agg d)) (h2 : ¬ (a = .nilIface ∧ b = .nilIface)) : (eqGuard op t x y a b).run P w = .ok () w := by
  unfold eqGuard
  cases op <;> simp <;> (split <;> first | rfl | (exfalso; exact h2 ⟨rfl, rfl⟩) | (exfalso; exact h1 _ _ ⟨rfl, rfl⟩) | skip)

theorem bin_bool (op : BinOp) (t : TypeId) (hu : P.underlying t = some .bool) (a b : Bool) : Yields1 P β Z w (binOp op t (.bool a) (.bool b)) (boolOp op a b) := by
  unfold boolOp
  split
  · exact yields_yv (run_eql_bool w t a b hu) rfl
  · exact yields_yv (run_neq_bool w t a b hu) rfl
  · exact yields_none _

theorem boolTy_spec {t : TypeId} (h : boolTy P t = true) : P.underlying t = some .bool := by
  unfold boolTy at h
  split at h
  · assumption
  · cases h

theorem ptrTy_spec {t : TypeId} (h : ptrTy P t = true) : ∃ e, P.underlying t = some (.pointer e) := by
  unfold ptrTy at h
  split at h
  · exact ⟨_, by assumption⟩
  · cases h

theorem bin_nil (op : BinOp) (t e : TypeId) (hu : P.underlying t = some (.pointer e)) (a b : Option Addr) (r : Bool) (hr : (a = none ∧ b = none ∧ r = true) ∨ (a = none ∧ b ≠ none ∧ r = false) ∨ (a ≠ none ∧ b = none ∧ r = false)) :
    Yields1 P β Z w (binOp op t (.pointer a) (.pointer b)) (litOp op r) := by
  have heq : ∀ d, (Op.equalIn (d + 1) t (.pointer a) (.pointer b)).run P w = .ok r w := by
    intro d
    rcases hr with ⟨rfl, rfl, rfl⟩ | ⟨rfl, h, rfl⟩ | ⟨h, rfl, rfl⟩
    · simp [Op.equalIn, run_underlying hu]
    · cases b with
      | none => exact absurd rfl h
      | some b => simp [Op.equalIn, run_underlying hu]
    · cases a with
      | none => exact absurd rfl h
      | some a => simp [Op.equalIn, run_underlying hu]
  have heq' : (Op.equal t (.pointer a) (.pointer b)).run P w = .ok r w := heq 9999
  unfold litOp
  split
  · refine yields_yv (x := .bool _) ?_ rfl
    simp only [binOp, Sem.run_bind, heq', Result.andThen_ok, Sem.run_pure]
  · refine yields_yv (x := .bool _) ?_ rfl
    simp only [binOp, Sem.run_bind, heq', Result.andThen_ok, Sem.run_pure]
  · exact yields_none _

theorem bin_int (op : BinOp) (t : TypeId) (k : IntKind) (a b : Int) (hs : op ≠ .shl) (hr : op ≠ .shr) : Yields1 P β Z w (binOp op t (.int k a) (.int k b)) (intOp op k a b) := by
  unfold intOp
  split <;> first
    | exact yields_none _
    | (refine yields_yv (x := .int _ _) ?_ rfl; simp [binOp, Op.intArith, Op.intBits]; done)
    | (refine yields_yv (x := .bool _) ?_ rfl; simp [binOp, Op.intCmp]; done)
    | (refine yields_some fun ho => ⟨.int _ _, ?_, rfl⟩
       have hb : b ≠ 0 := ho _ (List.mem_singleton.2 rfl)
       simp [binOp, Op.intDiv, hb])

theorem bin_sh (op : BinOp) (t : TypeId) (k k' : IntKind) (a b : Int) : Yields1 P β Z w (binOp op t (.int k a) (.int k' b)) (shOp op k a b) := by
  unfold shOp
  split
  · refine yields_some fun ho => ⟨.int _ _, ?_, rfl⟩
    have hb : 0 ≤ b := ho _ (List.mem_singleton.2 rfl)
    simp [binOp, Op.shift, Int.not_lt.2 hb]
  · refine yields_some fun ho => ⟨.int _ _, ?_, rfl⟩
    have hb : 0 ≤ b := ho _ (List.mem_singleton.2 rfl)
    simp [binOp, Op.shift, Int.not_lt.2 hb]
  · exact yields_none _

theorem bin_str (op : BinOp) (t : TypeId) (a b : ByteArray) : Yields1 P β Z w (binOp op t (.string a) (.string b)) (strOp op a b) := by
  unfold strOp
  split <;> first
    | exact yields_none _
    | (refine yields_yv (x := .bool _) ?_ rfl; simp [binOp, Op.stringOp]; done)
    | (refine yields_some fun ho => ⟨.string _, ?_, rfl⟩
       have hb : ((a.size + b.size : Nat) : Int) ≤ IntKind.i64.max := ho _ (List.mem_singleton.2 rfl)
       simp only [binOp, Op.stringOp]
       rw [if_neg (Int.not_lt.2 hb)]
       rfl)

theorem bin_yields (op : BinOp) (t : TypeId) (x y : Operand) (u v : TV) (a b : Value) (ha : u.conc β Z w a) (hb : v.conc β Z w b) :
    Yields1 P β Z w (do eqGuard op t x y a b; binOp op t a b) (binStep P op t u v) := by
  have plain : ∀ (r : YR), (∀ c d, ¬ (a = .agg c ∧ b = .agg d)) → ¬ (a = .nilIface ∧ b = .nilIface) → Yields1 P β Z w (binOp op t a b) r → Yields1 P β Z w (do eqGuard op t x y a b; binOp op t a b) r := by
    intro r h1 h2 h obs v' e ho
    obtain ⟨q, hq, hc⟩ := h obs v' e ho
    exact ⟨q, by simp only [Sem.run_bind, guard_ok op t x y a b h1 h2, Result.andThen_ok]; exact hq, hc⟩
  unfold binStep
  split
  · have := one_int ha; subst this
    have := one_int hb; subst this
    refine plain _ (by simp) (by simp) ?_
    split
    · exact bin_sh _ t _ _ _ _
    · exact bin_sh _ t _ _ _ _
    · split
      · rename_i h1 h2 _ he _; subst he; exact bin_int op t _ _ _ h1 h2
      · exact yields_none _
  · have := one_str ha; subst this
    have := one_str hb; subst this
    exact plain _ (by simp) (by simp) (bin_str op t _ _)
  · have := one_bool ha; subst this
    have := one_bool hb; subst this
    split
    · exact plain _ (by simp) (by simp) (bin_bool op t (boolTy_spec (by assumption)) _ _)
    · exact yields_none _
  · have := one_lit ha; subst this
    have := one_bool hb; subst this
    split
    · exact plain _ (by simp) (by simp) (bin_bool op t (boolTy_spec (by assumption)) _ _)
    · exact yields_none _
  · have := one_bool ha; subst this
    have := one_lit hb; subst this
    split
    · exact plain _ (by simp) (by simp) (bin_bool op t (boolTy_spec (by assumption)) _ _)
    · exact yields_none _
  · have := one_lit ha; subst this
    have := one_lit hb; subst this
    split
    · exact plain _ (by simp) (by simp) (bin_bool op t (boolTy_spec (by assumption)) _ _)
    · exact yields_none _
  · have := one_nilp ha; subst this
    have := one_nilp hb; subst this
    split
    · rename_i hp
      obtain ⟨e, hu⟩ := ptrTy_spec hp
      exact plain _ (by simp) (by simp) (bin_nil op t e hu _ _ _ (.inl ⟨rfl, rfl, rfl⟩))
    · exact yields_none _
  · obtain ⟨_, _, rfl⟩ := one_ptr ha
    have := one_nilp hb; subst this
    split
    · rename_i hp
      obtain ⟨e, hu⟩ := ptrTy_spec hp
      exact plain _ (by simp) (by simp) (bin_nil op t e hu _ _ _ (.inr (.inr ⟨by simp, rfl, rfl⟩)))
    · exact yields_none _
  · have := one_nilp ha; subst this
    obtain ⟨_, _, rfl⟩ := one_ptr hb
    split
    · rename_i hp
      obtain ⟨e, hu⟩ := ptrTy_spec hp
      exact plain _ (by simp) (by simp) (bin_nil op t e hu _ _ _ (.inr (.inl ⟨rfl, by simp, rfl⟩)))
    · exact yields_none _
  · exact agg_yields op t x y _ _ a b ha hb
  · exact yields_none _

theorem un_yields (op : UnOp) (u : TV) (a : Value) (ha : u.conc β Z w a) : Yields1 P β Z w (Op.unary op a) (unStep op u) := by
  unfold unStep
  split
  · have := one_bool ha; subst this
    exact yields_yv (x := .bool _) (by simp [Op.unary]) rfl
  · have := one_lit ha; subst this
    exact yields_yv (x := .bool _) (by simp [Op.unary]) rfl
  · have := one_int ha; subst this
    exact yields_yv (x := .int _ _) (by simp [Op.unary, Op.intArith]) rfl
  · exact yields_none _

end

end Go.Proofs.Ythjogeodclpafaa.AM
end

section
set_option linter.unusedVariables false
set_option linter.unusedSimpArgs false
namespace Go.Proofs.Ythjogeodclpafaa.AM
open Go

section
variable {P : Program} {β : List Value} {Z : Nat → Prop} {w : World} {H : List AObj}

theorem asTV_conc {agg : Bool} {cs : List BV} {v : TV} {vs : List Value} (h : asTV agg cs = some v) (hc : ConcL β Z w cs vs) : v.conc β Z w (valOf agg vs) ∧ (agg = false → vs.length = 1) := by
  unfold asTV at h
  split at h
  · cases h
    exact ⟨⟨vs.toArray, rfl, by simpa using hc⟩, fun h => by cases h⟩
  · split at h
    · split at h
      · cases h
      · rename_i c _ hn
        cases h
        obtain ⟨v1, v2, e, h1, h2⟩ := hc
        cases h2
        have hl := h1.length
        have hw : c.wd = 1 := by cases c <;> first | rfl | exact (hn _ _ _ rfl).elim
        rw [hw] at hl
        obtain ⟨x, rfl⟩ : ∃ x, v1 = [x] := by
          match v1, hl with
          | [x], _ => exact ⟨x, rfl⟩
        subst e
        exact ⟨h1, fun _ => rfl⟩
    · cases h

theorem kindOf_one {t : TypeId} {agg : Bool} {sz : Nat} (hk : kindOf P t = some (agg, sz)) : (isAgg t).run P w = .ok agg w ∧ (sizeOf t).run P w = .ok sz w := by
  obtain ⟨d, i, hu, hi, hn, ha, _⟩ := kindOf_spec (w := w) hk
  exact ⟨ha, by rw [hn]; exact run_sizeOf' hi⟩

theorem run_loadVar' {t : TypeId} {agg : Bool} {sz : Nat} (hk : kindOf P t = some (agg, sz)) {b o : Nat} {vs : List Value} (hl : vs.length = sz) (h1 : agg = false → vs.length = 1) (hc : ∀ j u, vs[j]? = some u → w.cell? ⟨b, o + j, none⟩ = some u) :
    (loadVar t ⟨b, o, none⟩).run P w = .ok (valOf agg vs) w := by
  obtain ⟨ha, hs⟩ := kindOf_one (P := P) (w := w) hk
  cases agg with
  | true =>
    have := run_loadCells_list (P := P) w ⟨b, o, none⟩ vs (fun j v hj => by rw [Addr.add_zero']; exact hc j v hj)
    simp only [loadVar, Sem.run_bind, ha, Result.andThen_ok, if_true, hs, ← hl, this, Sem.run_pure, valOf]
  | false =>
    have hl1 := h1 rfl
    obtain ⟨x, rfl⟩ : ∃ x, vs = [x] := by
      match vs, hl1 with
      | [x], _ => exact ⟨x, rfl⟩
    have := hc 0 x rfl
    simp only [loadVar, Sem.run_bind, ha, Result.andThen_ok]
    simp only [load, Sem.run_ite, Bool.false_eq_true, if_false]
    simp only [Nat.add_zero] at this
    simp [Sem.run, this, valOf]

theorem load_yields (hH : ObjsOK β Z w H) (t : TypeId) (u : TV) (a : Value) (ha : u.conc β Z w a) : Yields1 P β Z w (Instr.loadAt t a) (loadStep P H t u) := by
  unfold loadStep
  split
  · rename_i agg sz p hk
    split
    · rename_i obs cs hcs
      split
      · rename_i v hv
        refine yields_some fun ho => ?_
        obtain ⟨b, o, vs, rfl, hl, hc, hcell⟩ := cellsAt_conc hH hcs ho ha
        obtain ⟨h1, h2⟩ := asTV_conc hv hc
        exact ⟨_, by simp only [Instr.loadAt, Instr.sureAddr, Sem.run_bind, Sem.run_pure, Result.andThen_ok]; exact run_loadVar' hk hl h2 hcell, h1⟩
      · exact yields_none _
    · exact yields_none _
  · exact yields_none _

theorem fieldOf_spec {s t : TypeId} {f o sz : Nat} {agg : Bool} (h : fieldOf P s f = some (t, o, agg, sz)) :
    ∃ fields fld, P.underlying s = some (.struct fields) ∧ fields[f]? = some fld ∧ fld.type = t ∧ fld.offset = o ∧ kindOf P t = some (agg, sz) := by
  unfold fieldOf at h
  split at h
  · rename_i fields hu
    split at h
    · rename_i fld hf
      split at h
      · rename_i hk
        cases h
        exact ⟨fields, fld, hu, by simpa using hf, rfl, rfl, hk⟩
      · cases h
    · cases h
  · cases h

theorem fieldAddr_yields (s : TypeId) (f : Nat) (u : TV) (a : Value) (ha : u.conc β Z w a) : Yields1 P β Z w (Instr.fieldAt s a f) (fieldAddrStep P s f u) := by
  have key : ∀ {t : TypeId} {o sz : Nat} {agg : Bool}, fieldOf P s f = some (t, o, agg, sz) → Nat.beq sz 0 = false → ∀ b off, (Instr.fieldAt s (.pointer (some ⟨b, off, none⟩)) f).run P w = .ok (.pointer (some ⟨b, off + o, none⟩)) w := by
    intro t o sz agg h hz b off
    obtain ⟨fields, fld, hu, hf, ht, hoff, hk⟩ := fieldOf_spec h
    subst ht hoff
    obtain ⟨_, hs⟩ := kindOf_one (P := P) (w := w) hk
    have hz' : ¬ sz = 0 := fun e => by rw [e] at hz; cases hz
    simp only [Instr.fieldAt, Sem.run_bind, run_underlying hu, Result.andThen_ok, hf, Instr.sureAddr, Sem.run_pure, fieldPlace, hs, Sem.run_ite, if_neg hz', Addr.add_zero']
  unfold fieldAddrStep
  split
  · rename_i o agg sz p h
    split
    · exact yields_none _
    · rename_i hz
      split
      · obtain ⟨b, hb, e⟩ := ha; cases e
        exact yields_yv (key h hz _ _) ⟨b, hb, rfl⟩
      · obtain ⟨b, m, c, hb, e⟩ := ha; cases e
        exact yields_yv (key h hz _ _) ⟨b, m, c, hb, by rw [Nat.add_assoc]⟩
      · obtain ⟨b, q, es, e, hz', he, hc⟩ := ha; cases e
        exact yields_yv (key h hz _ _) ⟨b, q, es, by rw [Nat.add_assoc], hz', he, hc⟩
      · obtain ⟨b, hb, e⟩ := ha; cases e
        exact yields_yv (key h hz _ _) ⟨b, hb, by rw [Nat.add_assoc]⟩
      · exact yields_none _
  · exact yields_none _

theorem field_yields (s : TypeId) (f : Nat) (u : TV) (a : Value) (ha : u.conc β Z w a) : Yields1 P β Z w (Instr.field s a f) (fieldStep P s f u) := by
  unfold fieldStep
  split
  · rename_i o agg sz cs h
    split
    · rename_i r hr
      cases hv : asTV agg r with
      | none => exact yields_none _
      | some v =>
        obtain ⟨vs, rfl, hc⟩ := ha
        obtain ⟨fields, fld, hu, hf, ht, hoff, hk⟩ := fieldOf_spec h
        subst ht hoff
        obtain ⟨us, hl, hc', hex, hle, _⟩ := sliceW_conc hr hc
        obtain ⟨h1, h2⟩ := asTV_conc hv hc'
        refine yields_some fun _ => ⟨_, ?_, h1⟩
        have hp := run_part (P := P) (w := w) fld.type agg sz hk vs fld.offset (vs.toList.take fld.offset) us (vs.toList.drop (fld.offset + sz)) (by
          rw [hex, List.extract_eq_take_drop, Nat.add_sub_cancel_left, ← List.drop_drop, List.take_append_drop, List.take_append_drop]) (by simp; simp at hle; omega) hl (fun e => by rw [← hl]; exact h2 e)
        simp only [Instr.field, Sem.run_bind, run_underlying hu, Result.andThen_ok, hf, asAgg, Sem.run_pure, hp]
    · exact yields_none _
  · exact yields_none _

theorem elemOf_spec {t e : TypeId} {τ : Ty} {by_ : Nat} (h : elemOf? P t = some (e, τ, by_)) : P.underlying t = some (.slice e) ∧ tyOf P depth e = some τ ∧ ∃ i, P.info? e = some i ∧ i.size = τ.wd ∧ i.size ≠ 0 ∧ i.bytes = by_ := by
  unfold elemOf? at h
  split at h
  · rename_i e' hu
    split at h
    · rename_i τ' i ht hi
      split at h
      · rename_i h1 h2
        cases h
        have h1 := Nat.eq_of_beq_eq_true h1
        exact ⟨hu, ht, i, hi, h1.symm, (fun e => by rw [e] at h2; cases h2), rfl⟩
      · cases h
    · cases h
  · cases h

theorem slice_index {t e : TypeId} {τ : Ty} {by_ : Nat} (h : elemOf? P t = some (e, τ, by_)) (k : IntKind) (i : Int) (b off len c : Nat) (hi : 0 ≤ i ∧ i < len) :
    (Instr.indexAt t (.slice (some ⟨b, off, none⟩) len c) (.int k i)).run P w = .ok (.pointer (some ⟨b, off + i.toNat * τ.wd, none⟩)) w := by
  obtain ⟨hu, _, inf, hin, hsz, _, _⟩ := elemOf_spec h
  simp only [Instr.indexAt, asIntOf, Sem.run_bind, Sem.run_pure, Result.andThen_ok, run_underlying hu, Sem.run_ite, if_pos hi, run_sizeOf' hin, Addr.add_zero', hsz]

theorem indexAddr_yields (hH : ObjsOK β Z w H) (t : TypeId) (u v : TV) (a i : Value) (ha : u.conc β Z w a) (hi : v.conc β Z w i) : Yields1 P β Z w (Instr.indexAt t a i) (indexAddrStep P H t u v) := by
  unfold indexAddrStep
  split
  · rename_i p k n
    have := one_int hi; subst this
    split
    · split
      · rename_i e τ by_ he
        split
        · rename_i e' a' xs
          split
          · rename_i q _; subst q
            refine yields_some fun ho => ?_
            have hn : 0 ≤ n ∧ n < xs.length := ho _ (List.mem_singleton.2 rfl)
            obtain ⟨y, ey, A, c, cs, rfl, h1, h2, h3, h4⟩ := ha
            cases ey
            obtain ⟨ad, rfl, hsp, hz, hc⟩ := h4 (by omega)
            obtain ⟨b, off, sp⟩ := ad
            simp only at hsp; subst hsp
            obtain ⟨es, g1, g2⟩ := h3.getD (fun _ _ => Ty.Enc.length a') a'.zero n.toNat (by omega)
            refine ⟨_, slice_index he k n b off _ c hn, b, _, es, rfl, hz, g1, fun j u hj => ?_⟩
            have := hc _ _ (g2 _ _ hj)
            rw [Addr.add_zero', ← Nat.add_assoc] at this
            exact this
          · exact yields_none _
        · rename_i m
          split
          · rename_i l hl
            refine yields_some fun ho => ?_
            have hn : 0 ≤ n ∧ n < l := ho _ (List.mem_singleton.2 rfl)
            have ha0 := ha
            obtain ⟨A, m', c, hb, ee⟩ := ha
            cases ee
            rcases lenOf_conc hH hl ha0 with ⟨A', c', e', _⟩ | ⟨s, _, e', _⟩
            · cases e'
              have ho' := hH.at_ hb
              obtain ⟨b, hA⟩ : ∃ b, A = some ⟨b, 0, none⟩ := by
                simp only [lenOf] at hl
                split at hl
                · rename_i hn'
                  rw [hn'] at ho'
                  obtain ⟨cs, g1, _⟩ := ho'
                  rcases g1.2 with ⟨e1, e2⟩ | ⟨g, cap, cur, e1, _⟩
                  · cases e1; omega
                  · cases e1; exact ⟨g, rfl⟩
                · rename_i hn'
                  rw [hn'] at ho'
                  exact ho'.2 _ _ _ rfl (by omega)
                · rename_i hn'
                  cases hl
                  rw [hn'] at ho'
                  obtain ⟨A2, e1, q1, _, hr, hA⟩ := buf_reads ho'
                  cases e1
                  obtain ⟨_, _, _, e3, _, _, _, h4⟩ := hr
                  cases e3
                  obtain ⟨ad, e4, _⟩ := h4 (by omega)
                  obtain ⟨b, e5⟩ := hA ad e4
                  exact ⟨b, by rw [e4, e5]⟩
                · cases hl
              subst hA
              exact ⟨_, slice_index he k n b 0 _ c hn, b, _, c, hb, by simp⟩
            · cases e'
          · exact yields_none _
        · rename_i m wd lo l
          split
          · rename_i hw
            have hw := Nat.eq_of_beq_eq_true hw
            subst hw
            refine yields_some fun ho => ?_
            have hn : 0 ≤ n ∧ n < l := ho _ (List.mem_singleton.2 rfl)
            obtain ⟨A, m', c, A', c', hb, ee, h1, hmc, h2, h3, h4⟩ := ha
            cases ee
            obtain ⟨b, rfl, rfl⟩ := h4 (by omega)
            exact ⟨_, slice_index he k n b _ _ c' hn, b, m', c, hb, by rw [Nat.add_mul]; simp⟩
          · exact yields_none _
        · exact yields_none _
      · exact yields_none _
    · rename_i m e hu
      split
      · rename_i nn off agg sz hk
        split
        · rename_i tt cs hn
          split
          · rename_i m' τ xs hr
            split
            · rename_i hm hsz h2
              have hm := Nat.eq_of_beq_eq_true hm
              have hsz := Nat.eq_of_beq_eq_true hsz
              have h2 := Nat.le_of_ble_eq_true h2
              subst hm hsz
              refine yields_some fun ho => ?_
              have hn : 0 ≤ n ∧ n < m := ho _ (List.mem_singleton.2 rfl)
              obtain ⟨b, hb, ee⟩ := ha
              cases ee
              obtain ⟨_, hs⟩ := kindOf_one (P := P) (w := w) hk
              refine ⟨.pointer (some ⟨b, off + n.toNat * τ.wd, none⟩), ?_, b, hb, rfl⟩
              simp only [Instr.indexAt, asIntOf, Sem.run_bind, Sem.run_pure, Result.andThen_ok, run_underlying hu, Instr.sureAddr, Sem.run_ite, if_pos hn, hs, Addr.add_zero']
            · exact yields_none _
          · exact yields_none _
        · exact yields_none _
      · exact yields_none _
    · exact yields_none _
  · exact yields_none _

theorem index_yields (t : TypeId) (u v : TV) (a i : Value) (ha : u.conc β Z w a) (hi : v.conc β Z w i) : Yields1 P β Z w (Instr.index t a i) (indexStep P t u v) := by
  unfold indexStep
  split
  · rename_i s k n
    have := one_int hi; subst this
    have := one_str ha; subst this
    split
    · rename_i hu
      refine yields_some fun ho => ?_
      have hn : 0 ≤ n ∧ n < s.size := ho _ (List.mem_singleton.2 rfl)
      have hlt : n.toNat < s.size := by omega
      refine ⟨_, ?_, rfl⟩
      have hget : s[n.toNat]? = some s[n.toNat] := ByteArray.getElem?_lt' s _ hlt
      have hd : s.toList.getD n.toNat 0 = s[n.toNat] := by
        rw [ByteArray.toList_eq, List.getD_eq_getElem?_getD, List.getElem?_eq_getElem (by simpa using hlt)]
        rfl
      simp only [Instr.index, asIntOf, Sem.run_bind, Sem.run_pure, Result.andThen_ok, run_underlying hu, if_pos hn.1, hget, hd]
    · exact yields_none _
  · rename_i m τ xs k n
    have := one_int hi; subst this
    split
    · rename_i m' e hu
      split
      · rename_i agg sz hk
        split
        · rename_i hm hsz
          split
          · rename_i v' hv
            have hm := Nat.eq_of_beq_eq_true hm
            have hsz := Nat.eq_of_beq_eq_true hsz
            subst hm hsz
            refine yields_some fun ho => ?_
            have hn : 0 ≤ n ∧ n < m := ho _ (List.mem_singleton.2 rfl)
            obtain ⟨vs, rfl, v1, v2, e1, ⟨hlen, he⟩, h2⟩ := ha
            cases h2
            obtain ⟨es, g1, g2⟩ := he.getD (fun _ _ => Ty.Enc.length τ) τ.zero n.toNat (by omega)
            obtain ⟨q1, q2⟩ := asTV_conc hv (enc_conc (β := β) τ g1)
            obtain ⟨_, hs⟩ := kindOf_one (P := P) (w := w) hk
            have hel := Ty.Enc.length _ g1
            have hseg : vs.toList = vs.toList.take (n.toNat * τ.wd) ++ (es ++ vs.toList.drop (n.toNat * τ.wd + τ.wd)) := by
              have hes : es = (vs.toList.drop (n.toNat * τ.wd)).take τ.wd := by
                apply List.ext_getElem?
                intro j
                rw [List.getElem?_take, List.getElem?_drop]
                split
                · rename_i hj
                  rw [List.getElem?_eq_getElem (by rw [hel]; exact hj)]
                  have := g2 j _ (List.getElem?_eq_getElem (by rw [hel]; exact hj))
                  rw [e1, List.append_nil, this]
                · rw [List.getElem?_eq_none (by rw [hel]; omega)]
              rw [hes, ← List.drop_drop, List.take_append_drop, List.take_append_drop]
            have hp := run_part (P := P) (w := w) e agg τ.wd hk vs (n.toNat * τ.wd) _ es _ hseg (by
              have : n.toNat * τ.wd ≤ vs.toList.length := by
                rw [e1, List.append_nil, EncAll.length (fun _ _ => Ty.Enc.length τ) he, hlen]
                exact Nat.mul_le_mul_right _ (by omega)
              simp at this; simp; omega) hel (fun h => by rw [← hel]; exact q2 h)
            exact ⟨_, by simp only [Instr.index, asIntOf, Sem.run_bind, Sem.run_pure, Result.andThen_ok, run_underlying hu, Sem.run_ite, if_pos hn, hs, hp], q1⟩
          · exact yields_none _
        · exact yields_none _
      · exact yields_none _
    · exact yields_none _
  · exact yields_none _


theorem nilCheck_yields (x : Operand) (u : TV) (ρ : Operand → Value) (o : Oper) (ho : o.op = .nilCheck x) (ha : u.conc β Z w (ρ x)) : ∀ obs v, nilCheckStep u = some (obs, v) → (∀ q ∈ obs, q) → ∃ y, (execOp ρ o).run P w = .ok (.value y) w ∧ v.conc β Z w y := by
  intro obs v h _
  unfold nilCheckStep at h
  split at h <;> cases h
  · obtain ⟨b, hb, e⟩ := ha
    simp only [List.cons.injEq, and_true] at e
    exact ⟨_, by simp [execOp, ho, e], b, hb, rfl⟩
  · obtain ⟨b, m, c, hb, e⟩ := ha
    simp only [List.cons.injEq, and_true] at e
    exact ⟨_, by simp [execOp, ho, e], b, m, c, hb, rfl⟩
  · obtain ⟨b, q, es, e, r⟩ := ha
    simp only [List.cons.injEq, and_true] at e
    exact ⟨_, by simp [execOp, ho, e], b, q, es, rfl, r⟩
  · obtain ⟨b, hb, e⟩ := ha
    simp only [List.cons.injEq, and_true] at e
    exact ⟨_, by simp [execOp, ho, e], b, hb, rfl⟩
  · obtain ⟨vs, e, hc⟩ := ha
    simp only [List.cons.injEq, and_true] at e
    exact ⟨_, by simp [execOp, ho, e], vs, rfl, hc⟩

theorem conv_yields (hH : ObjsOK β Z w H) (src dst : TypeId) (u : TV) (a : Value) (ha : u.conc β Z w a) : Yields1 P β Z w (convert src dst a) (convStep P H src dst u) := by
  unfold convStep
  split
  · rename_i d k k' n hs hd
    have := one_int ha; subst this
    refine yields_yv (x := .int _ _) ?_ rfl
    simp [convert, run_underlying hs, run_underlying hd, Conv.intToInt]
  · rename_i s hs hd
    have := one_str ha; subst this
    refine yields_yv (x := .string _) ?_ rfl
    simp [convert, run_underlying hs, run_underlying hd]
  · rename_i e0 v hs hd
    split
    · rename_i e by_ he
      split
      · rename_i xs hu hl
        obtain ⟨hs', _⟩ := elemOf_spec he
        obtain ⟨A, c, cs, rfl, h1, h2, h3, h4⟩ := listOf_conc hH hl ha
        refine yields_yv (x := .string _) ?_ rfl
        by_cases hn : xs.length = 0
        · have hx : xs = [] := List.eq_nil_of_length_eq_zero hn
          subst hx
          cases A with
          | none => exact run_convert_bytes_nil (P := P) w src e hs' hu 0 c dst hd
          | some ad =>
            simp [convert, run_underlying hs', run_underlying hd, run_underlying hu, Conv.bytesToString, loadCells, loadCellsFrom]
            rfl
        · obtain ⟨ad, rfl, hsp, hc⟩ := h4 hn
          obtain ⟨b, o, sp⟩ := ad
          simp only at hsp; subst hsp
          refine run_convert_bytes_arg (P := P) w src e hs' hu b o xs.length c xs rfl (fun i hi => ?_) dst hd
          obtain ⟨es, g1, g2⟩ := h3.getD (k := 1) (fun _ _ => Ty.Enc.length (.int .u8)) (0 : Int) i hi
          have g1 : es = [.int .u8 (xs.getD i 0)] := g1
          have := hc _ _ (g2 0 _ (by rw [g1]; rfl))
          rw [Addr.add_zero'] at this
          simpa using this
      · exact yields_none _
    · exact yields_none _
  · exact yields_none _

theorem boundOf_run {d : Nat} {v : Option TV} {l : Int} {y : Option Value} (h : boundOf d v = some l) (hv : match v, y with | none, none => True | some u, some x => u.conc β Z w x | _, _ => False) :
    (y = none ∧ l = d) ∨ ∃ k, y = some (.int k l) := by
  unfold boundOf at h
  split at h
  · cases h
    cases y with
    | none => exact .inl ⟨rfl, rfl⟩
    | some y => exact hv.elim
  · cases h
    cases y with
    | none => exact hv.elim
    | some y => have := one_int hv; subst this; exact .inr ⟨_, rfl⟩
  · cases h

theorem run_bounds (isS : Bool) (len cap : Nat) (lo hi : Option Value) (l h : Int) (hl : (lo = none ∧ l = (0 : Nat)) ∨ ∃ k, lo = some (.int k l)) (hh : (hi = none ∧ h = len) ∨ ∃ k, hi = some (.int k h))
    (h1 : 0 ≤ h) (h2 : h ≤ len) (hlc : len ≤ cap) (h3 : 0 ≤ l) (h4 : l ≤ h) : (Instr.sliceBounds isS len cap lo hi none).run P w = .ok (l.toNat, h.toNat, cap) w := by
  have hhn : ((h.toNat : Nat) : Int) = h := by omega
  rcases hh with ⟨rfl, rfl⟩ | ⟨k, rfl⟩ <;> rcases hl with ⟨rfl, rfl⟩ | ⟨k', rfl⟩
  · simp [Instr.sliceBounds]
  · simp only [Instr.sliceBounds, Sem.run_bind, Sem.run_pure, Result.andThen_ok, run_sliceBound (P := P) w k' l len _ h3 (by omega)]
    simp
  · simp only [Instr.sliceBounds, Sem.run_bind, Sem.run_pure, Result.andThen_ok, run_sliceBound (P := P) w k h cap _ h1 (by omega)]
    simp
  · simp only [Instr.sliceBounds, Sem.run_bind, Sem.run_pure, Result.andThen_ok, run_sliceBound (P := P) w k h cap _ h1 (by omega), run_sliceBound (P := P) w k' l h.toNat _ h3 (by omega)]

end

end Go.Proofs.Ythjogeodclpafaa.AM
end

section
set_option linter.unusedVariables false
set_option linter.unusedSimpArgs false
namespace Go.Proofs.Ythjogeodclpafaa.AM
open Go

section
variable {P : Program} {β : List Value} {Z : Nat → Prop} {w : World} {H : List AObj}

theorem ofCell_conc {v : Value} (h : (ofCell v).known = true) : (ofCell v).conc β Z w [v] := by
  unfold ofCell at h ⊢
  split at h <;> first | rfl | cases h

theorem ofCells_conc : ∀ {vs : List Value}, (vs.map ofCell).all BV.known = true → ConcL β Z w (vs.map ofCell) vs
  | [], _ => rfl
  | v :: vs, h => by
    simp only [List.map_cons, List.all_cons, Bool.and_eq_true] at h
    exact ⟨[v], vs, rfl, ofCell_conc h.1, ofCells_conc h.2⟩

theorem EncAll.one {α : Type} {R : α → List Value → Prop} (hR : ∀ x cs, R x cs → ∀ u ∈ cs, u.oneCell' = true) : ∀ {xs : List α} {cs : List Value}, EncAll R xs cs → ∀ u ∈ cs, u.oneCell' = true
  | [], _, e => by simp [EncAll] at e; simp [e]
  | x :: xs, _, ⟨c1, c2, e, h1, h2⟩ => by
    subst e
    intro u hu
    rcases List.mem_append.1 hu with h | h
    · exact hR _ _ h1 u h
    · exact EncAll.one hR h2 u h

theorem Ty.Enc.one : ∀ (τ : Ty) {x : τ.D} {cs : List Value}, τ.Enc Z w x cs → ∀ u ∈ cs, u.oneCell' = true
  | .int _, _, _, e => by simp [Ty.Enc] at e; simp [e, Value.oneCell']
  | .bool, _, _, e => by simp [Ty.Enc] at e; simp [e, Value.oneCell']
  | .str, _, _, e => by simp [Ty.Enc] at e; simp [e, Value.oneCell']
  | .pair a b, _, _, ⟨c1, c2, e, h1, h2⟩ => by
    subst e
    intro u hu
    rcases List.mem_append.1 hu with h | h
    · exact Ty.Enc.one a h1 u h
    · exact Ty.Enc.one b h2 u h
  | .sl _ a, _, _, ⟨v, e, A, c, cs, e', _⟩ => by subst e; subst e'; simp [Value.oneCell']
  | .arr n a, _, _, ⟨_, h⟩ => EncAll.one (fun _ _ => Ty.Enc.one a) h

theorem BV.conc.ones : ∀ {v : BV} {cs : List Value}, v.conc β Z w cs → ∀ u ∈ cs, u.oneCell' = true
  | .any, _, ⟨_, e, h⟩ => by subst e; simpa using h
  | .int _ _, _, e => by simp [BV.conc] at e; simp [e, Value.oneCell']
  | .bool _, _, e => by simp [BV.conc] at e; simp [e, Value.oneCell']
  | .lit _, _, e => by simp [BV.conc] at e; simp [e, Value.oneCell']
  | .str _, _, e => by simp [BV.conc] at e; simp [e, Value.oneCell']
  | .nilp, _, e => by simp [BV.conc] at e; simp [e, Value.oneCell']
  | .nils, _, e => by simp [BV.conc] at e; simp [e, Value.oneCell']
  | .nilm, _, e => by simp [BV.conc] at e; simp [e, Value.oneCell']
  | .nilf, _, e => by simp [BV.conc] at e; simp [e, Value.oneCell']
  | .ptr _ _, _, ⟨b, h, e⟩ => by simp [e, Value.oneCell']
  | .eptr _ _ _ _, _, ⟨b, m, c, h, e⟩ => by simp [e, Value.oneCell']
  | .fptr _ _ _, _, ⟨b, o, es, e, _⟩ => by simp [e, Value.oneCell']
  | .aptr _ _ _ _ _ _, _, ⟨b, h, e⟩ => by simp [e, Value.oneCell']
  | .hd _, _, ⟨A, m, c, h, e⟩ => by simp [e, Value.oneCell']
  | .sub _ _ _ _, _, ⟨A, m, c, A', c', h, e, _⟩ => by simp [e, Value.oneCell']
  | .fsl _ _ _, _, ⟨v, e, A, c, cs, e', _⟩ => by subst e; subst e'; simp [Value.oneCell']
  | .map _, _, ⟨b, h, e⟩ => by simp [e, Value.oneCell']
  | .fn _ _, _, ⟨vs, e, h⟩ => by simp [e, Value.oneCell']
  | .arr m τ xs, _, ⟨_, h⟩ => EncAll.one (fun _ _ => Ty.Enc.one τ) h
  | .nz _ _, _, ⟨b, e, _⟩ => by simp [e, Value.oneCell']
  | .pre _ _, _, ⟨A, m, c, h, e, _⟩ => by simp [e, Value.oneCell']
  | .win _ _ _ _, _, ⟨A, m, c, A', c', h, e, _⟩ => by simp [e, Value.oneCell']
  | .prec _ _, _, ⟨A, m, c, h, e, _⟩ => by simp [e, Value.oneCell']

theorem ConcL.ones : ∀ {cs : List BV} {vs : List Value}, ConcL β Z w cs vs → ∀ u ∈ vs, u.oneCell' = true
  | [], _, e => by simp [ConcL] at e; simp [e]
  | _ :: _, _, ⟨v1, v2, e, h1, h2⟩ => by
    subst e
    intro u hu
    rcases List.mem_append.1 hu with h | h
    · exact h1.ones u h
    · exact ConcL.ones h2 u h

theorem TV.cells_conc {v : TV} {x : Value} (h : v.conc β Z w x) : ConcL β Z w v.cells x.cells.toList := by
  cases v with
  | one c =>
    have h1 := BV.conc.ones h x (List.mem_singleton.2 rfl)
    have : x.cells = #[x] := by cases x <;> first | rfl | cases h1
    rw [this]
    exact ⟨[x], [], rfl, h, rfl⟩
  | agg cs =>
    obtain ⟨vs, rfl, hc⟩ := h
    exact hc

def splice (cs : List Value) (o : Nat) (nv : List Value) : List Value := cs.take o ++ nv ++ cs.drop (o + nv.length)

theorem fold_set : ∀ (vs : List Value) (k off : Nat) (cs : Array Value), off + k + vs.length ≤ cs.size →
    ((vs.zipIdx k).foldl (fun cs (x : Value × Nat) => cs.setIfInBounds (off + x.2) x.1) cs).toList = cs.toList.take (off + k) ++ vs ++ cs.toList.drop (off + k + vs.length)
  | [], k, off, cs, h => by simp
  | v :: vs, k, off, cs, h => by
    simp only [List.zipIdx_cons, List.foldl_cons, List.length_cons] at h ⊢
    rw [fold_set vs (k + 1) off _ (by simp; omega)]
    have hlt : off + k < cs.toList.length := by simp; omega
    rw [Array.toList_setIfInBounds, show off + (k + 1) = (off + k) + 1 by omega, List.take_succ_eq_append_getElem (by simpa using hlt)]
    simp only [List.getElem_set_self, List.take_set_of_le (Nat.le_refl _), List.append_assoc, List.singleton_append]
    congr 2
    rw [List.drop_set_of_lt (by omega), show off + k + 1 + vs.length = off + k + (vs.length + 1) by omega]

theorem zipParts_spec : ∀ {ps : List (Nat × Operand)} {vs : List TV} {l : List (Nat × TV)}, zipParts ps vs = some l → l.map (·.1) = ps.map (·.1) ∧ l.map (·.2) = vs ∧ ps.length = vs.length
  | [], [], l, h => by simp [zipParts] at h; subst h; exact ⟨rfl, rfl, rfl⟩
  | [], _ :: _, l, h => by simp [zipParts] at h
  | _ :: _, [], l, h => by simp [zipParts] at h
  | (i, o) :: r, v :: vs, l, h => by
    simp only [zipParts] at h
    split at h
    · rename_i l' hl
      cases h
      obtain ⟨h1, h2, h3⟩ := zipParts_spec hl
      exact ⟨by simp [h1], by simp [h2], by simp [h3]⟩
    · cases h

theorem patchW_conc {off : Nat} {news cs cs' : List BV} {nv vs : List Value} (h : patchW off news cs = some cs') (hn : ConcL β Z w news nv) (hc : ConcL β Z w cs vs) : ConcL β Z w cs' (splice vs off nv) ∧ off + nv.length ≤ vs.length := by
  unfold patchW at h
  split at h
  · rename_i a b ha hb
    cases h
    obtain ⟨u1, u2, e1, l1, c1⟩ := takeW_conc ha hc
    obtain ⟨u3, u4, e2, l2, c2⟩ := dropW_conc hb hc
    have hnl := hn.length
    rw [← hnl] at l2
    have e3 : splice vs off nv = u1 ++ (nv ++ u4) := by
      unfold splice
      rw [List.append_assoc]
      congr 1
      · rw [e1, ← l1, List.take_left]
      · rw [e2, ← l2, List.drop_left]
    rw [e3]
    exact ⟨c1.app (hn.app c2), by rw [e2]; simp; omega⟩
  · cases h


theorem fill_conc (fs : Array Field) (places : Nat → Option (Nat × Nat)) (hpl : ∀ i off sz, placeB P fs.toList i = some (off, sz) → places i = some (off, sz)) : ∀ (l : List (Nat × TV)) (cs cs' : List BV) (vs : List Value) (zs : Array Value), fillB P fs.toList cs l = some cs' → ConcL β Z w cs zs.toList →
    TVs β Z w (l.map (·.2)) vs → ∃ r, Instr.fill places zs ((l.map (·.1)).zip vs) = some r ∧ ConcL β Z w cs' r.toList
  | [], cs, cs', vs, zs, h, hc, hv => by
    simp only [fillB, Option.some.injEq] at h
    subst h
    exact ⟨zs, by simp [Instr.fill], hc⟩
  | (i, v) :: l, cs, cs', vs, zs, h, hc, hv => by
    obtain ⟨x, vs', rfl, h1, h2⟩ := hv
    simp only [fillB] at h
    split at h
    · rename_i off sz hp
      split at h
      · rename_i c1 hw hpa
        have hw : widths v.cells = sz := Nat.eq_of_beq_eq_true hw
        have h1' : v.conc β Z w x := h1
        have hcv := TV.cells_conc h1'
        have hlen := hcv.length
        obtain ⟨k1, k2⟩ := patchW_conc hpa hcv hc
        have hsz : x.cells.size = sz := by rw [← Array.length_toList, hlen, hw]
        have hfold : (x.cells.zipIdx.foldl (fun cs (x : Value × Nat) => cs.setIfInBounds (off + x.2) x.1) zs).toList = splice zs.toList off x.cells.toList := by
          rw [← Array.foldl_toList, Array.toList_zipIdx]
          have := fold_set x.cells.toList 0 off zs (by simpa using k2)
          simpa [splice] using this
        obtain ⟨r, hr, hc'⟩ := fill_conc fs places hpl l c1 cs' vs' (x.cells.zipIdx.foldl (fun cs (x : Value × Nat) => cs.setIfInBounds (off + x.2) x.1) zs) h (by rw [hfold]; exact k1) h2
        refine ⟨r, ?_, hc'⟩
        simp only [List.map_cons, List.zip_cons_cons, Instr.fill, hpl i off sz hp]
        rw [if_neg (by
          rw [Array.length_toList, Array.length_toList] at k2
          simp [hsz]; omega)]
        exact hr
      · cases h
    · cases h

theorem run_mapM_places (fs : List Field) (h : fs.all (fun f => (P.info? f.type).isSome) = true) : (fs.mapM (m := Sem) fun f => do pure (f.offset, ← sizeOf f.type)).run P w = .ok (fs.map fun f => (f.offset, ((P.info? f.type).map (·.size)).getD 0)) w := by
  induction fs with
  | nil => simp
  | cons f fs ih =>
    simp only [List.all_cons, Bool.and_eq_true] at h
    obtain ⟨i, hi⟩ := Option.isSome_iff_exists.1 h.1
    rw [List.mapM_cons]
    simp only [Sem.run_bind, run_sizeOf' hi, Result.andThen_ok, Sem.run_pure, ih h.2, List.map_cons, hi, Option.map_some, Option.getD_some]

theorem build_yields (t : TypeId) (l : List (Nat × TV)) (parts : Array (Nat × Value)) (hidx : parts.toList.map (·.1) = l.map (·.1)) (hv : TVs β Z w (l.map (·.2)) (parts.toList.map (·.2))) : Yields1 P β Z w (Instr.build t parts) (buildStep P t l) := by
  unfold buildStep
  split
  · rename_i fs i hu hi
    split
    · rename_i z hz
      split
      · rename_i hk hall
        split
        · rename_i cs hf
          refine yields_some fun _ => ?_
          have hm := run_mapM_places (P := P) (w := w) fs.toList hall
          let pl : List (Nat × Nat) := fs.toList.map fun f => (f.offset, ((P.info? f.type).map (·.size)).getD 0)
          obtain ⟨r, hr, hc⟩ := fill_conc (P := P) fs (fun i => pl[i]?) (fun i off sz hp => by
            unfold placeB at hp
            split at hp
            · rename_i fd hfd
              split at hp
              · rename_i inf hinf
                cases hp
                simp [pl, List.getElem?_map, hfd, hinf]
              · cases hp
            · cases hp) l _ cs _ z.cells hf (ofCells_conc hk) hv
          have hzip : (l.map (·.1)).zip (parts.toList.map (·.2)) = parts.toList := by
            rw [← hidx]
            generalize parts.toList = ps
            induction ps with
            | nil => rfl
            | cons p ps ih => simp [ih]
          rw [hzip] at hr
          refine ⟨.agg r, ?_, r, rfl, hc⟩
          have hzv : (zeroValue t).run P w = .ok z w := by simp [zeroValue, typeInfo, hi, hz]
          have hm' : (fs.mapM (m := Sem) fun f => do pure (f.offset, ← sizeOf f.type)).run P w = .ok pl.toArray w := by
            rw [Array.mapM_eq_mapM_toList, ← bind_pure_comp]
            simp only [Sem.run_bind, hm, Result.andThen_ok, Sem.run_pure]
            rfl
          have hr' : Instr.fill (pl.toArray[·]?) z.cells parts.toList = some r := by
            rw [← hr]; congr 1; funext i; simp
          simp only [Instr.build, Sem.run_bind, hzv, Result.andThen_ok, run_underlying hu, hm', hr']
          simp
        · exact yields_none _
      · exact yields_none _
    · exact yields_none _
  · exact yields_none _

end

end Go.Proofs.Ythjogeodclpafaa.AM
end

section
set_option linter.unusedVariables false
set_option linter.unusedSimpArgs false
namespace Go.Proofs.Ythjogeodclpafaa.AM
open Go

section
variable {P : Program} {β : List Value} {Z : Nat → Prop} {w : World} {H : List AObj}

def OptConc (β : List Value) (Z : Nat → Prop) (w : World) : Option TV → Option Value → Prop
  | none, none => True
  | some u, some x => u.conc β Z w x
  | _, _ => False

theorem boundOf_run' {d : Nat} {v : Option TV} {l : Int} {y : Option Value} (h : boundOf d v = some l) (hv : OptConc β Z w v y) : (y = none ∧ l = d) ∨ ∃ k, y = some (.int k l) :=
  boundOf_run (β := β) (Z := Z) (w := w) h (by cases v <;> cases y <;> exact hv)

theorem header_at (hH : ObjsOK β Z w H) {m n : Nat} {A : Option Addr} {c l : Nat} (hb : β[m]? = some (.slice A n c)) (hl : lenOf H (.hd m) = some l) : n = l ∧ l ≤ c ∧ c ≤ maxLen ∧ (l ≠ 0 → ∃ b, A = some ⟨b, 0, none⟩) := by
  have ho' := hH.at_ hb
  simp only [lenOf] at hl
  split at hl
  · rename_i hn'
    cases hl
    rw [hn'] at ho'
    obtain ⟨cs, g1, _⟩ := ho'
    rcases g1.2 with ⟨e1, e2⟩ | ⟨g, cap, cur, e1, _, _, q1, q2, _⟩
    · cases e1; exact ⟨by omega, by omega, by unfold maxLen; omega, fun h => absurd e2 h⟩
    · cases e1; exact ⟨rfl, q1, q2, fun _ => ⟨g, rfl⟩⟩
  · rename_i hn'
    cases hl
    rw [hn'] at ho'
    obtain ⟨A', c', cs, e, q1, q2, _⟩ := ho'.1
    cases e
    exact ⟨rfl, q1, q2, fun h => ho'.2 _ _ _ rfl h⟩
  · rename_i hn'
    cases hl
    rw [hn'] at ho'
    obtain ⟨A2, e1, q1, q2, hr, hA⟩ := buf_reads ho'
    cases e1
    refine ⟨rfl, q1, q2, fun h => ?_⟩
    obtain ⟨_, _, _, e3, _, _, _, h4⟩ := hr
    cases e3
    obtain ⟨ad, e4, _⟩ := h4 (by omega)
    obtain ⟨b, e5⟩ := hA ad e4
    exact ⟨b, by rw [e4, e5]⟩
  · cases hl

theorem slice_yields (hH : ObjsOK β Z w H) (t : TypeId) (u : TV) (lo hi : Option TV) (a : Value) (l h : Option Value) (ha : u.conc β Z w a) (hl : OptConc β Z w lo l) (hh : OptConc β Z w hi h) :
    Yields1 P β Z w (Instr.sliceAt t a l h none) (sliceStep P H t u lo hi) := by
  unfold sliceStep
  split
  · rename_i s
    have := one_str ha; subst this
    split
    · rename_i x y hu hx hy
      refine yields_some fun ho => ⟨.string (s.extract x.toNat y.toNat), ?_, rfl⟩
      have h1 : 0 ≤ y ∧ y ≤ s.size := ho _ (by simp)
      have h2 : 0 ≤ x ∧ x ≤ y := ho _ (by simp)
      have hb := run_bounds (P := P) (w := w) false s.size s.size l h x y (boundOf_run' hx hl) (boundOf_run' hy hh) h1.1 h1.2 (Nat.le_refl _) h2.1 h2.2
      simp [Instr.sliceAt, run_underlying hu, Instr.slice, hb]
    · exact yields_none _
  · rename_i p _
    split
    · rename_i e τ by_ n he hn
      obtain ⟨hu, _, inf, hin, hsz, _, _⟩ := elemOf_spec he
      split
      · rename_i x y hx hy
        have bx := boundOf_run' hx hl
        have by_ := boundOf_run' hy hh
        have run : ∀ A c, n ≤ c → 0 ≤ y ∧ y ≤ n → 0 ≤ x ∧ x ≤ y → (Instr.sliceAt t (.slice A n c) l h none).run P w = .ok (.slice (if c = x.toNat then A else A.map (·.add (x.toNat * τ.wd))) (y.toNat - x.toNat) (c - x.toNat)) w := by
          intro A c hc h1 h2
          have hb := run_bounds (P := P) (w := w) true n c l h x y bx by_ h1.1 h1.2 hc h2.1 h2.2
          simp only [Instr.sliceAt, Sem.run_bind, run_underlying hu, Result.andThen_ok, Instr.slice, hb, run_sizeOf' hin, Sem.run_pure, hsz]
        split
        · rename_i e' a' xs _
          split
          · rename_i q _; subst q
            refine yields_some fun ho => ?_
            have h1 : 0 ≤ y ∧ y ≤ n := ho _ (by simp)
            have h2 : 0 ≤ x ∧ x ≤ y := ho _ (by simp)
            cases hn
            obtain ⟨v, ev, A, c, cs, rfl, q1, q2, q3, q4⟩ := ha
            cases ev
            refine ⟨_, run A c q1 h1 h2, _, rfl, ?_⟩
            have hlen : ((xs.drop x.toNat).take (y.toNat - x.toNat)).length = y.toNat - x.toNat := by simp; omega
            show FrozenAt Z w (EncAll (a'.Enc Z w) ((xs.drop x.toNat).take (y.toNat - x.toNat))) ((xs.drop x.toNat).take (y.toNat - x.toNat)).length _
            rw [hlen]
            refine ⟨_, _, (cs.drop (x.toNat * a'.wd)).take ((y.toNat - x.toNat) * a'.wd), rfl, by omega, by omega, ((q3.drop (fun _ _ => Ty.Enc.length a') _).take (fun _ _ => Ty.Enc.length a') _), fun hne => ?_⟩
            obtain ⟨ad, rfl, hsp, hz, hc⟩ := q4 (by omega)
            rw [if_neg (by omega)]
            refine ⟨_, rfl, by simp only [Addr.add_spot hsp], by simp only [Addr.add_block]; exact hz, fun j u hj => ?_⟩
            have : cs[x.toNat * a'.wd + j]? = some u := by
              rw [List.getElem?_take] at hj
              split at hj
              · rwa [List.getElem?_drop] at hj
              · cases hj
            have := hc _ _ this
            rw [Addr.add_spot hsp] at this
            simp only [Addr.add_spot hsp, Addr.add_zero', Nat.add_assoc]
            exact this
          · exact yields_none _
        · rename_i m
          split
          · exact yields_none _
          split
          · refine yields_some fun ho => ?_
            have h1 : 0 ≤ y ∧ y ≤ n := ho _ (by simp)
            have h2 : 0 ≤ x ∧ x ≤ y := ho _ (by simp)
            obtain ⟨A, n', c, hb, ee⟩ := ha
            cases ee
            obtain ⟨rfl, q1, q2, q3⟩ := header_at hH hb hn
            have hx0 : x = 0 := by simp [boundOf] at hx; omega
            subst hx0
            refine ⟨_, run A c q1 h1 h2, A, n', c, hb, ?_, by omega, q1, q2⟩
            have hA : (if c = (0 : Int).toNat then A else A.map (·.add ((0 : Int).toNat * τ.wd))) = A := by
              split
              · rfl
              · cases A <;> simp [Addr.add]
            rw [hA]
            simp
          refine yields_some fun ho => ?_
          have h1 : 0 ≤ y ∧ y ≤ n := ho _ (by simp)
          have h2 : 0 ≤ x ∧ x ≤ y := ho _ (by simp)
          obtain ⟨A, n', c, hb, ee⟩ := ha
          cases ee
          obtain ⟨rfl, q1, q2, q3⟩ := header_at hH hb hn
          refine ⟨_, run A c q1 h1 h2, A, n', c, _, _, hb, rfl, by omega, q1, by omega, q2, fun hne => ?_⟩
          obtain ⟨b, rfl⟩ := q3 (by omega)
          exact ⟨b, rfl, by rw [if_neg (by omega)]; simp [Addr.add_zero']⟩
        · rename_i m wd lo' len
          split
          · rename_i hw
            have hw := Nat.eq_of_beq_eq_true hw
            subst hw
            cases hn
            refine yields_some fun ho => ?_
            have h1 : 0 ≤ y ∧ y ≤ n := ho _ (by simp)
            have h2 : 0 ≤ x ∧ x ≤ y := ho _ (by simp)
            obtain ⟨A, n', c, A', c', hb, ee, q1, q1', q2, q3, q4⟩ := ha
            cases ee
            refine ⟨_, run A' c' (by omega) h1 h2, A, n', c, _, _, hb, rfl, by omega, q1', by omega, q3, fun hne => ?_⟩
            obtain ⟨b, rfl, rfl⟩ := q4 (by omega)
            exact ⟨b, rfl, by rw [if_neg (by omega)]; simp [Addr.add_zero', Nat.add_mul]⟩
          · exact yields_none _
        · refine yields_some fun ho => ?_
          have h1 : y = 0 := ho _ (by simp)
          have h2 : x = 0 := ho _ (by simp)
          cases hn
          have ha' : a = .slice none 0 0 := by simpa [TV.conc, BV.conc] using ha
          subst ha' h1 h2
          exact ⟨_, run none 0 (Nat.le_refl _) ⟨Int.le_refl _, Int.le_refl _⟩ ⟨Int.le_refl _, Int.le_refl _⟩, rfl⟩
        · exact yields_none _
      · exact yields_none _
    · exact yields_none _
  · exact yields_none _

/-! ### Zero values -/
theorem cellEqb_eq {a b : Value} (h : cellEqb a b = true) : a = b := by
  unfold cellEqb at h
  split at h
  · simp at h; rw [h.1, h.2]
  · simp at h; rw [h]
  · rename_i x y
    have : x.toList = y.toList := by simpa using h
    rw [ByteArray.toList_eq, ByteArray.toList_eq] at this
    obtain ⟨⟨x⟩⟩ := x; obtain ⟨⟨y⟩⟩ := y
    simp at this; rw [this]
  all_goals first | rfl | cases h

theorem allEqb_eq : ∀ {as bs : List Value}, allEqb as bs = true → as = bs
  | [], [], _ => rfl
  | [], _ :: _, h => by cases h
  | _ :: _, [], h => by cases h
  | a :: as, b :: bs, h => by
    simp only [allEqb, Bool.and_eq_true] at h
    rw [cellEqb_eq h.1, allEqb_eq h.2]

theorem EncAll.replicate {α : Type} {R : α → List Value → Prop} {x : α} {cs : List Value} (h : R x cs) : ∀ (n : Nat), EncAll R (List.replicate n x) (List.replicate n cs).flatten
  | 0 => rfl
  | n + 1 => ⟨cs, _, by simp [List.replicate_succ], h, EncAll.replicate h n⟩

theorem zero_enc : ∀ (τ : Ty), τ.Enc Z w τ.zero τ.zcells
  | .int _ => rfl
  | .bool => rfl
  | .str => rfl
  | .pair a b => ⟨_, _, rfl, zero_enc a, zero_enc b⟩
  | .sl _ a => ⟨_, rfl, none, 0, [], rfl, Nat.le_refl _, by unfold maxLen; omega, rfl, fun h => absurd rfl h⟩
  | .arr n a => ⟨by simp [Ty.zero], EncAll.replicate (zero_enc a) n⟩

theorem zeroOK_spec {t : TypeId} {agg : Bool} {τ : Ty} (h : zeroOK P t agg τ = true) : ∃ i z, P.info? t = some i ∧ i.zero = some z ∧ (zeroValue t).run P w = .ok z w ∧ z = valOf agg τ.zcells ∧ z.cells.toList = τ.zcells ∧ τ.Enc Z w τ.zero τ.zcells := by
  unfold zeroOK at h
  split at h
  · rename_i i hi
    split at h
    · rename_i cs hz
      simp only [Bool.and_eq_true] at h
      obtain ⟨rfl, h⟩ := h
      have := allEqb_eq h
      refine ⟨i, _, hi, hz, by simp [zeroValue, typeInfo, hi, hz], ?_, by simpa [Value.cells] using this, zero_enc τ⟩
      rw [← this]; simp [valOf]
    · rename_i z hn hz
      simp only [Bool.and_eq_true, Bool.not_eq_true'] at h
      obtain ⟨rfl, h⟩ := h
      have := allEqb_eq h
      refine ⟨i, z, hi, hz, by simp [zeroValue, typeInfo, hi, hz], ?_, ?_, zero_enc τ⟩
      · rw [← this]; rfl
      · rw [← this]
        cases z <;> first | rfl | exact (hn _ rfl).elim
    · cases h
  · cases h

/-! ### Maps -/
theorem keyTy_spec {t : TypeId} {κ : Ty} (h : keyTy P t = some κ) : (∃ k, κ = .int k ∧ P.underlying t = some (.int k)) ∨ (κ = .str ∧ P.underlying t = some .string) := by
  unfold keyTy at h
  split at h
  · cases h; exact .inl ⟨_, rfl, by assumption⟩
  · cases h; exact .inr ⟨rfl, by assumption⟩
  · cases h

theorem map_find {κ τ : Ty} {agg : Bool} (hκ : (∃ k, κ = .int k) ∨ κ = .str) (key : κ.D) (kv : Value) (hk : κ.Enc Z w key [kv]) (kd : TypeDesc) (hd : (∃ k, κ = .int k ∧ kd = .int k) ∨ (κ = .str ∧ kd = .string)) :
    ∀ (es : List (κ.D × τ.D)) (ms : List MapEntry) (i : Nat), MapEnc agg Z w es ms →
      match mapGet key es with
      | some x => ∃ j v cv, Instr.findNow kd kv ms i = some (some (j, v)) ∧ v = valOf agg cv ∧ τ.Enc Z w x cv
      | none => Instr.findNow kd kv ms i = some none
  | [], ms, i, h => by simp [MapEnc] at h; subst h; simp [mapGet, Instr.findNow]
  | (k, x) :: r, ms, i, ⟨e, ms', h, h1, ⟨cv, e2, h2⟩, hr⟩ => by
    subst h
    have ih := map_find hκ key kv hk kd hd r ms' (i + 1) hr
    have hs : Instr.sameNow kd kv e.key = some (κ.eqb key k) := by
      rcases hd with ⟨q, rfl, rfl⟩ | ⟨rfl, rfl⟩
      · have a1 : kv = .int q key := by simpa [Ty.Enc] using hk
        have a2 : e.key = .int q k := by simpa [Ty.Enc] using h1
        rw [a1, a2]; simp [Instr.sameNow, Ty.eqb]
      · have a1 : kv = .string key := by simpa [Ty.Enc] using hk
        have a2 : e.key = .string k := by simpa [Ty.Enc] using h1
        rw [a1, a2]; simp [Instr.sameNow, Ty.eqb, beq_toListBytes]
    simp only [mapGet]
    cases hq : κ.eqb key k with
    | true =>
      simp only [Instr.findNow, hs, hq]
      exact ⟨i, e.val, cv, rfl, e2, h2⟩
    | false =>
      simp only [Instr.findNow, hs, hq]
      exact ih

theorem checkKey_ok (em : Bool) (n : Nat) (t : TypeId) (v : Value) (h : (∃ k, P.underlying t = some (.int k)) ∨ P.underlying t = some .string) : (Instr.checkKey em (n + 1) t v).run P w = .ok () w := by
  rcases h with ⟨k, h⟩ | h
  · cases v <;> simp [Instr.checkKey, run_underlying h]
  · cases v <;> simp [Instr.checkKey, run_underlying h]

theorem lookup_yields (hH : ObjsOK β Z w H) (t : TypeId) (m k : TV) (ok : Bool) (a b : Value) (ha : m.conc β Z w a) (hb : k.conc β Z w b) : Yields1 P β Z w (Instr.lookup t a b ok) (lookupStep P H t m k ok) := by
  unfold lookupStep
  split
  · rename_i kt et n hu
    split
    · rename_i agg' κ τ es agg sz κ' hn hk hkt
      split
      · rename_i q key _ hdec hsz
        subst q
        split
        · rename_i v hv
          split
          · rename_i hz
            obtain ⟨bb, hbb, e⟩ := ha; cases e
            simp only [Bool.and_eq_true, beq_iff_eq] at hsz
            obtain ⟨hsz, rfl⟩ := hsz
            have hsz := Nat.eq_of_beq_eq_true hsz
            subst hsz
            have ho := hH.at_ hbb
            rw [hn] at ho
            obtain ⟨b', ms, clock, e, hheap, hm⟩ := ho
            cases e
            obtain ⟨d, hud, hd⟩ : ∃ d, P.underlying kt = some d ∧ ((∃ k, κ' = .int k ∧ d = .int k) ∨ (κ' = .str ∧ d = .string)) := by
              rcases keyTy_spec hkt with ⟨q, rfl, h⟩ | ⟨rfl, h⟩
              · exact ⟨_, h, .inl ⟨q, rfl, rfl⟩⟩
              · exact ⟨_, h, .inr ⟨rfl, rfl⟩⟩
            have hκ : (∃ k, κ' = .int k) ∨ κ' = .str := by
              rcases hd with ⟨q, h, _⟩ | ⟨h, _⟩
              · exact .inl ⟨q, h⟩
              · exact .inr h
            have hkey : κ'.Enc Z w key [b] := by
              cases k with
              | one kv => exact dec_conc (β := β) hdec (show ConcL β Z w [kv] [b] from ⟨[b], [], rfl, hb, rfl⟩)
              | agg cs => cases hdec
            have hf := map_find (τ := τ) hκ key b hkey d hd es ms.toList 0 hm
            have hck : ∀ em, (Instr.checkKey em 10000 kt b).run P w = .ok () w := fun em => checkKey_ok em 9999 kt b (by
              rcases hd with ⟨q, _, rfl⟩ | ⟨_, rfl⟩
              · exact .inl ⟨q, hud⟩
              · exact .inr hud)
            obtain ⟨i, z, hi, hiz, hzr, hzv, _, hze⟩ := zeroOK_spec (Z := Z) (w := w) hz
            have run : ∀ (r : Option (Nat × Value)), Instr.findNow d b ms.toList 0 = some r → (Instr.lookup t (.map (some bb)) b ok).run P w =
                .ok (if ok then .tuple #[(match r with | some (_, v) => v | none => z), .bool r.isSome] else (match r with | some (_, v) => v | none => z)) w := by
              intro r hr
              have hg : (getObj bb).run P w = .ok (.map ms clock) w := by simp [getObj, Sem.run, hheap]
              cases r with
              | none => simp [Instr.lookup, run_underlying hu, hg, hck, Instr.findKey, run_underlying hud, hr, hzr]
              | some p => simp [Instr.lookup, run_underlying hu, hg, hck, Instr.findKey, run_underlying hud, hr]
            have hval : ∃ r cv, Instr.findNow d b ms.toList 0 = some r ∧ r.isSome = (mapGet key es).isSome ∧ (match r with | some (_, v) => v | none => z) = valOf agg cv ∧ τ.Enc Z w ((mapGet key es).getD τ.zero) cv := by
              cases hg : mapGet key es with
              | none =>
                rw [hg] at hf
                exact ⟨none, _, hf, rfl, hzv, hze⟩
              | some x =>
                rw [hg] at hf
                obtain ⟨j, v', cv, h1, h2, h3⟩ := hf
                exact ⟨some (j, v'), cv, h1, rfl, h2, h3⟩
            obtain ⟨r, cv, h1, h2, h3, h4⟩ := hval
            have hcv := (asTV_conc hv (enc_conc (β := β) τ h4)).1
            have hrun := run r h1
            rw [h3, h2] at hrun
            split
            · refine yields_some fun _ => ⟨_, hrun, _, rfl, ?_⟩
              exact ⟨_, _, rfl, hcv, _, _, rfl, rfl, rfl⟩
            · refine yields_some fun _ => ⟨_, hrun, ?_⟩
              exact hcv
          · exact yields_none _
        · exact yields_none _
      · exact yields_none _
    · exact yields_none _
  · exact yields_none _


/-! ### Builtins -/
theorem MapEnc.length {κ τ : Ty} {agg : Bool} : ∀ {es : List (κ.D × τ.D)} {ms : List MapEntry}, MapEnc agg Z w es ms → ms.length = es.length
  | [], _, h => by simp [MapEnc] at h; simp [h]
  | _ :: _, _, ⟨e, ms', h, _, _, hr⟩ => by simp [h, MapEnc.length hr]

theorem len_yields (hH : ObjsOK β Z w H) (ts : Array TypeId) (ty : TypeId) (v : BV) (a : Value) (ha : v.conc β Z w [a]) : Yields1 P β Z w (Builtin.len_ ts ty #[a]) (lenStep P H ts.toList v) := by
  unfold lenStep
  split
  · rename_i t r hts
    have h0 : ts[0]? = some t := by rw [← Array.getElem?_toList, hts]; rfl
    split
    · rename_i n hu
      split
      · rename_i es hn
        obtain ⟨b, hb, e⟩ := ha; cases e
        have ho := hH.at_ hb
        rw [hn] at ho
        obtain ⟨b', ms, clock, e, hheap, hm⟩ := ho
        cases e
        refine yields_yv (x := .int .i64 _) ?_ rfl
        have hg : (getObj b).run P w = .ok (.map ms clock) w := by simp [getObj, Sem.run, hheap]
        have := hm.length
        simp at this
        simp [Builtin.len_, h0, run_underlying hu, hg, goInt, this]
      · exact yields_none _
    · rename_i hu
      have ha' : a = .map none := by simpa [BV.conc] using ha
      subst ha'
      exact yields_yv (x := .int .i64 _) (by simp [Builtin.len_, h0, run_underlying hu, goInt]) rfl
    · rename_i s hu
      have ha' : a = .string s := by simpa [BV.conc] using ha
      subst ha'
      exact yields_yv (x := .int .i64 _) (by simp [Builtin.len_, h0, run_underlying hu, goInt]) rfl
    · exact yields_none _
    · rename_i e hu hns
      split
      · rename_i n hl
        rcases lenOf_conc hH hl ha with ⟨A, c, rfl, _⟩ | ⟨s, e, rfl, _⟩
        · exact yields_yv (x := .int .i64 _) (by simp [Builtin.len_, h0, run_underlying hu, goInt]) rfl
        · exact (hns s e).elim
      · exact yields_none _
    · exact yields_none _
  · exact yields_none _


theorem min2_eq (a b : Int) : (if b < a then b else a) = min a b := by simp only [Int.min_def]; split <;> split <;> omega
theorem max2_eq (a b : Int) : (if b > a then b else a) = max a b := by simp only [Int.max_def]; split <;> split <;> omega

theorem minMax_yields (mn : Bool) (k : IntKind) : ∀ (r : List TV) (a : Int) (vs : List Value) (n : Int), minMax mn k a r = some n → TVs β Z w r vs →
    (vs.foldlM (m := Sem) (match mn with | true => Builtin.min2 | false => Builtin.max2) (.int k a)).run P w = .ok (.int k n) w
  | [], a, vs, n, h, hv => by simp [minMax] at h; simp [TVs] at hv; subst h hv; simp
  | x :: r, a, vs, n, h, ⟨y, vs', e, h1, h2⟩ => by
    subst e
    unfold minMax at h
    split at h
    · cases ‹x :: r = []›
    · rename_i heq
      cases heq
      have := one_int h1; subst this
      split at h
      · rename_i q _; subst q
        split at h
        · have ih := minMax_yields true k r _ vs' n h h2
          simp only [List.foldlM_cons, Sem.run_bind, Builtin.min2, Sem.run_pure, Result.andThen_ok, min2_eq]
          exact ih
        · have ih := minMax_yields false k r _ vs' n h h2
          simp only [List.foldlM_cons, Sem.run_bind, Builtin.max2, Sem.run_pure, Result.andThen_ok, max2_eq]
          exact ih
      · cases h
    · cases h

theorem capNames_conc : ∀ {xs : List TV} {l : List Nat} {vs : List Value}, capNames xs = some l → TVs β Z w xs vs → CapsOK β l vs
  | [], l, vs, h, hv => by simp [capNames] at h; simp [TVs] at hv; subst h hv; rfl
  | x :: r, l, vs, h, ⟨y, vs', e, h1, h2⟩ => by
    subst e
    unfold capNames at h
    split at h
    · cases ‹x :: r = []›
    · rename_i heq
      cases heq
      split at h
      · rename_i l' hl
        cases h
        obtain ⟨b, hb, rfl⟩ := one_ptr h1
        exact ⟨b, vs', rfl, hb, capNames_conc hl h2⟩
      · cases h
    · cases h

theorem open_conc {v : SV} {ps : List Prop} {x : TV} {a : Value} (h : open_ v = some (ps, x)) (hp : ∀ q ∈ ps, q) (ha : v.conc β Z w a) : x.conc β Z w a := by
  unfold open_ at h
  split at h
  · cases h; exact ha
  · cases h

def SVs (β : List Value) (Z : Nat → Prop) (w : World) : List SV → List Value → Prop
  | [], xs => xs = []
  | t :: ts, xs => ∃ x r, xs = x :: r ∧ t.conc β Z w x ∧ SVs β Z w ts r

theorem openAll_conc : ∀ {vs : List SV} {ps : List Prop} {xs : List TV} {as : List Value}, openAll vs = some (ps, xs) → (∀ q ∈ ps, q) → SVs β Z w vs as → TVs β Z w xs as
  | [], ps, xs, as, h, _, ha => by simp [openAll] at h; rw [h.2]; exact ha
  | v :: r, ps, xs, as, h, hp, ⟨a, as', e, h1, h2⟩ => by
    unfold openAll at h
    split at h
    · rename_i p x q xs' ho hr
      cases h
      exact ⟨a, as', e, open_conc ho (fun t ht => hp t (by simp [ht])) h1, openAll_conc hr (fun t ht => hp t (by simp [ht])) h2⟩
    · cases h

theorem pickB_conc {c : Bool} {x y : TV} {r : BV} {a b : Value} (h : pickB c x y = some r) (ha : c = true → x.conc β Z w a) (hb : c = false → y.conc β Z w b) : r.conc β Z w [if c then a else b] := by
  unfold pickB at h
  split at h <;> cases h <;> cases c <;> simp_all [TV.conc, BV.conc]

theorem pick_yields (ρ : Operand → Value) (o : Oper) (c x y : Operand) (ho : o.op = .pick c x y) (u v t : SV) (hc : u.conc β Z w (ρ c)) (hx : ρ c = .bool true → v.conc β Z w (ρ x)) (hy : ρ c = .bool false → t.conc β Z w (ρ y)) :
    ∀ obs r, pickStep u v t = some (obs, r) → (∀ q ∈ obs, q) → ∃ z, (execOp ρ o).run P w = .ok (.value z) w ∧ r.conc β Z w z := by
  intro obs r h hob
  have run : ∀ b, ρ c = .bool b → (execOp ρ o).run P w = .ok (.value (if b then ρ x else ρ y)) w := by
    intro b hb
    simp [execOp, ho, hb, asBool]
  unfold pickStep at h
  split at h
  · split at h
    · cases h
      have h1 := one_lit (β := β) (Z := Z) (w := w) hc
      exact ⟨_, run _ h1, hx h1⟩
    · cases h
  · split at h
    · cases h
      have h1 := one_lit (β := β) (Z := Z) (w := w) hc
      exact ⟨_, run _ h1, hy h1⟩
    · cases h
  · rename_i b
    split at h
    · split at h
      · rename_i r' hr
        cases h
        have h1 := one_bool (β := β) (Z := Z) (w := w) hc
        exact ⟨_, run _ h1, pickB_conc hr (fun hb => hx (by rw [h1, hb])) (fun hb => hy (by rw [h1, hb]))⟩
      · cases h
    · cases h
  · cases h

/-! ### All together -/
theorem exec_v {o : Oper} {ρ : Operand → Value} {s : Sem Value} (h : execOp ρ o = (do pure (.value (← s)))) {x : Value} (hs : s.run P w = .ok x w) : (execOp ρ o).run P w = .ok (.value x) w := by
  rw [h]; simp [hs]

theorem eql_nil {t e : TypeId} (hu : P.underlying t = some (.slice e)) (A : Option Addr) (n c : Nat) : (Op.equal t (.slice A n c) (.slice none 0 0)).run P w = .ok A.isNone w := by
  have heq : ∀ d, (Op.equalIn (d + 1) t (.slice A n c) (.slice none 0 0)).run P w = .ok A.isNone w := by
    intro d
    cases A <;> simp [Op.equalIn, run_underlying hu]
  exact heq 9999

theorem nilTest_yields (hH : ObjsOK β Z w H) (op : BinOp) (t : TypeId) (x y : Operand) (u : TV) (a : Value) (ha : u.conc β Z w a) :
    Yields1 P β Z w (do eqGuard op t x y a (.slice none 0 0); binOp op t a (.slice none 0 0)) (nilTest P H op t u) := by
  have plain : ∀ (r : YR), (∀ c d, ¬ (a = .agg c ∧ (Value.slice none 0 0) = .agg d)) → Yields1 P β Z w (binOp op t a (.slice none 0 0)) r → Yields1 P β Z w (do eqGuard op t x y a (.slice none 0 0); binOp op t a (.slice none 0 0)) r := by
    intro r h1 h obs v' e ho
    obtain ⟨q, hq, hc⟩ := h obs v' e ho
    exact ⟨q, by simp only [Sem.run_bind, guard_ok op t x y a _ h1 (by simp), Result.andThen_ok]; exact hq, hc⟩
  unfold nilTest
  split
  · rename_i e τ bytes v he
    obtain ⟨hu, _⟩ := elemOf_spec he
    refine plain _ (by simp) ?_
    split
    · have hx : a = .slice none 0 0 := by
        have : [a] = [Value.slice none 0 0] := ha
        simpa using this
      subst hx
      have := eql_nil (P := P) (w := w) hu none 0 0
      unfold litOp
      split
      · refine yields_yv (x := .bool true) ?_ rfl
        simp only [binOp, Sem.run_bind, this, Result.andThen_ok, Sem.run_pure]; rfl
      · refine yields_yv (x := .bool false) ?_ rfl
        simp only [binOp, Sem.run_bind, this, Result.andThen_ok, Sem.run_pure]; rfl
      · exact yields_none _
    · split
      · rename_i xs hl
        obtain ⟨A, c, cs, e1, _, _, _, h4⟩ := listOf_conc hH hl ha
        subst e1
        have heq := eql_nil (P := P) (w := w) hu A xs.length c
        have hne : A.isNone = true → xs = [] := by
          intro hA
          cases xs with
          | nil => rfl
          | cons y ys => obtain ⟨ad, e2, _⟩ := h4 (by simp); rw [e2] at hA; cases hA
        split
        · refine yields_yv (x := .bool A.isNone) ?_ ⟨_, rfl, hne⟩
          simp only [binOp, Sem.run_bind, heq, Result.andThen_ok, Sem.run_pure]
        · refine yields_yv (x := .bool (!A.isNone)) ?_ ⟨_, rfl, fun h => hne (by simpa using h)⟩
          simp only [binOp, Sem.run_bind, heq, Result.andThen_ok, Sem.run_pure]
        · exact yields_none _
      · exact yields_none _
  · exact yields_none _

theorem quietOp_yields (hH : ObjsOK β Z w H) (ρ : Operand → Value) (o : Oper) (xs : List TV) (hx : TVs β Z w xs (o.op.operands.toList.map ρ)) :
    ∀ obs r, quietOp P H o.op xs = some (obs, r) → (∀ q ∈ obs, q) → ∃ z, (execOp ρ o).run P w = .ok (.value z) w ∧ r.conc β Z w z := by
  intro obs r h hob
  unfold quietOp at h
  split at h
  case h_1 x u heq =>
    rw [heq] at hx
    obtain ⟨_, _, e, h1, _⟩ := hx; cases e
    exact nilCheck_yields x u ρ o heq h1 obs r h hob
  case h_2 op t a b yt u v heq =>
    rw [heq] at hx
    obtain ⟨_, _, e, h1, _, _, e', h2, _⟩ := hx; cases e; cases e'
    split at h
    · split at h
      · have hb : ρ b = .slice none 0 0 := by
          have : [ρ b] = [Value.slice none 0 0] := h2
          simpa using this
        obtain ⟨z, hz, hc⟩ := nilTest_yields (P := P) hH op t a b u _ h1 obs r h hob
        exact ⟨z, exec_v (by simp only [execOp, heq, hb]) hz, hc⟩
      · cases h
    · obtain ⟨z, hz, hc⟩ := bin_yields (P := P) op t a b u v _ _ h1 h2 obs r h hob
      exact ⟨z, exec_v (by simp only [execOp, heq]) hz, hc⟩
  case h_3 op t a u heq =>
    rw [heq] at hx
    obtain ⟨_, _, e, h1, _⟩ := hx; cases e
    obtain ⟨z, hz, hc⟩ := un_yields (P := P) op u _ h1 obs r h hob
    exact ⟨z, exec_v (by simp only [execOp, heq]) hz, hc⟩
  case h_4 src dst a u heq =>
    rw [heq] at hx
    obtain ⟨_, _, e, h1, _⟩ := hx; cases e
    obtain ⟨z, hz, hc⟩ := conv_yields (P := P) hH src dst u _ h1 obs r h hob
    exact ⟨z, exec_v (by simp only [execOp, heq]) hz, hc⟩
  case h_5 t a f u heq =>
    rw [heq] at hx
    obtain ⟨_, _, e, h1, _⟩ := hx; cases e
    obtain ⟨z, hz, hc⟩ := fieldAddr_yields (P := P) t f u _ h1 obs r h hob
    exact ⟨z, exec_v (by simp only [execOp, heq]) hz, hc⟩
  case h_6 t a f u heq =>
    rw [heq] at hx
    obtain ⟨_, _, e, h1, _⟩ := hx; cases e
    obtain ⟨z, hz, hc⟩ := field_yields (P := P) t f u _ h1 obs r h hob
    exact ⟨z, exec_v (by simp only [execOp, heq]) hz, hc⟩
  case h_7 t a b u v heq =>
    rw [heq] at hx
    obtain ⟨_, _, e, h1, _, _, e', h2, _⟩ := hx; cases e; cases e'
    obtain ⟨z, hz, hc⟩ := indexAddr_yields (P := P) hH t u v _ _ h1 h2 obs r h hob
    exact ⟨z, exec_v (by simp only [execOp, heq]) hz, hc⟩
  case h_8 t a b u v heq =>
    rw [heq] at hx
    obtain ⟨_, _, e, h1, _, _, e', h2, _⟩ := hx; cases e; cases e'
    obtain ⟨z, hz, hc⟩ := index_yields (P := P) t u v _ _ h1 h2 obs r h hob
    exact ⟨z, exec_v (by simp only [execOp, heq]) hz, hc⟩
  case h_9 t a u heq =>
    rw [heq] at hx
    obtain ⟨_, _, e, h1, _⟩ := hx; cases e
    obtain ⟨z, hz, hc⟩ := load_yields (P := P) hH t u _ h1 obs r h hob
    exact ⟨z, exec_v (by simp only [execOp, heq]) hz, hc⟩
  case h_10 t a b ok u v heq =>
    rw [heq] at hx
    obtain ⟨_, _, e, h1, _, _, e', h2, _⟩ := hx; cases e; cases e'
    obtain ⟨z, hz, hc⟩ := lookup_yields (P := P) hH t u v ok _ _ h1 h2 obs r h hob
    exact ⟨z, exec_v (by simp only [execOp, heq]) hz, hc⟩
  case h_11 t a u heq =>
    rw [heq] at hx
    obtain ⟨_, _, e, h1, _⟩ := hx; cases e
    obtain ⟨z, hz, hc⟩ := slice_yields (P := P) hH t u none none _ none none h1 trivial trivial obs r h hob
    exact ⟨z, exec_v (by simp only [execOp, heq]; rfl) hz, hc⟩
  case h_12 t a b u v heq =>
    rw [heq] at hx
    obtain ⟨_, _, e, h1, _, _, e', h2, _⟩ := hx; cases e; cases e'
    obtain ⟨z, hz, hc⟩ := slice_yields (P := P) hH t u (some v) none _ (some _) none h1 h2 trivial obs r h hob
    exact ⟨z, exec_v (by simp only [execOp, heq]; rfl) hz, hc⟩
  case h_13 t a b u v heq =>
    rw [heq] at hx
    obtain ⟨_, _, e, h1, _, _, e', h2, _⟩ := hx; cases e; cases e'
    obtain ⟨z, hz, hc⟩ := slice_yields (P := P) hH t u none (some v) _ none (some _) h1 trivial h2 obs r h hob
    exact ⟨z, exec_v (by simp only [execOp, heq]; rfl) hz, hc⟩
  case h_14 t a b c u v x heq =>
    rw [heq] at hx
    obtain ⟨_, _, e, h1, _, _, e', h2, _, _, e'', h3, _⟩ := hx; cases e; cases e'; cases e''
    obtain ⟨z, hz, hc⟩ := slice_yields (P := P) hH t u (some v) (some x) _ (some _) (some _) h1 h2 h3 obs r h hob
    exact ⟨z, exec_v (by simp only [execOp, heq]; rfl) hz, hc⟩
  case h_15 op' xs' t ps heq =>
    rename_i xs
    rw [heq] at hx
    split at h
    · rename_i l hl
      obtain ⟨z1, z2, z3⟩ := zipParts_spec hl
      have hx' : TVs β Z w xs (ps.toList.map fun p => ρ p.2) := by simpa [Op.operands, Function.comp_def] using hx
      obtain ⟨z, hz, hc⟩ := build_yields (P := P) t l (ps.map fun (i, x) => (i, ρ x)) (by simp [z1]) (by
        rw [z2]
        have : (ps.map fun (i, x) => (i, ρ x)).toList.map (·.2) = ps.toList.map fun p => ρ p.2 := by simp
        rw [this]; exact hx') obs r h hob
      exact ⟨z, exec_v (s := Instr.build t (ps.map fun (i, x) => (i, ρ x))) (by simp only [execOp, heq]) hz, hc⟩
    · cases h
  case h_16 op' xs' f first captured heq =>
    rename_i xs
    split at h
    · rename_i l hf hl
      cases h
      rw [heq] at hx
      have hfe : first = #[] := by rw [← Array.toList_eq_nil_iff]; exact hf
      subst hfe
      have hx' : TVs β Z w xs (captured.toList.map ρ) := by simpa [Op.operands] using hx
      refine ⟨.func (.func f) #[] (captured.map ρ), exec_v (s := Instr.makeFunc (Fn.func f) (#[].map ρ) (captured.map ρ)) (by simp only [execOp, heq]) (by simp [Instr.makeFunc]), captured.toList.map ρ, ?_, capNames_conc hl hx'⟩
      rw [← Array.toList_map]
    · cases h
  case h_17 op' xs' c heq =>
    rename_i xs
    rw [heq] at hx
    have hargs : ∀ b, c.callee = .builtin b → (execOp ρ o) = builtin b c.argTypes o.type (c.args.map fun | .const _ => true | _ => false) (c.args.map ρ) ∧ TVs β Z w xs (c.args.map ρ).toList := by
      intro b hb
      refine ⟨by simp only [execOp, heq, resolve, hb]; rfl, ?_⟩
      simpa [Op.operands, Call.operands, hb] using hx
    split at h
    · rename_i hb
      obtain ⟨he, hv⟩ := hargs _ hb
      split at h
      · rename_i v
        obtain ⟨a, _, e, h1, e2⟩ := hv
        simp only [TVs] at e2
        subst e2
        have e : c.args.map ρ = #[a] := by rw [← Array.toArray_toList (xs := c.args.map ρ), e]
        obtain ⟨z, hz, hc⟩ := len_yields (P := P) hH c.argTypes o.type v a h1 obs r h hob
        refine ⟨z, ?_, hc⟩
        rw [he, e]
        simp [builtin, hz]
      · cases h
    · rename_i hb
      obtain ⟨he, hv⟩ := hargs _ hb
      split at h
      · rename_i k a r'
        split at h
        · rename_i n hn
          cases h
          obtain ⟨y, vs, e, h1, h2⟩ := hv
          have := one_int h1; subst this
          have := minMax_yields (P := P) true k r' a vs n hn h2
          refine ⟨.int k n, ?_, rfl⟩
          rw [he]
          simp only [builtin, Builtin.min_, e]
          simp [this]
        · cases h
      · cases h
    · rename_i hb
      obtain ⟨he, hv⟩ := hargs _ hb
      split at h
      · rename_i k a r'
        split at h
        · rename_i n hn
          cases h
          obtain ⟨y, vs, e, h1, h2⟩ := hv
          have := one_int h1; subst this
          have := minMax_yields (P := P) false k r' a vs n hn h2
          refine ⟨.int k n, ?_, rfl⟩
          rw [he]
          simp only [builtin, Builtin.max_, e]
          simp [this]
        · cases h
      · cases h
    · cases h
  case h_18 => cases h

theorem quiet_yields (hH : ObjsOK β Z w H) (ρ : Operand → Value) (o : Oper) (vs : List SV) (hx : SVs β Z w vs (o.op.operands.toList.map ρ)) :
    ∀ obs r, quiet P H o.op vs = some (obs, r) → (∀ q ∈ obs, q) → ∃ z, (execOp ρ o).run P w = .ok (.value z) w ∧ r.conc β Z w z := by
  intro obs r h hob
  unfold quiet at h
  split at h
  case h_1 a v heq =>
    cases h
    rw [heq] at hx
    obtain ⟨_, _, e, h1, _⟩ := hx; cases e
    exact ⟨_, by simp [execOp, heq], h1⟩
  case h_2 a v heq =>
    cases h
    rw [heq] at hx
    obtain ⟨_, _, e, h1, _⟩ := hx; cases e
    exact ⟨_, by simp [execOp, heq], h1⟩
  case h_3 a i ts heq =>
    rw [heq] at hx
    obtain ⟨_, _, e, ⟨xs, e1, h1⟩, _⟩ := hx; cases e
    split at h
    · rename_i v hv
      cases h
      have : ∀ (ts : List TV) (xs : List Value) (i : Nat), TVs β Z w ts xs → ts[i]? = some v → ∃ x, xs[i]? = some x ∧ v.conc β Z w x := by
        intro ts
        induction ts with
        | nil => intro xs i _ h; simp at h
        | cons t ts ih =>
          intro xs i ⟨x, r, e, h1, h2⟩ h
          subst e
          cases i with
          | zero => simp at h; subst h; exact ⟨x, rfl, h1⟩
          | succ i => simpa using ih r i h2 (by simpa using h)
      obtain ⟨x, hx, hc⟩ := this ts _ _ h1 hv
      refine ⟨x, exec_v (s := Instr.extract (ρ a) i) (by simp only [execOp, heq]) ?_, hc⟩
      have hx' : xs[i]? = some x := by simpa using hx
      rw [e1]; simp [Instr.extract, hx']
    · cases h
  case h_4 op vs' _ _ _ =>
    split at h
    · rename_i ps xs hxs
      split at h
      · rename_i hq
        cases h
        exact quietOp_yields hH ρ o xs (openAll_conc hxs (fun q hq => hob q (by simp [hq])) hx) _ _ hq (fun q hq => hob q (by simp [hq]))
      · cases h
    · cases h

end

end Go.Proofs.Ythjogeodclpafaa.AM
end

section
set_option linter.unusedVariables false
set_option linter.unusedSimpArgs false
namespace Go.Proofs.Ythjogeodclpafaa.AM
open Go

/-- From an abstract heap over a world to another one. -/
structure Trans (β : List Value) (H : List AObj) (Z : Nat → Prop) (w : World) (β' : List Value) (H' : List AObj) (Z' : Nat → Prop) (w' : World) : Prop where
  ext : ∃ ext, β' = β ++ ext
  heap : HeapOK β' H' Z' w'
  keep : Keep (LiveB β H) w w'
  zsub : ∀ b, Z b → Z' b
  znew : ∀ b, Z' b → Z b ∨ LiveB β H b ∨ w.heap.size ≤ b
  live : ∀ b, LiveB β' H' b → LiveB β H b ∨ w.heap.size ≤ b

section
variable {β β' β'' : List Value} {H H' H'' : List AObj} {Z Z' Z'' : Nat → Prop} {w w' w'' : World}

theorem HeapOK.objsOK (h : HeapOK β H Z w) : ObjsOK β Z w H := ⟨h.len, h.objs⟩

theorem LiveB.lt (h : HeapOK β H Z w) {b : Nat} (hb : LiveB β H b) : b < w.heap.size := by
  obtain ⟨n, o, v, h1, h2, h3, h4⟩ := hb
  have ho := h.objs n o v h1 h3
  cases o with
  | cells t cs =>
    obtain ⟨b', vs, e, h5, _⟩ := ho
    subst e; cases h4
    exact (Array.getElem?_eq_some_iff.1 h5).1
  | row e τ xs =>
    obtain ⟨cs, h5, _⟩ := ho
    rcases h5.2 with ⟨rfl, _⟩ | ⟨g, cap, cur, rfl, _, h6, _⟩
    · cases h4
    · cases h4; exact (Array.getElem?_eq_some_iff.1 h6).1
  | map agg κ τ es =>
    obtain ⟨b', ms, cl, e, h5, _⟩ := ho
    subst e; cases h4
    exact (Array.getElem?_eq_some_iff.1 h5).1
  | frow _ _ _ => cases h2
  | buf e τ ys k =>
    obtain ⟨A, cs, e1, _, h5, _⟩ := ho
    subst e1
    rcases h5.2 with ⟨e2, _⟩ | ⟨g, cap, cur, e2, _, hg, _⟩
    · simp only [Value.slice.injEq] at e2
      rw [e2.1] at h4; cases h4
    · simp only [Value.slice.injEq] at e2
      rw [e2.1] at h4; cases h4
      exact (Array.getElem?_eq_some_iff.1 hg).1
  | dead => cases h2

theorem HeapOK.zkeep (h : HeapOK β H Z w) (k : Keep (LiveB β H) w w') (hs : ∀ b, Z b → Z' b) : ZKeep Z Z' w w' :=
  ⟨hs, fun b hb => k.block b (h.zlt b hb) fun hl => h.frz b hl hb⟩

theorem Trans.zkeep (h : HeapOK β H Z w) (t : Trans β H Z w β' H' Z' w') : ZKeep Z Z' w w' := h.zkeep t.keep t.zsub

theorem Trans.refl (h : HeapOK β H Z w) : Trans β H Z w β H Z w :=
  ⟨⟨[], by simp⟩, h, Keep.refl _ _, fun _ h => h, fun _ h => .inl h, fun _ h => .inl h⟩

theorem Trans.trans (a : Trans β H Z w β' H' Z' w') (c : Trans β' H' Z' w' β'' H'' Z'' w'') : Trans β H Z w β'' H'' Z'' w'' := by
  refine ⟨?_, c.heap, a.keep.trans c.keep ?_, fun b h => c.zsub b (a.zsub b h), fun b h => ?_, fun b h => ?_⟩
  · obtain ⟨x, rfl⟩ := a.ext
    obtain ⟨y, rfl⟩ := c.ext
    exact ⟨x ++ y, by rw [List.append_assoc]⟩
  · intro x hx hl
    rcases a.live x hl with h | h
    · exact h
    · omega
  · rcases c.znew b h with h | h | h
    · exact a.znew b h
    · rcases a.live b h with h | h
      · exact .inr (.inl h)
      · exact .inr (.inr h)
    · exact .inr (.inr (Nat.le_trans a.keep.size h))
  · rcases c.live b h with h | h
    · exact a.live b h
    · exact .inr (Nat.le_trans a.keep.size h)

theorem SV.conc.trans (h : HeapOK β H Z w) (t : Trans β H Z w β' H' Z' w') {v : SV} {x : Value} (hv : v.conc β Z w x) : v.conc β' Z' w' x := by
  obtain ⟨e, rfl⟩ := t.ext
  exact hv.mono (t.zkeep h)
theorem TV.conc.trans (h : HeapOK β H Z w) (t : Trans β H Z w β' H' Z' w') {v : TV} {x : Value} (hv : v.conc β Z w x) : v.conc β' Z' w' x := by
  obtain ⟨e, rfl⟩ := t.ext
  exact hv.mono (t.zkeep h)
theorem ConcL.trans (h : HeapOK β H Z w) (t : Trans β H Z w β' H' Z' w') {v : List BV} {x : List Value} (hv : ConcL β Z w v x) : ConcL β' Z' w' v x := by
  obtain ⟨e, rfl⟩ := t.ext
  exact hv.mono (t.zkeep h)
theorem TVs.trans (h : HeapOK β H Z w) (t : Trans β H Z w β' H' Z' w') {v : List TV} {x : List Value} (hv : TVs β Z w v x) : TVs β' Z' w' v x := by
  obtain ⟨e, rfl⟩ := t.ext
  exact hv.mono (t.zkeep h)

/-- Draws and what else leaves blocks alone. -/
theorem Trans.same (h : HeapOK β H Z w) (hh : w'.heap = w.heap) (h1 : w'.os = w.os) (h2 : w'.tape = w.tape) (h3 : w'.output = w.output) : Trans β H Z w β H Z w' := by
  have k : Keep (LiveB β H) w w' := ⟨h1, h2, h3, by rw [hh]; exact Nat.le_refl _, fun b _ _ => by rw [hh]⟩
  refine ⟨⟨[], by simp⟩, ⟨h.len, fun n o v ho hv => ?_, h.apart, h.frz, fun b hb => by rw [hh]; exact h.zlt b hb⟩, k, fun _ h => h, fun _ h => .inl h, fun _ h => .inl h⟩
  have := (h.objs n o v ho hv).mono (ext := []) (h.zkeep k fun _ h => h) (fun _ b _ => by rw [hh])
  simpa using this

theorem Trans.drew (h : HeapOK β H Z w) : Trans β H Z w β H Z w.drew := Trans.same h rfl rfl rfl rfl

theorem getElem?_append_one {α : Type} {l : List α} {x y : α} {n : Nat} (h : (l ++ [x])[n]? = some y) : (n < l.length ∧ l[n]? = some y) ∨ (n = l.length ∧ y = x) := by
  rcases Nat.lt_or_ge n l.length with hn | hn
  · exact .inl ⟨hn, by rwa [List.getElem?_append_left hn] at h⟩
  · rw [List.getElem?_append_right hn] at h
    have : n - l.length = 0 := by
      have := (List.getElem?_eq_some_iff.1 h).1; simp at this; omega
    rw [this] at h; simp at h
    exact .inr ⟨by omega, h.symm⟩

/-- A new object whose block is new, or that has none. The world may have gone on by blocks of its own. -/
theorem Trans.new (h : HeapOK β H Z w) (v : Value) (o : AObj) (k : Keep (fun _ => False) w w') (hb : ∀ b, o.live = true → blockOf v = some b → w.heap.size ≤ b ∧ b < w'.heap.size)
    (ho : ObjOK (β ++ [v]) Z w' v o) : Trans β H Z w (β ++ [v]) (H ++ [o]) Z w' := by
  have k' : Keep (LiveB β H) w w' := k.mono fun _ h => h.elim
  have zk := h.zkeep k' fun _ h => h
  have live : ∀ b, LiveB (β ++ [v]) (H ++ [o]) b → LiveB β H b ∨ (w.heap.size ≤ b ∧ b < w'.heap.size) := by
    rintro b ⟨n, p, u, h1, h2, h3, h4⟩
    rcases getElem?_append_one h1 with ⟨hn, h1⟩ | ⟨rfl, rfl⟩
    · rcases getElem?_append_one h3 with ⟨_, h3⟩ | ⟨e, _⟩
      · exact .inl ⟨n, p, u, h1, h2, h3, h4⟩
      · rw [h.len] at e; omega
    · rcases getElem?_append_one h3 with ⟨hn, h3⟩ | ⟨_, rfl⟩
      · rw [h.len] at hn; omega
      · exact .inr (hb b h2 h4)
  refine ⟨⟨[v], rfl⟩, ⟨by simp [h.len], ?_, ?_, ?_, ?_⟩, k', fun _ h => h, fun _ h => .inl h, fun b hl => (live b hl).imp_right fun h => h.1⟩
  · intro n p u h1 h3
    rcases getElem?_append_one h1 with ⟨hn, h1⟩ | ⟨rfl, rfl⟩
    · rcases getElem?_append_one h3 with ⟨_, h3⟩ | ⟨e, _⟩
      · have hp := h.objs n p u h1 h3
        exact hp.mono zk fun hl b hbb => k.block b (LiveB.lt h ⟨n, p, u, h1, hl, h3, hbb⟩) (fun h => h)
      · rw [h.len] at e; omega
    · rcases getElem?_append_one h3 with ⟨hn, h3⟩ | ⟨_, rfl⟩
      · rw [h.len] at hn; omega
      · exact ho
  · intro n m p q u u' b h1 h2 h3 h4 h5 h6 h7 h8
    have lb : ∀ (m : Nat) (p : AObj) (u : Value), m < H.length → H[m]? = some p → p.live = true → (β ++ [v])[m]? = some u → blockOf u = some b → b < w.heap.size := by
      intro m p u hm hp hpl hu hub
      rcases getElem?_append_one hu with ⟨_, hu'⟩ | ⟨e, _⟩
      · exact LiveB.lt h ⟨m, p, u, hp, hpl, hu', hub⟩
      · rw [h.len] at e; omega
    have ln : ∀ (u : Value), (β ++ [v])[H.length]? = some u → u = v := by
      intro u hu
      rcases getElem?_append_one hu with ⟨e, _⟩ | ⟨_, e⟩
      · rw [h.len] at e; omega
      · exact e
    rcases getElem?_append_one h1 with ⟨hn, h1'⟩ | ⟨e1, e2⟩ <;> rcases getElem?_append_one h2 with ⟨hm, h2'⟩ | ⟨e3, e4⟩
    · rcases getElem?_append_one h5 with ⟨_, h5'⟩ | ⟨e, _⟩
      · rcases getElem?_append_one h6 with ⟨_, h6'⟩ | ⟨e, _⟩
        · exact h.apart n m p q u u' b h1' h2' h3 h4 h5' h6' h7 h8
        · rw [h.len] at e; omega
      · rw [h.len] at e; omega
    · have a1 := lb n p u hn h1' h3 h5 h7
      have e5 := ln u' (by rw [← e3]; exact h6)
      have a2 := hb b (by rw [← e4]; exact h4) (by rw [← e5]; exact h8)
      omega
    · have a1 := lb m q u' hm h2' h4 h6 h8
      have e5 := ln u (by rw [← e1]; exact h5)
      have a2 := hb b (by rw [← e2]; exact h3) (by rw [← e5]; exact h7)
      omega
    · omega
  · intro b hl hz
    rcases live b hl with hl | ⟨hl, _⟩
    · exact h.frz b hl hz
    · have := h.zlt b hz; omega
  · intro b hz
    exact Nat.lt_of_lt_of_le (h.zlt b hz) k.size

theorem Keep.allocW (w : World) (o : Obj) (L : Nat → Prop) : Keep L w (w.alloc o) := (Keep.refl L w).alloc o

/-- A nil slice under a name of its own. -/
theorem Trans.nil (h : HeapOK β H Z w) (e : TypeId) (τ : Ty) : Trans β H Z w (β ++ [.slice none 0 0]) (H ++ [.row e τ []]) Z w :=
  Trans.new h _ _ (Keep.refl _ _) (fun b _ hb => by cases hb) ⟨[], World.ownsRow_nil w 0 e τ.wd, rfl, fun _ _ _ _ _ _ e => by cases e⟩

/-- An object is put in the place of another one, at the same block: nothing else has turned. -/
theorem Trans.upd (h : HeapOK β H Z w) {n : Nat} {o o' : AObj} {v : Value} (h1 : H[n]? = some o) (h2 : β[n]? = some v) (hl : o.live = true ∨ o'.live = false) (k : Keep (fun b => o.live = true ∧ blockOf v = some b) w w') (hs : w'.heap.size = w.heap.size)
    (ho : ObjOK β Z w' v o') : Trans β H Z w β (H.set n o') Z w' := by
  have hn : n < H.length := (List.getElem?_eq_some_iff.1 h1).1
  have k' : Keep (LiveB β H) w w' := k.mono fun b hb => ⟨n, o, v, h1, hb.1, h2, hb.2⟩
  have zk := h.zkeep k' fun _ h => h
  have get : ∀ (m : Nat) (p : AObj), (H.set n o')[m]? = some p → (m = n ∧ p = o') ∨ (m ≠ n ∧ H[m]? = some p) := by
    intro m p hp
    by_cases e : m = n
    · subst e; rw [List.getElem?_set_self hn] at hp; cases hp; exact .inl ⟨rfl, rfl⟩
    · rw [List.getElem?_set_ne (fun e' => e e'.symm)] at hp; exact .inr ⟨e, hp⟩
  have liv : o'.live = true → o.live = true := fun h => hl.resolve_right fun h' => by rw [h'] at h; cases h
  have live : ∀ b, LiveB β (H.set n o') b → LiveB β H b := by
    rintro b ⟨m, p, u, g1, g2, g3, g4⟩
    rcases get m p g1 with ⟨rfl, rfl⟩ | ⟨_, g1⟩
    · rw [h2] at g3; cases g3
      exact ⟨m, o, v, h1, liv g2, h2, g4⟩
    · exact ⟨m, p, u, g1, g2, g3, g4⟩
  refine ⟨⟨[], by simp⟩, ⟨by simp [h.len], ?_, ?_, fun b hb => h.frz b (live b hb), fun b hz => by rw [hs]; exact h.zlt b hz⟩, k', fun _ h => h, fun _ h => .inl h, fun b hb => .inl (live b hb)⟩
  · intro m p u g1 g3
    rcases get m p g1 with ⟨rfl, rfl⟩ | ⟨hne, g1⟩
    · rw [h2] at g3; cases g3; exact ho
    · have hp := h.objs m p u g1 g3
      have := hp.mono (ext := []) zk fun hpl b hbb => k.block b (LiveB.lt h ⟨m, p, u, g1, hpl, g3, hbb⟩) fun ⟨a1, a2⟩ => hne (h.apart m n p o u v b g1 h1 hpl a1 g3 h2 hbb a2)
      simpa using this
  · intro a c p q u u' b g1 g2 g3 g4 g5 g6 g7 g8
    rcases get a p g1 with ⟨e1, e2⟩ | ⟨ha, k1⟩ <;> rcases get c q g2 with ⟨e3, e4⟩ | ⟨hc, k2⟩
    · rw [e1, e3]
    · exact h.apart a c o q u u' b (by rw [e1]; exact h1) k2 (liv (by rw [← e2]; exact g3)) g4 g5 g6 g7 g8
    · exact h.apart a c p o u u' b k1 (by rw [e3]; exact h1) g3 (liv (by rw [← e4]; exact g4)) g5 g6 g7 g8
    · exact h.apart a c p q u u' b k1 k2 g3 g4 g5 g6 g7 g8

/-- An object is given up. -/
theorem Trans.kill (h : HeapOK β H Z w) (n : Nat) : Trans β H Z w β (H.set n .dead) Z w := by
  cases hn : H[n]? with
  | none => rw [List.set_eq_of_length_le (by simpa using hn)]; exact Trans.refl h
  | some o =>
    have hlt : n < H.length := (List.getElem?_eq_some_iff.1 hn).1
    have : β[n]? = some (β[n]'(by rw [h.len]; exact hlt)) := List.getElem?_eq_getElem _
    exact Trans.upd h hn this (.inr rfl) (Keep.refl _ _) rfl trivial

theorem EncAll.imp {α : Type} {R : α → List Value → Prop} {xs : List α} {cs : List Value} (h : EncAll R xs cs) : EncAll R xs cs := h

/-- A row is frozen. -/
theorem Trans.freeze (h : HeapOK β H Z w) {n : Nat} {e : TypeId} {τ : Ty} {xs : List τ.D} {v : Value} (h1 : H[n]? = some (.row e τ xs)) (h2 : β[n]? = some v) :
    Trans β H Z w β (H.set n (.frow e τ xs)) (fun b => Z b ∨ blockOf v = some b) w := by
  have hn : n < H.length := (List.getElem?_eq_some_iff.1 h1).1
  have zk : ZKeep Z (fun b => Z b ∨ blockOf v = some b) w w := ⟨fun b h => .inl h, fun _ _ => rfl⟩
  have hlive : ∀ b, blockOf v = some b → LiveB β H b := fun b hb => ⟨n, _, v, h1, rfl, h2, hb⟩
  have get : ∀ (m : Nat) (p : AObj), (H.set n (.frow e τ xs))[m]? = some p → (m = n ∧ p = .frow e τ xs) ∨ (m ≠ n ∧ H[m]? = some p) := by
    intro m p hp
    by_cases e : m = n
    · subst e; rw [List.getElem?_set_self hn] at hp; cases hp; exact .inl ⟨rfl, rfl⟩
    · rw [List.getElem?_set_ne (fun e' => e e'.symm)] at hp; exact .inr ⟨e, hp⟩
  have live : ∀ b, LiveB β (H.set n (.frow e τ xs)) b → LiveB β H b ∧ blockOf v ≠ some b := by
    rintro b ⟨m, p, u, g1, g2, g3, g4⟩
    rcases get m p g1 with ⟨rfl, rfl⟩ | ⟨hne, g1⟩
    · cases g2
    · exact ⟨⟨m, p, u, g1, g2, g3, g4⟩, fun hv => hne (h.apart m n p _ u v b g1 h1 g2 rfl g3 h2 g4 hv)⟩
  refine ⟨⟨[], by simp⟩, ⟨by simp [h.len], ?_, ?_, ?_, ?_⟩, Keep.refl _ _, fun _ h => .inl h, ?_, fun b hb => .inl (live b hb).1⟩
  · intro m p u g1 g3
    rcases get m p g1 with ⟨rfl, rfl⟩ | ⟨hne, g1⟩
    · rw [h2] at g3; cases g3
      obtain ⟨cs, q1, q2, _⟩ := h.objs m _ v h1 h2
      obtain ⟨⟨A, c, cs', e1, r1, r2, r3, r4⟩, A', c', e2, r5⟩ := ownsRow_reads q1
      subst r3
      refine ⟨⟨A, c, cs', e1, r1, r2, q2.mono fun _ _ => Ty.Enc.mono zk τ, fun hne => ?_⟩, fun A'' n'' c'' e3 hne => ?_⟩
      · obtain ⟨ad, rfl, hsp, hc⟩ := r4 hne
        exact ⟨ad, rfl, hsp, .inr (by rw [e1]; rfl), hc⟩
      · rw [e1] at e3; cases e3
        rw [e1] at e2; cases e2
        obtain ⟨ad, e4, _⟩ := r4 hne
        obtain ⟨b, e5⟩ := r5 ad e4
        exact ⟨b, by rw [e4, e5]⟩
    · have hp := h.objs m p u g1 g3
      have := hp.mono (ext := []) zk fun _ b _ => rfl
      simpa using this
  · intro a c p q u u' b g1 g2 g3 g4 g5 g6 g7 g8
    rcases get a p g1 with ⟨rfl, rfl⟩ | ⟨ha, g1⟩
    · cases g3
    · rcases get c q g2 with ⟨rfl, rfl⟩ | ⟨hc, g2⟩
      · cases g4
      · exact h.apart a c p q u u' b g1 g2 g3 g4 g5 g6 g7 g8
  · intro b hb hz
    obtain ⟨a1, a2⟩ := live b hb
    rcases hz with hz | hz
    · exact h.frz b a1 hz
    · exact a2 hz
  · intro b hz
    rcases hz with hz | hz
    · exact h.zlt b hz
    · exact LiveB.lt h (hlive b hz)
  · intro b hz
    rcases hz with hz | hz
    · exact .inl hz
    · exact .inr (.inl (hlive b hz))

/-- A row of n is given up, and a new name has what an append made of it: at the same block or at a new one. -/
theorem Trans.regrow (h : HeapOK β H Z w) {n : Nat} {o o' : AObj} {v v' : Value} (h1 : H[n]? = some o) (hol : o.live = true) (h2 : β[n]? = some v) (k : Keep (fun b => blockOf v = some b) w w')
    (hb : ∀ b, blockOf v' = some b → blockOf v = some b ∨ w.heap.size ≤ b) (hz : ∀ b, blockOf v' = some b → b < w'.heap.size)
    (ho : ObjOK (β ++ [v']) Z w' v' o') : Trans β H Z w (β ++ [v']) (H.set n .dead ++ [o']) Z w' := by
  have hn : n < H.length := (List.getElem?_eq_some_iff.1 h1).1
  have k' : Keep (LiveB β H) w w' := k.mono fun b hb => ⟨n, o, v, h1, hol, h2, hb⟩
  have zk := h.zkeep k' fun _ h => h
  have get : ∀ (m : Nat) (p : AObj), (H.set n .dead ++ [o'])[m]? = some p → (m = n ∧ p = .dead) ∨ (m ≠ n ∧ m < H.length ∧ H[m]? = some p) ∨ (m = H.length ∧ p = o') := by
    intro m p hp
    rcases getElem?_append_one hp with ⟨hm, hp⟩ | ⟨hm, rfl⟩
    · by_cases e : m = n
      · subst e; rw [List.getElem?_set_self hn] at hp; cases hp; exact .inl ⟨rfl, rfl⟩
      · rw [List.getElem?_set_ne (fun e' => e e'.symm)] at hp; exact .inr (.inl ⟨e, by simpa using hm, hp⟩)
    · exact .inr (.inr ⟨by simpa using hm, rfl⟩)
  have getb : ∀ (m : Nat) (u : Value), (β ++ [v'])[m]? = some u → m < H.length → β[m]? = some u := by
    intro m u hu hm
    rcases getElem?_append_one hu with ⟨_, hu⟩ | ⟨e, _⟩
    · exact hu
    · rw [h.len] at e; omega
  have getb' : ∀ (u : Value), (β ++ [v'])[H.length]? = some u → u = v' := by
    intro u hu
    rcases getElem?_append_one hu with ⟨e, _⟩ | ⟨_, e⟩
    · rw [h.len] at e; omega
    · exact e
  have live : ∀ b, LiveB (β ++ [v']) (H.set n .dead ++ [o']) b → LiveB β H b ∨ w.heap.size ≤ b := by
    rintro b ⟨m, p, u, g1, g2, g3, g4⟩
    rcases get m p g1 with ⟨rfl, rfl⟩ | ⟨_, hm, g1⟩ | ⟨rfl, rfl⟩
    · cases g2
    · exact .inl ⟨m, p, u, g1, g2, getb m u g3 hm, g4⟩
    · have := getb' u g3; subst this
      rcases hb b g4 with q | q
      · exact .inl ⟨n, o, v, h1, hol, h2, q⟩
      · exact .inr q
  refine ⟨⟨[v'], rfl⟩, ⟨by simp [h.len], ?_, ?_, ?_, fun b hzz => Nat.lt_of_lt_of_le (h.zlt b hzz) k.size⟩, k', fun _ h => h, fun _ h => .inl h, live⟩
  · intro m p u g1 g3
    rcases get m p g1 with ⟨rfl, rfl⟩ | ⟨hne, hm, g1⟩ | ⟨rfl, rfl⟩
    · trivial
    · have hp := h.objs m p u g1 (getb m u g3 hm)
      exact hp.mono zk fun hpl b hbb => k.block b (LiveB.lt h ⟨m, p, u, g1, hpl, getb m u g3 hm, hbb⟩) fun a2 => hne (h.apart m n p o u v b g1 h1 hpl hol (getb m u g3 hm) h2 hbb a2)
    · have := getb' u g3; subst this; exact ho
  · intro a c p q u u' b g1 g2 g3 g4 g5 g6 g7 g8
    have key : ∀ (m : Nat) (p : AObj) (u : Value), m ≠ n → m < H.length → H[m]? = some p → p.live = true → β[m]? = some u → blockOf u = some b → blockOf v' = some b → False := by
      intro m p u hne hm hp hpl hu hub hvb
      rcases hb b hvb with q | q
      · exact hne (h.apart m n p o u v b hp h1 hpl hol hu h2 hub q)
      · have := LiveB.lt h ⟨m, p, u, hp, hpl, hu, hub⟩; omega
    rcases get a p g1 with ⟨e1, e2⟩ | ⟨ha, hm, k1⟩ | ⟨e1, e2⟩
    · rw [e2] at g3; cases g3
    · rcases get c q g2 with ⟨e3, e4⟩ | ⟨hc, hm', k2⟩ | ⟨e3, e4⟩
      · rw [e4] at g4; cases g4
      · exact h.apart a c p q u u' b k1 k2 g3 g4 (getb a u g5 hm) (getb c u' g6 hm') g7 g8
      · have e5 := getb' u' (by rw [← e3]; exact g6)
        exact (key a p u ha hm k1 g3 (getb a u g5 hm) g7 (by rw [← e5]; exact g8)).elim
    · rcases get c q g2 with ⟨e3, e4⟩ | ⟨hc, hm', k2⟩ | ⟨e3, e4⟩
      · rw [e4] at g4; cases g4
      · have e5 := getb' u (by rw [← e1]; exact g5)
        exact (key c q u' hc hm' k2 g4 (getb c u' g6 hm') g8 (by rw [← e5]; exact g7)).elim
      · omega
  · intro b hl hzz
    rcases live b hl with q | q
    · exact h.frz b q hzz
    · have := h.zlt b hzz; omega

end

end Go.Proofs.Ythjogeodclpafaa.AM
end

section
set_option linter.unusedVariables false
set_option linter.unusedSimpArgs false
namespace Go.Proofs.Ythjogeodclpafaa.AM
open Go

def flatAll (f : TypeId → Option (List TypeId)) : List TypeId → Option (List TypeId)
  | [] => some []
  | t :: ts => match f t, flatAll f ts with
    | some a, some b => some (a ++ b)
    | _, _ => none

/-- The types of a value's parts: structs opened, arrays whole. -/
def flatTys (P : Program) : Nat → TypeId → Option (List TypeId)
  | 0, _ => none
  | n + 1, t => match P.underlying t with
    | some (.struct fs) => flatAll (flatTys P n) (fs.toList.map (·.type))
    | some _ => some [t]
    | none => none

/-- The array type behind a type, of elements that are plain data. -/
def arrTy (P : Program) (t : TypeId) : Option (Nat × Ty) :=
  match P.underlying t with
  | some (.array _ _) => match tyOf P depth t with
    | some (.arr m a) => some (m, a)
    | _ => none
  | _ => none

/-- A prefix takes the place of its row or buffer. -/
def reroot1 (H : List AObj) (c : BV) : Option (BV × List AObj) :=
  match c with
  | .pre n len => match objAt H n with
    | .row e τ xs => some (.hd H.length, H.set n .dead ++ [.row e τ (xs.take len)])
    | _ => none
  | .prec n len => match objAt H n with
    | .buf e τ ys _ => some (.hd H.length, H.set n .dead ++ [.row e τ (ys.take len)])
    | _ => none
  | .hd n => match objAt H n with
    | .buf e τ ys k => some (.hd H.length, H.set n .dead ++ [.row e τ (ys.take k)])
    | _ => none
  | _ => none

/-- Cells by the types of the parts: runs of arrays are taken together, a nil slice gets a name. -/
def shapeGo (P : Program) : List TypeId → List BV → List AObj → Option (List BV × List AObj)
  | [], cs, H => match cs with
    | [] => some ([], H)
    | _ => none
  | ty :: tys, cs, H => match arrTy P ty with
    | some (m, a) => match parseMany a.parse m cs, cs with
      | _, .arr m' a' xs :: r => match shapeGo P tys r H with
        | some (cs', H') => some (.arr m' a' xs :: cs', H')
        | none => none
      | some (xs, r), _ => match shapeGo P tys r H with
        | some (cs', H') => some (.arr m a xs :: cs', H')
        | none => none
      | none, _ => none
    | none => match cs with
      | .nils :: r => match elemOf? P ty with
        | some (e, τ, _) => match shapeGo P tys r (H ++ [.row e τ []]) with
          | some (cs', H') => some (.hd H.length :: cs', H')
          | none => none
        | none => match shapeGo P tys r H with
          | some (cs', H') => some (.nils :: cs', H')
          | none => none
      | c :: r => match reroot1 H c with
        | some (c', H1) => match shapeGo P tys r H1 with
          | some (cs', H') => some (c' :: cs', H')
          | none => none
        | none => match shapeGo P tys r H with
          | some (cs', H') => some (c :: cs', H')
          | none => none
      | [] => none

def shapeOf (P : Program) (t : TypeId) (cs : List BV) (H : List AObj) : Option (List BV × List AObj) :=
  match flatTys P depth t with
  | some tys => shapeGo P tys cs H
  | none => none

/-- Truth values that are known are told as truth values. -/
def unlitB : BV → BV
  | .lit b => .bool b
  | v => v

/-- Prefixes that are handed back are rows of their own. -/
def rootT (H : List AObj) : TV → TV × List AObj
  | .one c => match reroot1 H c with
    | some (c', H1) => (.one c', H1)
    | none => (.one (unlitB c), H)
  | v => (v, H)

def rootTs : List TV → List AObj → List TV × List AObj
  | [], H => ([], H)
  | v :: r, H => match rootT H v with
    | (v', H1) => match rootTs r H1 with
      | (r', H2) => (v' :: r', H2)

/-- Slices of rows become lists of frozen memory. -/
def frz1 (c : BV) (H : List AObj) : BV × List AObj :=
  match c with
  | .hd n => match objAt H n with
    | .row e τ xs => (.fsl e τ xs, H.set n (.frow e τ xs))
    | .frow e τ xs => (.fsl e τ xs, H)
    | _ => (.hd n, H)
  | .sub n wd lo len => match objAt H n with
    | .row e τ xs => match Nat.beq wd τ.wd with
      | true => (.fsl e τ ((xs.drop lo).take len), H.set n (.frow e τ xs))
      | false => (.sub n wd lo len, H)
    | .frow e τ xs => match Nat.beq wd τ.wd with
      | true => (.fsl e τ ((xs.drop lo).take len), H)
      | false => (.sub n wd lo len, H)
    | _ => (.sub n wd lo len, H)
  | .pre n len => match objAt H n with
    | .row e τ xs => (.fsl e τ (xs.take len), H.set n (.frow e τ xs))
    | .frow e τ xs => (.fsl e τ (xs.take len), H)
    | _ => (.pre n len, H)
  | c => (c, H)

def frzGo : List BV → List AObj → List BV × List AObj
  | [], H => ([], H)
  | c :: r, H => match frz1 c H with
    | (c', H1) => match frzGo r H1 with
      | (r', H2) => (c' :: r', H2)

/-- Elements of a slice literal, in order. -/
def elemsGo (τ : Ty) : Nat → List (Nat × TV) → List AObj → Option (List τ.D × List AObj)
  | _, [], H => some ([], H)
  | i, (j, v) :: r, H => match Nat.beq i j, frzGo v.cells H with
    | true, (cs, H1) => match τ.dec cs with
      | some x => match elemsGo τ (i + 1) r H1 with
        | some (xs, H2) => some (x :: xs, H2)
        | none => none
      | none => none
    | false, _ => none

def aggOf (P : Program) (t : TypeId) : Bool := match kindOf P t with | some (a, _) => a | none => false

def Ty.decAgg (τ : Ty) (agg : Bool) (v : TV) : Option τ.D :=
  match agg, v with
  | true, .agg cs => τ.dec cs
  | false, .one c => τ.dec [c]
  | _, _ => none

abbrev ER := Option (List Prop × SV × List AObj)

def allocStep (P : Program) (H : List AObj) (t : TypeId) : ER :=
  match P.info? t with
  | some i => match i.zero with
    | some z => match (z.cells.toList.map ofCell).all BV.known, shapeOf P t (z.cells.toList.map ofCell) H with
      | true, some (cs, H1) => some ([], .b (.ptr H1.length 0), H1 ++ [.cells t cs])
      | _, _ => none
    | none => none
  | none => none

def boxStep (P : Program) (H : List AObj) (t : TypeId) (v : TV) : ER :=
  match shapeOf P t v.cells H with
  | some (cs, H1) => some ([], .b (.ptr H1.length 0), H1 ++ [.cells t cs])
  | none => none

def buildSliceStep (P : Program) (H : List AObj) (t : TypeId) (len : Nat) (ps : List (Nat × TV)) : ER :=
  match elemOf? P t with
  | some (e, τ, _) => match Nat.beq ps.length len, Nat.ble (len * τ.wd) 100000, zeroOK P e (aggOf P e) τ, elemsGo τ 0 ps H with
    | true, true, true, some (xs, H1) => some ([], .b (.hd H1.length), H1 ++ [.row e τ xs])
    | _, _, _, _ => none
  | none => none

def makeMapStep (P : Program) (H : List AObj) (t : TypeId) : ER :=
  match P.underlying t with
  | some (.map kt et) => match keyTy P kt, tyOf P depth et, kindOf P et with
    | some κ, some τ, some (agg, sz) => match Nat.beq sz τ.wd with
      | true => some ([], .b (.map H.length), H ++ [.map agg κ τ []])
      | false => none
    | _, _, _ => none
  | _ => none

def makeSliceStep (P : Program) (H : List AObj) (t : TypeId) (l c : TV) : ER :=
  match elemOf? P t, l, c with
  | some (e, τ, bytes), .one (.int _ n), .one (.int _ m) => match zeroOK P e (aggOf P e) τ with
    | true => some ([0 ≤ n, n = m, (bytes : Int) * n ≤ 140737488355328, n ≤ 140737488355328], .b (.hd H.length), H ++ [.row e τ (List.replicate n.toNat τ.zero)])
    | false => none
  | _, _, _ => none

/-- The array run at 'off' is put in the place of what it was. -/
def patchRun (off m : Nat) (τ : Ty) (xs : List τ.D) (cs : List BV) : Option (List BV) :=
  match takeW off cs, dropW (off + m * τ.wd) cs with
  | some a, some b => some (a ++ (.arr m τ xs :: b))
  | _, _ => none

def storeAt (P : Program) (H : List AObj) (sz : Nat) (p : BV) (news : List BV) : Option (List Prop × List AObj) :=
  match p with
  | .ptr n off => match objAt H n with
    | .cells t cs => match Nat.beq (widths news) sz, patchW off news cs with
      | true, some cs' => some ([], H.set n (.cells t cs'))
      | _, _ => none
    | _ => none
  | .eptr n wd i off => match objAt H n with
    | .row e τ xs => match frzGo news H with
      | (news', H1) => match objAt H1 n with
        | .row e' τ' xs' => match Nat.beq wd τ'.wd, Nat.beq (widths news') sz, patchW off news' (τ'.enc (xs'.getD i τ'.zero)) with
          | true, true, some cs => match τ'.dec cs with
            | some x => some ([i < xs'.length], H1.set n (.row e' τ' (xs'.set i x)))
            | none => none
          | _, _, _ => none
        | _ => none
    | _ => none
  | .aptr n off m wd i o => match objAt H n with
    | .cells t cs => match runAt off cs with
      | some (m', ⟨τ, xs⟩) => match Nat.beq wd τ.wd, Nat.beq m m', Nat.beq (widths news) sz, patchW o news (τ.enc (xs.getD i τ.zero)) with
        | true, true, true, some es => match τ.dec es with
          | some x => match patchRun off m τ (xs.set i x) cs with
            | some cs' => some ([i < m], H.set n (.cells t cs'))
            | none => none
          | none => none
        | _, _, _, _ => none
      | none => none
    | _ => none
  | _ => none

def storeStep (P : Program) (H : List AObj) (t : TypeId) (p v : TV) : ER :=
  match kindOf P t, p with
  | some (_, sz), .one p => match shapeOf P t v.cells H with
    | some (cs, H1) => match storeAt P H1 sz p cs with
      | some (obs, H2) => some (obs, .any, H2)
      | none => none
    | none => none
  | _, _ => none

def appendStep (P : Program) (H : List AObj) (ts : List TypeId) (s x : BV) : ER :=
  match ts with
  | [t, t'] => match Nat.beq t t', elemOf? P t with
    | true, some (e, τ, bytes) => match zeroOK P e (aggOf P e) τ, listOf H τ x with
      | true, some ys => match s with
        | .hd n => match objAt H n with
          | .row e' τ' xs => match decEq τ' τ, Nat.beq e e' with
            | isTrue q, true => some ([((xs.length + ys.length : Nat) : Int) * bytes ≤ 140737488355328, ((xs.length + ys.length : Nat) : Int) ≤ 140737488355328], .b (.hd H.length), H.set n .dead ++ [.row e τ (castL q xs ++ ys)])
            | _, _ => none
          | _ => none
        | .nils => some ([((ys.length : Nat) : Int) * bytes ≤ 140737488355328, ((ys.length : Nat) : Int) ≤ 140737488355328], .b (.hd H.length), H ++ [.row e τ ys])
        | _ => none
      | _, _ => none
    | _, _ => none
  | _ => none

def mapPut {κ τ : Ty} (k : κ.D) (x : τ.D) : List (κ.D × τ.D) → List (κ.D × τ.D)
  | [] => [(k, x)]
  | (a, b) :: r => match κ.eqb k a with
    | true => (k, x) :: r
    | false => (a, b) :: mapPut k x r

def mapDel {κ τ : Ty} (k : κ.D) : List (κ.D × τ.D) → List (κ.D × τ.D)
  | [] => []
  | (a, b) :: r => match κ.eqb k a with
    | true => r
    | false => (a, b) :: mapDel k r

def mapUpdateStep (P : Program) (H : List AObj) (t : TypeId) (m k v : TV) : ER :=
  match P.underlying t, m with
  | some (.map kt _), .one (.map n) => match objAt H n, keyTy P kt with
    | .map agg κ τ es, some κ' => match decEq κ' κ, κ.decOne k, τ.decAgg agg v with
      | isTrue _, some key, some x => some ([], .any, H.set n (.map agg κ τ (mapPut key x es)))
      | _, _, _ => none
    | _, _ => none
  | _, _ => none

def deleteStep (P : Program) (H : List AObj) (ts : List TypeId) (m k : TV) : ER :=
  match ts, m with
  | t :: _, .one (.map n) => match P.underlying t with
    | some (.map kt _) => match objAt H n, keyTy P kt with
      | .map agg κ τ es, some κ' => match decEq κ' κ, κ.decOne k with
        | isTrue _, some key => some ([], .any, H.set n (.map agg κ τ (mapDel key es)))
        | _, _ => none
      | _, _ => none
    | _ => none
  | _, _ => none

/-- The operations that make or write memory, but calls of functions. -/
def effOp (P : Program) (H : List AObj) (op : Op) (xs : List TV) : ER :=
  match op, xs with
  | .alloc t, [] => allocStep P H t
  | .box t _, [v] => boxStep P H t v
  | .buildSlice t len ps, vs => match zipParts ps.toList vs with
    | some l => buildSliceStep P H t len l
    | none => none
  | .makeMap t none, [] => makeMapStep P H t
  | .makeSlice t _ _, [l, c] => makeSliceStep P H t l c
  | .store t _ _, [p, v] => storeStep P H t p v
  | .mapUpdate t _ _ _, [m, k, v] => mapUpdateStep P H t m k v
  | .insert t _ _ _, [m, k, v] => mapUpdateStep P H t m k v
  | .call c, vs => match c.callee with
    | .builtin .append => match vs with
      | [.one s, .one x] => appendStep P H c.argTypes.toList s x
      | _ => none
    | .builtin .delete => match vs with
      | [m, k] => deleteStep P H c.argTypes.toList m k
      | _ => none
    | _ => none
  | _, _ => none

end Go.Proofs.Ythjogeodclpafaa.AM
end

section
set_option linter.unusedVariables false
set_option linter.unusedSimpArgs false
namespace Go.Proofs.Ythjogeodclpafaa.AM
open Go

section
variable {P : Program} {β : List Value} {Z : Nat → Prop} {w : World} {H : List AObj}

theorem parseMany_arr {m : Nat} {a : Ty} {cs : List BV} {xs : List a.D} {r : List BV} {vs : List Value} (h : parseMany a.parse m cs = some (xs, r)) (hc : ConcL β Z w cs vs) :
    ∃ v1 v2, vs = v1 ++ v2 ∧ (BV.arr m a xs).conc β Z w v1 ∧ ConcL β Z w r v2 := by
  obtain ⟨v1, v2, e, hl, h1, h2⟩ := parseMany_conc (R := a.Enc Z w) (fun cs x r vs => parse_conc a cs x r vs) m h hc
  exact ⟨v1, v2, e, ⟨hl, h1⟩, h2⟩

theorem BV.conc.trans {β' : List Value} {H' : List AObj} {Z' : Nat → Prop} {w' : World} (h : HeapOK β H Z w) (t : Trans β H Z w β' H' Z' w') {v : BV} {x : List Value} (hv : v.conc β Z w x) : v.conc β' Z' w' x := by
  obtain ⟨e, rfl⟩ := t.ext
  exact hv.mono (t.zkeep h)

theorem EncAll.app {α : Type} {R : α → List Value → Prop} : ∀ {xs ys : List α} {cs ds : List Value}, EncAll R xs cs → EncAll R ys ds → EncAll R (xs ++ ys) (cs ++ ds)
  | [], _, _, _, e, h => by simp [EncAll] at e; simpa [e] using h
  | _ :: _, _, _, _, ⟨c1, c2, e, h1, h2⟩, h => ⟨c1, c2 ++ _, by rw [e, List.append_assoc], h1, EncAll.app h2 h⟩

theorem owns_lt {v : Value} {e : TypeId} {k n : Nat} {cs : List Value} (h : w.ownsRow 0 e k v n cs) {b : Nat} (hb : blockOf v = some b) : b < w.heap.size := by
  rcases h.2 with ⟨rfl, _⟩ | ⟨g, cap, cur, rfl, _, hg, _⟩
  · cases hb
  · cases hb; exact (Array.getElem?_eq_some_iff.1 hg).1

theorem objAt_get {n : Nat} {o : AObj} (h : objAt H n = o) (hne : o ≠ .dead) : H[n]? = some o := by
  unfold objAt at h
  rw [List.getD_eq_getElem?_getD] at h
  cases hn : H[n]? with
  | none => rw [hn] at h; exact absurd h.symm hne
  | some p => rw [hn] at h; simpa using h

theorem last_name {β' : List Value} {H' : List AObj} (hh : HeapOK β' H' Z w) (v : Value) : (β' ++ [v])[H'.length]? = some v := by
  rw [← hh.len, List.getElem?_append_right (Nat.le_refl _)]; simp

/-- A prefix of a row takes the row's place: the row itself is given up. -/
theorem reroot_conc (hh : HeapOK β H Z w) {n len : Nat} {e : TypeId} {τ : Ty} {xs : List τ.D} (ho : objAt H n = .row e τ xs) {x : Value} (hx : (BV.pre n len).conc β Z w [x]) :
    Trans β H Z w (β ++ [x]) (H.set n .dead ++ [.row e τ (xs.take len)]) Z w ∧ (BV.hd H.length).conc (β ++ [x]) Z w [x] := by
  obtain ⟨A, m, c, hb, ex, h1, hmc, h2⟩ := hx
  cases ex
  have hget := objAt_get ho (by simp)
  obtain ⟨cs, g1, g2, g3⟩ := hh.objs n _ _ hget hb
  have hm : m = xs.length := by
    rcases g1.2 with ⟨e1, e2⟩ | ⟨g, cap, cur, e1, _⟩
    · cases e1; exact e2.symm
    · cases e1; rfl
  subst hm
  have hlen : (xs.take len).length = len := by simp; omega
  have hwd : len * τ.wd ≤ xs.length * τ.wd := Nat.mul_le_mul_right _ h1
  refine ⟨Trans.regrow hh hget rfl hb (Keep.refl _ _) (fun b hb' => .inl ?_) (fun b hb' => ?_) ⟨cs.take (len * τ.wd), ?_, ?_, ?_⟩, A, len, c, last_name hh _, rfl⟩
  · cases A with
    | none => cases hb'
    | some a => exact hb'
  · exact owns_lt g1 (by cases A with | none => cases hb' | some a => exact hb')
  · rw [hlen]
    refine ⟨by rw [List.length_take, g1.1]; omega, ?_⟩
    rcases g1.2 with ⟨e1, e2⟩ | ⟨g, cap, cur, e1, q1, q2, q3, q4, q5, q6⟩
    · simp only [Value.slice.injEq] at e1
      obtain ⟨rfl, hl0, rfl⟩ := e1
      have : len = 0 := by omega
      subst this
      exact .inl ⟨rfl, rfl⟩
    · cases e1
      refine .inr ⟨g, _, cur, rfl, q1, q2, by omega, q4, q5, ?_⟩
      rw [← q6, List.take_take]
      congr 1
      omega
  · exact g2.take (fun _ _ => Ty.Enc.length τ) len
  · intro g n' cap cur t o e1 hg
    rw [hlen]
    cases e1
    obtain ⟨js, hj⟩ := g3 g _ _ cur t o rfl hg
    rcases g1.2 with ⟨e2, _⟩ | ⟨g', cap', cur', e2, q1, q2, q3, q4, q5, q6⟩
    · cases e2
    · cases e2
      rw [q2] at hg; cases hg
      refine ⟨xs.drop len ++ js, ?_⟩
      have hd := g2.drop (fun _ _ => Ty.Enc.length τ) len
      have hcur : cur.toList.drop (len * τ.wd) = cs.drop (len * τ.wd) ++ cur.toList.drop (xs.length * τ.wd) := by
        rw [← q6]
        conv => lhs; rw [← List.take_append_drop (xs.length * τ.wd) cur.toList]
        rw [List.drop_append_of_le_length]
        rw [q6, g1.1]; exact hwd
      rw [hcur]
      exact EncAll.app hd hj

/-- A prefix of a buffer takes the buffer's place. -/
theorem reroot_buf (hh : HeapOK β H Z w) {n len : Nat} {e : TypeId} {τ : Ty} {ys : List τ.D} {k : Nat} (ho : objAt H n = .buf e τ ys k) {A : Option Addr} {m c : Nat} (hb : β[n]? = some (.slice A m c)) (hlen : len ≤ ys.length) (hc : c = ys.length) :
    Trans β H Z w (β ++ [.slice A len c]) (H.set n .dead ++ [.row e τ (ys.take len)]) Z w ∧ (BV.hd H.length).conc (β ++ [.slice A len c]) Z w [.slice A len c] := by
  subst hc
  have hget := objAt_get ho (by simp)
  obtain ⟨A', cs, e1, h1, g1, g2⟩ := hh.objs n _ _ hget hb
  cases e1
  have htl : (ys.take len).length = len := by simp; omega
  have hwd : len * τ.wd ≤ ys.length * τ.wd := Nat.mul_le_mul_right _ hlen
  refine ⟨Trans.regrow hh hget rfl hb (Keep.refl _ _) (fun b hb' => .inl ?_) (fun b hb' => ?_) ⟨cs.take (len * τ.wd), ?_, ?_, ?_⟩, A, len, ys.length, last_name hh _, rfl⟩
  · cases A with
    | none => cases hb'
    | some a => exact hb'
  · exact owns_lt g1 (by cases A with | none => cases hb' | some a => exact hb')
  · rw [htl]
    refine ⟨by rw [List.length_take, g1.1]; omega, ?_⟩
    rcases g1.2 with ⟨e1, e2⟩ | ⟨g, cap, cur, e1, q1, q2, q3, q4, q5, q6⟩
    · simp only [Value.slice.injEq] at e1
      obtain ⟨rfl, hl0, hl1⟩ := e1
      have : len = 0 := by omega
      subst this
      exact .inl ⟨by rw [hl0], rfl⟩
    · simp only [Value.slice.injEq] at e1
      obtain ⟨rfl, _, rfl⟩ := e1
      refine .inr ⟨g, _, cur, rfl, q1, q2, by omega, q4, q5, ?_⟩
      rw [← q6, List.take_take]
      congr 1
      omega
  · exact g2.take (fun _ _ => Ty.Enc.length τ) len
  · intro g n' cap cur t o e1 hg
    rw [htl]
    cases e1
    rcases g1.2 with ⟨e2, _⟩ | ⟨g', cap', cur', e2, q1, q2, q3, q4, q5, q6⟩
    · cases e2
    · cases e2
      rw [q2] at hg; cases hg
      have hcur : cur.toList = cs := by rw [← q6, ← q5, ← Array.length_toList, List.take_length]
      rw [hcur]
      exact ⟨_, g2.drop (fun _ _ => Ty.Enc.length τ) len⟩

theorem reroot1_conc (hh : HeapOK β H Z w) {c c' : BV} {H' : List AObj} (h : reroot1 H c = some (c', H')) {x : Value} (hx : c.conc β Z w [x]) : ∃ β', Trans β H Z w β' H' Z w ∧ c'.conc β' Z w [x] := by
  unfold reroot1 at h
  split at h
  · split at h
    · rename_i ho
      cases h
      obtain ⟨t, h⟩ := reroot_conc hh ho hx
      exact ⟨_, t, h⟩
    · cases h
  · split at h
    · rename_i ho
      cases h
      obtain ⟨A, m, c, hb, ee, h1, _⟩ := hx
      cases ee
      have hob := hh.objsOK.at_ hb
      rw [ho] at hob
      obtain ⟨A', e1, _⟩ := buf_reads hob
      cases e1
      obtain ⟨t, h⟩ := reroot_buf hh ho hb h1 rfl
      exact ⟨_, t, h⟩
    · cases h
  · split at h
    · rename_i ho
      cases h
      obtain ⟨A, m, c, hb, ee⟩ := hx
      cases ee
      have hob := hh.objsOK.at_ hb
      rw [ho] at hob
      obtain ⟨A', e1, hk, _⟩ := buf_reads hob
      cases e1
      obtain ⟨t, h⟩ := reroot_buf hh ho hb hk rfl
      exact ⟨_, t, h⟩
    · cases h
  · cases h

theorem reroot1_one {c c' : BV} {H' : List AObj} (h : reroot1 H c = some (c', H')) {cs : List Value} (hx : c.conc β Z w cs) : ∃ x, cs = [x] := by
  have : c.wd = 1 := by
    unfold reroot1 at h
    split at h <;> first | rfl | cases h
  have hl := hx.length
  rw [this] at hl
  match cs, hl with
  | [x], _ => exact ⟨x, rfl⟩

theorem shapeGo_conc : ∀ (tys : List TypeId) (cs : List BV) (β : List Value) (H : List AObj) (cs' : List BV) (H' : List AObj) (vs : List Value), shapeGo P tys cs H = some (cs', H') → HeapOK β H Z w → ConcL β Z w cs vs →
    ∃ β', Trans β H Z w β' H' Z w ∧ ConcL β' Z w cs' vs
  | [], cs, β, H, cs', H', vs, h, hh, hc => by
    cases cs with
    | nil => simp only [shapeGo, Option.some.injEq, Prod.mk.injEq] at h; obtain ⟨rfl, rfl⟩ := h; exact ⟨β, Trans.refl hh, hc⟩
    | cons c r => simp [shapeGo] at h
  | ty :: tys, cs, β, H, cs', H', vs, h, hh, hc => by
    simp only [shapeGo] at h
    split at h
    · rename_i m a _
      split at h
      · split at h
        · rename_i q
          cases h
          obtain ⟨v1, v2, e, h1, h2⟩ := hc
          obtain ⟨β', t, hr⟩ := shapeGo_conc tys _ β H _ _ v2 q hh h2
          exact ⟨β', t, v1, v2, e, h1.trans hh t, hr⟩
        · cases h
      · rename_i xs r _ hp
        split at h
        · rename_i q
          cases h
          obtain ⟨v1, v2, e, h1, h2⟩ := parseMany_arr hp hc
          obtain ⟨β', t, hr⟩ := shapeGo_conc tys _ β H _ _ v2 q hh h2
          exact ⟨β', t, v1, v2, e, h1.trans hh t, hr⟩
        · cases h
      · cases h
    · split at h
      · split at h
        · rename_i e τ by_ he
          split at h
          · rename_i q
            cases h
            obtain ⟨v1, v2, e1, h1, h2⟩ := hc
            have t0 := Trans.nil hh e τ
            obtain ⟨β', t, hr⟩ := shapeGo_conc tys _ _ _ _ _ v2 q t0.heap (h2.trans hh t0)
            refine ⟨β', t0.trans t, v1, v2, e1, ?_, hr⟩
            have : v1 = [.slice none 0 0] := h1
            subst this
            obtain ⟨ex, rfl⟩ := t.ext
            refine ⟨none, 0, 0, ?_, rfl⟩
            rw [← hh.len, List.getElem?_append_left (by simp), List.getElem?_append_right (Nat.le_refl _)]
            simp
          · cases h
        · split at h
          · rename_i q
            cases h
            obtain ⟨v1, v2, e, h1, h2⟩ := hc
            obtain ⟨β', t, hr⟩ := shapeGo_conc tys _ β H _ _ v2 q hh h2
            exact ⟨β', t, v1, v2, e, h1.trans hh t, hr⟩
          · cases h
      · split at h
        · rename_i c' H1 hre
          split at h
          · rename_i q
            cases h
            obtain ⟨v1, v2, e1, h1, h2⟩ := hc
            obtain ⟨x, rfl⟩ := reroot1_one hre h1
            obtain ⟨β1, t0, hd⟩ := reroot1_conc hh hre h1
            obtain ⟨β', t, hr⟩ := shapeGo_conc tys _ _ _ _ _ v2 q t0.heap (h2.trans hh t0)
            exact ⟨β', t0.trans t, _, v2, e1, hd.trans t0.heap t, hr⟩
          · cases h
        · split at h
          · rename_i q
            cases h
            obtain ⟨v1, v2, e, h1, h2⟩ := hc
            obtain ⟨β', t, hr⟩ := shapeGo_conc tys _ β H _ _ v2 q hh h2
            exact ⟨β', t, v1, v2, e, h1.trans hh t, hr⟩
          · cases h
      · cases h

theorem unlitB_conc (v : BV) (cs : List Value) : (unlitB v).conc β Z w cs ↔ v.conc β Z w cs := by
  cases v <;> exact Iff.rfl

theorem rootT_conc (hh : HeapOK β H Z w) {v : TV} {x : Value} (hv : v.conc β Z w x) : ∃ β', Trans β H Z w β' (rootT H v).2 Z w ∧ (rootT H v).1.conc β' Z w x := by
  unfold rootT
  split
  · split
    · rename_i hre
      obtain ⟨β', t, h⟩ := reroot1_conc hh hre hv
      exact ⟨β', t, h⟩
    · exact ⟨β, Trans.refl hh, (unlitB_conc _ _).2 hv⟩
  · exact ⟨β, Trans.refl hh, hv⟩

theorem rootTs_conc : ∀ (vs : List TV) {β : List Value} {H : List AObj} {xs : List Value}, HeapOK β H Z w → TVs β Z w vs xs → ∃ β', Trans β H Z w β' (rootTs vs H).2 Z w ∧ TVs β' Z w (rootTs vs H).1 xs
  | [], β, H, xs, hh, h => ⟨β, Trans.refl hh, h⟩
  | v :: r, β, H, xs, hh, ⟨x, xs', e, h1, h2⟩ => by
    obtain ⟨β1, t1, hc⟩ := rootT_conc hh h1
    obtain ⟨β2, t2, hr⟩ := rootTs_conc r t1.heap (h2.trans hh t1)
    exact ⟨β2, t1.trans t2, x, xs', e, hc.trans t1.heap t2, hr⟩

theorem shapeOf_conc {t : TypeId} {cs cs' : List BV} {H' : List AObj} {vs : List Value} (h : shapeOf P t cs H = some (cs', H')) (hh : HeapOK β H Z w) (hc : ConcL β Z w cs vs) : ∃ β', Trans β H Z w β' H' Z w ∧ ConcL β' Z w cs' vs := by
  unfold shapeOf at h
  split at h
  · exact shapeGo_conc _ _ _ _ _ _ _ h hh hc
  · cases h

theorem listOf_frozen {Z : Nat → Prop} (hh : HeapOK β H Z w) {n wd lo len : Nat} {e : TypeId} {τ : Ty} {xs : List τ.D} (ho : objAt H n = .frow e τ xs) (hw : wd = τ.wd) {cs : List Value} (hc : (BV.sub n wd lo len).conc β Z w cs) :
    (BV.fsl e τ ((xs.drop lo).take len)).conc β Z w cs := by
  obtain ⟨A, m, c, A', c', hb, rfl, h1, hmc, h2, h3, h4⟩ := hc
  subst hw
  have hob := hh.objsOK.at_ hb
  rw [ho] at hob
  obtain ⟨⟨A0, c0, es, e0, q1, q2, q3, q4⟩, hA⟩ := hob
  cases e0
  refine ⟨_, rfl, ?_⟩
  have hlen : ((xs.drop lo).take len).length = len := by simp; omega
  rw [hlen]
  refine ⟨A', c', (es.drop (lo * τ.wd)).take (len * τ.wd), rfl, by omega, by omega, (q3.drop (fun _ _ => Ty.Enc.length τ) lo).take (fun _ _ => Ty.Enc.length τ) len, fun hne => ?_⟩
  obtain ⟨b, rfl, rfl⟩ := h4 hne
  obtain ⟨ad, e1, hsp, hz, hc⟩ := q4 (by omega)
  cases e1
  refine ⟨_, rfl, rfl, hz, fun j u hj => ?_⟩
  have : es[lo * τ.wd + j]? = some u := by
    rw [List.getElem?_take] at hj
    split at hj
    · rwa [List.getElem?_drop] at hj
    · cases hj
  have := hc _ _ this
  rw [Addr.add_zero'] at this ⊢
  rwa [Nat.zero_add] at this

theorem frow_hd (hh : HeapOK β H Z w) {n : Nat} {e : TypeId} {τ : Ty} {xs : List τ.D} (ho : objAt H n = .frow e τ xs) {cs : List Value} (hc : (BV.hd n).conc β Z w cs) : (BV.fsl e τ xs).conc β Z w cs := by
  obtain ⟨A, m, c, hb, rfl⟩ := hc
  have hob := hh.objsOK.at_ hb
  rw [ho] at hob
  exact ⟨_, rfl, hob.1⟩

theorem objAt_set {n : Nat} {o p : AObj} (h : H[n]? = some o) : objAt (H.set n p) n = p := by
  unfold objAt
  rw [List.getD_eq_getElem?_getD, List.getElem?_set_self (List.getElem?_eq_some_iff.1 h).1]; rfl

theorem freeze_at (hh : HeapOK β H Z w) {n : Nat} {e : TypeId} {τ : Ty} {xs : List τ.D} (ho : objAt H n = .row e τ xs) : ∃ Z', Trans β H Z w β (H.set n (.frow e τ xs)) Z' w := by
  have h1 := objAt_get ho (by simp)
  have hlt : n < H.length := (List.getElem?_eq_some_iff.1 h1).1
  exact ⟨_, Trans.freeze hh h1 (List.getElem?_eq_getElem (show n < β.length by rw [hh.len]; exact hlt))⟩

theorem pre_frozen (hh : HeapOK β H Z w) {n len : Nat} {e : TypeId} {τ : Ty} {xs : List τ.D} (ho : objAt H n = .frow e τ xs) {cs : List Value} (h : (BV.pre n len).conc β Z w cs) : (BV.fsl e τ (xs.take len)).conc β Z w cs := by
  obtain ⟨A, m, c, hb, rfl, h1, hmc, h2⟩ := h
  have hob := hh.objsOK.at_ hb
  rw [ho] at hob
  obtain ⟨A0, c0, es, e0, q1, q2, q3, q4⟩ := hob.1
  cases e0
  refine ⟨_, rfl, ?_⟩
  have hlen : (xs.take len).length = len := by simp; omega
  rw [hlen]
  refine ⟨A, c, es.take (len * τ.wd), rfl, by omega, h2, q3.take (fun _ _ => Ty.Enc.length τ) len, fun hne => ?_⟩
  obtain ⟨ad, e1, hsp, hz, hc⟩ := q4 (by omega)
  exact ⟨ad, e1, hsp, hz, fun j u hj => hc j u (by
    rw [List.getElem?_take] at hj
    split at hj
    · exact hj
    · cases hj)⟩

theorem frz1_conc (c : BV) (hh : HeapOK β H Z w) {vs : List Value} (hc : c.conc β Z w vs) : ∃ Z', Trans β H Z w β (frz1 c H).2 Z' w ∧ (frz1 c H).1.conc β Z' w vs := by
  unfold frz1
  split
  · split
    · rename_i n _ e τ xs ho
      obtain ⟨Z', t⟩ := freeze_at hh ho
      exact ⟨Z', t, frow_hd t.heap (objAt_set (objAt_get ho (by simp))) (hc.trans hh t)⟩
    · rename_i n _ e τ xs ho
      exact ⟨Z, Trans.refl hh, frow_hd hh ho hc⟩
    · exact ⟨Z, Trans.refl hh, hc⟩
  · split
    · rename_i n wd lo len _ e τ xs ho
      split
      · rename_i hw
        obtain ⟨Z', t⟩ := freeze_at hh ho
        exact ⟨Z', t, listOf_frozen t.heap (objAt_set (objAt_get ho (by simp))) (Nat.eq_of_beq_eq_true hw) (hc.trans hh t)⟩
      · exact ⟨Z, Trans.refl hh, hc⟩
    · rename_i n wd lo len _ e τ xs ho
      split
      · rename_i hw
        exact ⟨Z, Trans.refl hh, listOf_frozen hh ho (Nat.eq_of_beq_eq_true hw) hc⟩
      · exact ⟨Z, Trans.refl hh, hc⟩
    · exact ⟨Z, Trans.refl hh, hc⟩
  · split
    · rename_i n len _ e τ xs ho
      obtain ⟨Z', t⟩ := freeze_at hh ho
      exact ⟨Z', t, pre_frozen t.heap (objAt_set (objAt_get ho (by simp))) (hc.trans hh t)⟩
    · rename_i n len _ e τ xs ho
      exact ⟨Z, Trans.refl hh, pre_frozen hh ho hc⟩
    · exact ⟨Z, Trans.refl hh, hc⟩
  · exact ⟨Z, Trans.refl hh, hc⟩

theorem frzGo_conc : ∀ (cs : List BV) (H : List AObj) (Z : Nat → Prop) (vs : List Value), HeapOK β H Z w → ConcL β Z w cs vs → ∃ Z', Trans β H Z w β (frzGo cs H).2 Z' w ∧ ConcL β Z' w (frzGo cs H).1 vs
  | [], H, Z, vs, hh, hc => ⟨Z, Trans.refl hh, hc⟩
  | c :: r, H, Z, vs, hh, ⟨v1, v2, e, h1, h2⟩ => by
    obtain ⟨Z1, t1, k1⟩ := frz1_conc c hh h1
    obtain ⟨Z2, t2, k2⟩ := frzGo_conc r (frz1 c H).2 Z1 v2 t1.heap (h2.trans hh t1)
    exact ⟨Z2, t1.trans t2, v1, v2, e, k1.trans t1.heap t2, k2⟩

/-- An effect is right. -/
def Does (P : Program) (β : List Value) (H : List AObj) (Z : Nat → Prop) (w : World) (s : World → Value → World → Prop) (r : ER) : Prop :=
  ∀ obs v H', r = some (obs, v, H') → (∀ q ∈ obs, q) → ∃ x w' β' Z', s w x w' ∧ Trans β H Z w β' H' Z' w' ∧ v.conc β' Z' w' x

def runsV (P : Program) (s : Sem Value) (w : World) (x : Value) (w' : World) : Prop := s.run P w = .ok x w'
def runsU (P : Program) (s : Sem Unit) (w : World) (x : Value) (w' : World) : Prop := s.run P w = .ok () w' ∧ x = undef

theorem does_none {s : World → Value → World → Prop} : Does P β H Z w s none := fun _ _ _ h => by cases h

theorem alloc_does (hh : HeapOK β H Z w) (t : TypeId) : Does P β H Z w (runsV P (Instr.alloc t true (.tuple #[]))) (allocStep P H t) := by
  intro obs v H' h ho
  unfold allocStep at h
  split at h
  · rename_i i hi
    split at h
    · rename_i z hz
      split at h
      · rename_i cs H1 hk hs
        cases h
        obtain ⟨β1, t1, hc⟩ := shapeOf_conc hs hh (ofCells_conc hk)
        have t2 : Trans β1 H1 Z w (β1 ++ [.pointer (some ⟨w.heap.size, 0, none⟩)]) (H1 ++ [.cells t cs]) Z (w.alloc (.cells z.cells t)) := by
          refine Trans.new t1.heap _ _ (Keep.allocW _ _ _) (fun b _ hb => ?_) ?_
          · cases hb; exact ⟨Nat.le_refl _, by simp⟩
          · exact ⟨w.heap.size, z.cells, rfl, heap_alloc_new _ _, hc.mono ⟨fun _ h => h, fun b hb => heap_alloc_old _ _ _ (t1.heap.zlt b hb)⟩⟩
        refine ⟨.pointer (some ⟨w.heap.size, 0, none⟩), _, _, _, ?_, t1.trans t2, w.heap.size, last_name t1.heap _, rfl⟩
        simp [runsV, Instr.alloc, zeroValue, typeInfo, hi, hz, newVar, newRow]
      · cases h
    · cases h
  · cases h

theorem box_does (hh : HeapOK β H Z w) (t : TypeId) (v : TV) (a : Value) (ha : v.conc β Z w a) : Does P β H Z w (runsV P (Instr.box t a)) (boxStep P H t v) := by
  intro obs v' H' h ho
  unfold boxStep at h
  split at h
  · rename_i cs H1 hs
    cases h
    obtain ⟨β1, t1, hc⟩ := shapeOf_conc hs hh (TV.cells_conc ha)
    have t2 : Trans β1 H1 Z w (β1 ++ [.pointer (some ⟨w.heap.size, 0, none⟩)]) (H1 ++ [.cells t cs]) Z (w.alloc (.cells a.cells t)) := by
      refine Trans.new t1.heap _ _ (Keep.allocW _ _ _) (fun b _ hb => ?_) ?_
      · cases hb; exact ⟨Nat.le_refl _, by simp⟩
      · exact ⟨w.heap.size, a.cells, rfl, heap_alloc_new _ _, hc.mono ⟨fun _ h => h, fun b hb => heap_alloc_old _ _ _ (t1.heap.zlt b hb)⟩⟩
    refine ⟨.pointer (some ⟨w.heap.size, 0, none⟩), _, _, _, ?_, t1.trans t2, w.heap.size, last_name t1.heap _, rfl⟩
    simp [runsV, Instr.box, newVar, newRow]
  · cases h

theorem makeMap_does (hh : HeapOK β H Z w) (t : TypeId) : Does P β H Z w (runsV P (Instr.makeMap t none)) (makeMapStep P H t) := by
  intro obs v H' h ho
  unfold makeMapStep at h
  split at h
  · split at h
    · split at h
      · cases h
        refine ⟨.map (some w.heap.size), w.alloc (.map #[] 0), β ++ [.map (some w.heap.size)], Z, by simp [runsV, Instr.makeMap], ?_, w.heap.size, last_name hh _, rfl⟩
        refine Trans.new hh _ _ (Keep.allocW _ _ _) (fun b _ hb => ?_) ⟨w.heap.size, #[], 0, rfl, heap_alloc_new _ _, rfl⟩
        cases hb; exact ⟨Nat.le_refl _, by simp⟩
      · cases h
    · cases h
  · cases h

end

end Go.Proofs.Ythjogeodclpafaa.AM
end

section
set_option linter.unusedVariables false
set_option linter.unusedSimpArgs false
namespace Go.Proofs.Ythjogeodclpafaa.AM
open Go

section
variable {P : Program} {β : List Value} {Z : Nat → Prop} {w : World} {H : List AObj}

/-! ### Lists -/
theorem splice_mid (A B C : List Value) (o : Nat) (nv : List Value) (h : o + nv.length ≤ B.length) : splice (A ++ (B ++ C)) (A.length + o) nv = A ++ (splice B o nv ++ C) := by
  unfold splice
  rw [show A.length + o + nv.length = A.length + (o + nv.length) by omega, List.take_length_add_append, List.drop_length_add_append, List.take_append_of_le_length (by omega), List.drop_append_of_le_length h]
  simp only [List.append_assoc]

theorem splice_length (cs : List Value) (o : Nat) (nv : List Value) (h : o + nv.length ≤ cs.length) : (splice cs o nv).length = cs.length := by
  unfold splice; simp; omega

theorem splice_drop {cs nv : List Value} {o N : Nat} (h1 : o + nv.length ≤ N) (h2 : N ≤ cs.length) : (splice cs o nv).drop N = cs.drop N := by
  unfold splice
  rw [List.drop_append, List.drop_eq_nil_of_le (by simp; omega), List.nil_append, List.drop_drop]
  congr 1
  simp
  omega

theorem splice_take {cs nv : List Value} {o N : Nat} (h1 : o + nv.length ≤ N) (h2 : N ≤ cs.length) : (splice cs o nv).take N = splice (cs.take N) o nv := by
  have hA : (cs.take N).length = N := by simp; omega
  have h := splice_mid [] (cs.take N) (cs.drop N) o nv (by rw [hA]; exact h1)
  simp only [List.nil_append, List.take_append_drop, List.length_nil, Nat.zero_add] at h
  rw [h]
  have hl := splice_length (cs.take N) o nv (by rw [hA]; exact h1)
  rw [hA] at hl
  exact List.take_left' hl

theorem made_replicate (z : Array Value) (k : Nat) (hz : z.size = k) (n : Nat) : (madeCells z (n * k)).toList = (List.replicate n z.toList).flatten := by
  subst hz
  have key : ∀ n, (List.range (n * z.size)).map (fun i => z[i % z.size]!) = (List.replicate n z.toList).flatten := by
    intro n
    induction n with
    | zero => simp
    | succ n ih =>
      rw [Nat.add_mul, Nat.one_mul, Nat.add_comm, List.range_add, List.map_append, List.map_map, List.replicate_succ, List.flatten_cons]
      congr 1
      · apply List.ext_getElem
        · simp
        · intro i h1 h2
          have : i < z.size := by simpa using h2
          simp [Nat.mod_eq_of_lt this, this]
      · rw [← ih]
        apply List.map_congr_left
        intro i _
        simp
  rw [← key]
  simp [madeCells]

theorem fill_seq (k : Nat) : ∀ (vs : List Value) (i : Nat) (pre : List Value) (cs : Array Value), (∀ v ∈ vs, v.cells.size = k) → pre.length = i * k → (i + vs.length) * k ≤ cs.size → cs.toList.take (i * k) = pre →
    ∃ r, Instr.fill (fun i => some (i * k, k)) cs ((vs.zipIdx i).map fun x => (x.2, x.1)) = some r ∧ r.size = cs.size ∧ r.toList.take ((i + vs.length) * k) = pre ++ vs.flatMap (fun v => v.cells.toList) := by
  intro vs
  induction vs with
  | nil => intro i pre cs _ hp hs ht; exact ⟨cs, by simp [Instr.fill], rfl, by simpa using ht⟩
  | cons v vs ih =>
    intro i pre cs hv hp hs ht
    have hvk := hv v (by simp)
    have hle : i * k + k ≤ cs.size := by
      have : (i + 1) * k ≤ (i + (v :: vs).length) * k := Nat.mul_le_mul_right _ (by simp)
      rw [Nat.add_mul, Nat.one_mul] at this
      omega
    simp only [List.zipIdx_cons, List.map_cons, Instr.fill, hvk]
    rw [if_neg (by simp; omega)]
    have hfold : (v.cells.zipIdx.foldl (fun cs (x : Value × Nat) => cs.setIfInBounds (i * k + x.2) x.1) cs).toList = cs.toList.take (i * k) ++ v.cells.toList ++ cs.toList.drop (i * k + k) := by
      rw [← Array.foldl_toList, Array.toList_zipIdx]
      have := fold_set v.cells.toList 0 (i * k) cs (by simp [hvk]; omega)
      simpa [hvk] using this
    generalize hcs' : v.cells.zipIdx.foldl (fun cs (x : Value × Nat) => cs.setIfInBounds (i * k + x.2) x.1) cs = cs' at *
    have hsz : cs'.size = cs.size := by
      rw [← Array.length_toList, hfold]; simp [hvk]; omega
    have := ih (i + 1) (pre ++ v.cells.toList) cs' (fun u hu => hv u (by simp [hu])) (by simp [hp, hvk, Nat.add_mul]) (by rw [hsz]; simp at hs; rw [show i + 1 + vs.length = i + (vs.length + 1) by omega]; exact hs)
      (by rw [hfold, ht, Nat.add_mul, Nat.one_mul, List.take_append_of_le_length (by simp [hp, hvk]), List.take_of_length_le (by simp [hp, hvk])])
    obtain ⟨r, h1, h2, h3⟩ := this
    exact ⟨r, h1, by rw [h2, hsz], by rw [show i + (v :: vs).length = i + 1 + vs.length by simp; omega, h3]; simp⟩

theorem elemsGo_conc {τ : Ty} : ∀ (l : List (Nat × TV)) (i : Nat) (H : List AObj) (Z : Nat → Prop) (xs : List τ.D) (H' : List AObj) (vs : List Value), elemsGo τ i l H = some (xs, H') → HeapOK β H Z w → TVs β Z w (l.map (·.2)) vs →
    ∃ Z', Trans β H Z w β H' Z' w ∧ EncAll (τ.Enc Z' w) xs (vs.flatMap fun v => v.cells.toList) ∧ xs.length = l.length ∧ l.map (·.1) = (List.range' i l.length) ∧ ∀ v ∈ vs, v.cells.size = τ.wd
  | [], i, H, Z, xs, H', vs, h, hh, hv => by
    simp only [elemsGo, Option.some.injEq, Prod.mk.injEq] at h
    obtain ⟨rfl, rfl⟩ := h
    simp only [List.map_nil, TVs] at hv
    subst hv
    exact ⟨Z, Trans.refl hh, rfl, rfl, rfl, by simp⟩
  | (j, v) :: r, i, H, Z, xs, H', vs, h, hh, hv => by
    obtain ⟨x, vs', e, h1, h2⟩ := hv
    subst e
    simp only [elemsGo] at h
    split at h
    · rename_i cs H1 hj hf
      have hj := Nat.eq_of_beq_eq_true hj
      subst hj
      obtain ⟨Z1, t1, k1⟩ := frzGo_conc v.cells H Z _ hh (TV.cells_conc h1)
      rw [hf] at t1 k1
      split at h
      · rename_i y hy
        split at h
        · rename_i ys H2 hr
          cases h
          obtain ⟨Z2, t2, k2, k3, k4, k5⟩ := elemsGo_conc r (i + 1) H1 Z1 ys _ vs' hr t1.heap (h2.trans hh t1)
          have ey := dec_conc hy k1
          have ey' := ey.mono (t2.zkeep t1.heap)
          refine ⟨Z2, t1.trans t2, ⟨_, _, by simp, ey', k2⟩, by simp [k3], by simp [k4, List.range'_succ], fun u hu => ?_⟩
          rcases List.mem_cons.1 hu with rfl | hu
          · have := Ty.Enc.length _ ey; simpa using this
          · exact k5 u hu
        · cases h
      · cases h
    · cases h


theorem makeSlice_does (hh : HeapOK β H Z w) (t : TypeId) (l c : TV) (a b : Value) (ha : l.conc β Z w a) (hb : c.conc β Z w b) : Does P β H Z w (runsV P (Instr.makeSlice t a b)) (makeSliceStep P H t l c) := by
  intro obs v H' h ho
  unfold makeSliceStep at h
  split at h
  · rename_i e τ bytes k n k' m he
    split at h
    · rename_i hz
      cases h
      have := one_int ha; subst this
      have := one_int hb; subst this
      have h1 : 0 ≤ n := ho _ (.head _)
      have h2 : n = m := ho _ (.tail _ (.head _))
      have h3 : (bytes : Int) * n ≤ 140737488355328 := ho _ (.tail _ (.tail _ (.head _)))
      have h4 : n ≤ 140737488355328 := ho _ (.tail _ (.tail _ (.tail _ (.head _))))
      subst h2
      obtain ⟨hu, _, inf, hin, hsz, hne, hby⟩ := elemOf_spec he
      obtain ⟨i', z, hi', hiz, _, _, hzc, hze⟩ := zeroOK_spec (Z := Z) (w := w) hz
      rw [hin] at hi'; cases hi'
      obtain ⟨q, rfl⟩ := Int.eq_ofNat_of_zero_le h1
      have h3'' : ((inf.bytes * q : Nat) : Int) ≤ 140737488355328 := by rw [hby, Int.natCast_mul]; exact h3
      have h3' : inf.bytes * q ≤ 140737488355328 := by omega
      obtain ⟨w', hr, hown, hg⟩ := run_make_full (P := P) w 0 t e inf z τ.wd hu hin hiz hsz k k' q (by omega) (by unfold maxLen; omega) (Nat.zero_le _)
      have hzs : z.cells.size = τ.wd := by rw [← Array.length_toList, hzc, Ty.Enc.length _ hze]
      rw [made_replicate z.cells τ.wd hzs q, hzc] at hown
      have kk : Keep (fun _ => False) w w' := ⟨hg.os, hg.tape, hg.output, hg.size, fun b hb _ => hg.block b hb (by simp)⟩
      refine ⟨_, w', β ++ [.slice (some ⟨w.heap.size, 0, none⟩) q q], Z, hr, ?_, _, _, _, last_name hh _, rfl⟩
      have hrow : ObjOK (β ++ [.slice (some ⟨w.heap.size, 0, none⟩) q q]) Z w' (.slice (some ⟨w.heap.size, 0, none⟩) q q) (.row e τ (List.replicate ((q : Int)).toNat τ.zero)) := by
        refine ⟨_, by rw [List.length_replicate, Int.toNat_natCast]; exact hown, ?_, ?_⟩
        rotate_left
        · intro g n cap cur t o e1 hg1
          rcases hown.2 with ⟨e2, _⟩ | ⟨g', cap', cur', e2, _, hg2, _, _, hsz', _⟩
          · cases e2
          · rw [e2] at e1; cases e1
            rw [hg2] at hg1; cases hg1
            cases e2
            refine ⟨[], ?_⟩
            show cur.toList.drop _ = []
            rw [List.length_replicate, Int.toNat_natCast]
            exact List.drop_of_length_le (by rw [Array.length_toList, hsz']; exact Nat.le_refl _)
        rw [Int.toNat_natCast]
        exact EncAll.replicate (R := τ.Enc Z w') (x := τ.zero) (cs := τ.zcells) (zero_enc τ) q
      refine Trans.new hh _ _ kk (fun b _ hb => ?_) hrow
      cases hb
      refine ⟨Nat.le_refl _, ?_⟩
      rcases hown.2 with ⟨e, _⟩ | ⟨g, cap, cur, e, _, hgg, _⟩
      · cases e
      · cases e; exact (Array.getElem?_eq_some_iff.1 hgg).1
    · cases h
  · cases h

theorem buildSlice_does (hh : HeapOK β H Z w) (t : TypeId) (len : Nat) (l : List (Nat × TV)) (parts : Array (Nat × Value)) (hidx : parts.toList.map (·.1) = l.map (·.1)) (hv : TVs β Z w (l.map (·.2)) (parts.toList.map (·.2))) :
    Does P β H Z w (runsV P (Instr.buildSlice t len parts)) (buildSliceStep P H t len l) := by
  intro obs v H' h ho
  unfold buildSliceStep at h
  split at h
  · rename_i e τ by_ he
    split at h
    · rename_i xs H1 hlen hbig hz hel
      cases h
      have hlen := Nat.eq_of_beq_eq_true hlen
      have hbig := Nat.le_of_ble_eq_true hbig
      obtain ⟨hu, _, inf, hin, hsz, hne, hby⟩ := elemOf_spec he
      obtain ⟨i', z, hi', hiz, hzr, _, hzc, hze⟩ := zeroOK_spec (Z := Z) (w := w) hz
      rw [hin] at hi'; cases hi'
      obtain ⟨Z1, t1, hE, hxl, hix, hcs⟩ := elemsGo_conc l 0 H Z xs H1 _ hel hh hv
      have hzs : z.cells.size = τ.wd := by rw [← Array.length_toList, hzc, Ty.Enc.length _ hze]
      have hpl : parts.toList.length = len := by rw [← hlen, ← List.length_map (f := (·.1)) (as := parts.toList), hidx, List.length_map]
      have hparts : parts.toList = ((parts.toList.map (·.2)).zipIdx 0).map fun x => (x.2, x.1) := by
        have h1 : parts.toList.map (·.1) = List.range' 0 (parts.toList.map (·.2)).length := by rw [hidx, hix]; congr 1; rw [List.length_map, hpl, hlen]
        generalize parts.toList = ps at h1
        generalize 0 = k at h1
        induction ps generalizing k with
        | nil => rfl
        | cons p ps ih =>
          obtain ⟨i, v⟩ := p
          simp only [List.map_cons, List.length_cons, List.range'_succ, List.cons.injEq, List.length_map] at h1
          simp only [List.map_cons, List.zipIdx_cons]
          rw [← ih (k + 1) (by simpa using h1.2), h1.1]
      have hmade : (madeCells z.cells (len * inf.size)).size = len * τ.wd := by rw [size_madeCells, hsz]
      obtain ⟨r, hf, hrs, hrt⟩ := fill_seq τ.wd (parts.toList.map (·.2)) 0 [] (madeCells z.cells (len * inf.size)) hcs (by simp) (by rw [hmade]; simp [hpl]) (by simp)
      have hr : r.toList = (parts.toList.map (·.2)).flatMap fun v => v.cells.toList := by
        rw [← List.nil_append ((parts.toList.map (·.2)).flatMap _), ← hrt, List.take_of_length_le]
        rw [Array.length_toList, hrs, hmade]; simp [hpl]
      have hrow : (w.alloc (.cells r e)).ownsRow 0 e τ.wd (.slice (some ⟨w.heap.size, 0, none⟩) len len) len r.toList :=
        World.ownsRow_lit w r len (Nat.zero_le _) (by have : len * 1 ≤ len * τ.wd := Nat.mul_le_mul_left _ (by omega)
                                                      unfold maxLen; omega) (by rw [hrs, hmade])
      refine ⟨.slice (some ⟨w.heap.size, 0, none⟩) len len, w.alloc (.cells r e), β ++ [.slice (some ⟨w.heap.size, 0, none⟩) len len], Z1, ?_, t1.trans ?_, _, _, _, last_name t1.heap _, rfl⟩
      · have hbig' : ¬ len * inf.size > 2 ^ 24 := by rw [hsz]; omega
        have hf' : Instr.fill (fun i => some (i * inf.size, inf.size)) (madeCells z.cells (len * inf.size)) parts.toList = some r := by rw [hparts, hsz]; rw [hsz] at hf; exact hf
        by_cases h0 : len * inf.size = 0
        · have hm : ∀ z' : Array Value, madeCells z' (len * inf.size) = madeCells z.cells (len * inf.size) := fun z' => by rw [h0]; simp [madeCells]
          have hf2 := hm #[]
          rw [← hf2] at hf'
          unfold madeCells at hf'
          simp only [runsV, Instr.buildSlice, Sem.run_bind, run_underlying hu, Result.andThen_ok, run_sizeOf' hin, Sem.run_ite, if_neg hbig', Sem.run_pure, if_pos h0, hf']
          simp [newRow]
        · unfold madeCells at hf'
          simp only [runsV, Instr.buildSlice, Sem.run_bind, run_underlying hu, Result.andThen_ok, run_sizeOf' hin, Sem.run_ite, if_neg hbig', Sem.run_pure, if_neg h0, hzr, hf']
          simp [newRow]
      · refine Trans.new t1.heap _ _ (Keep.allocW _ _ _) (fun b _ hb => ?_) ?_
        · cases hb; exact ⟨Nat.le_refl _, by simp⟩
        · have hxl' : xs.length = len := by rw [hxl, hlen]
          refine ⟨r.toList, by rw [hxl']; exact hrow, ?_, ?_⟩
          rotate_left
          · intro g n cap cur t o e1 hg1
            cases e1
            rw [heap_alloc_new] at hg1
            cases hg1
            refine ⟨[], ?_⟩
            show r.toList.drop _ = []
            rw [hxl']
            exact List.drop_of_length_le (by rw [Array.length_toList, hrs, hmade]; exact Nat.le_refl _)
          rw [hr]
          exact hE.mono fun _ _ => Ty.Enc.mono ⟨fun _ h => h, fun b hb => heap_alloc_old _ _ _ (t1.heap.zlt b hb)⟩ τ
    · cases h
  · cases h


/-! ### Stores -/
theorem EncAll.set {α : Type} {R : α → List Value → Prop} {k : Nat} (hR : ∀ x cs, R x cs → cs.length = k) {x : α} {es : List Value} (hx : R x es) : ∀ (i : Nat) {xs : List α} {cs : List Value}, EncAll R xs cs → i < xs.length → EncAll R (xs.set i x) (splice cs (i * k) es)
  | 0, y :: xs, _, ⟨c1, c2, e, h1, h2⟩, _ => by
    subst e
    refine ⟨es, c2, ?_, hx, h2⟩
    unfold splice
    rw [Nat.zero_mul, List.take_zero, Nat.zero_add, hR _ _ hx, ← hR _ _ h1, List.drop_left]; rfl
  | i + 1, y :: xs, _, ⟨c1, c2, e, h1, h2⟩, hi => by
    subst e
    have ih := EncAll.set hR hx i h2 (by simpa using hi)
    refine ⟨c1, splice c2 (i * k) es, ?_, h1, ih⟩
    unfold splice
    rw [Nat.add_mul, Nat.one_mul, Nat.add_comm (i * k), ← hR _ _ h1, List.take_length_add_append, show c1.length + i * c1.length + es.length = c1.length + (i * c1.length + es.length) by omega, List.drop_length_add_append]
    simp
  | _, [], _, _, hi => by simp at hi

theorem EncAll.at_ {α : Type} {R : α → List Value → Prop} {k : Nat} (hR : ∀ x cs, R x cs → cs.length = k) (z : α) {i : Nat} {xs : List α} {cs : List Value} (h : EncAll R xs cs) (hi : i < xs.length) : R (xs.getD i z) ((cs.drop (i * k)).take k) := by
  obtain ⟨es, h1, h2⟩ := h.getD hR z i hi
  have hl := hR _ _ h1
  have : es = (cs.drop (i * k)).take k := by
    apply List.ext_getElem?
    intro j
    rw [List.getElem?_take, List.getElem?_drop]
    split
    · rename_i hj
      rw [List.getElem?_eq_getElem (by rw [hl]; exact hj), h2 j _ (List.getElem?_eq_getElem (by rw [hl]; exact hj))]
    · rw [List.getElem?_eq_none (by rw [hl]; omega)]
  rw [← this]; exact h1

/-- A write within an element. -/
theorem splice_elem {cs nv : List Value} {i k off n : Nat} (hl : cs.length = n * k) (hi : i < n) (ho : off + nv.length ≤ k) : splice cs (i * k + off) nv = splice cs (i * k) (splice ((cs.drop (i * k)).take k) off nv) := by
  have hik : i * k + k ≤ cs.length := by rw [hl, ← Nat.succ_mul]; exact Nat.mul_le_mul_right _ hi
  have hA : (cs.take (i * k)).length = i * k := by simp; omega
  have hB : ((cs.drop (i * k)).take k).length = k := by simp; omega
  have hcs : cs = cs.take (i * k) ++ ((cs.drop (i * k)).take k ++ cs.drop (i * k + k)) := by
    rw [← List.drop_drop, List.take_append_drop, List.take_append_drop]
  have h1 := splice_mid (cs.take (i * k)) ((cs.drop (i * k)).take k) (cs.drop (i * k + k)) off nv (by rw [hB]; exact ho)
  rw [hA, ← hcs] at h1
  rw [h1]
  have hsl := splice_length ((cs.drop (i * k)).take k) off nv (by rw [hB]; exact ho)
  show _ = cs.take (i * k) ++ splice ((cs.drop (i * k)).take k) off nv ++ cs.drop (i * k + (splice ((cs.drop (i * k)).take k) off nv).length)
  rw [hsl, hB, List.append_assoc]

/-- What a store of cells does to a block. -/
theorem run_storeCells_block {b o : Nat} {t : TypeId} {cur : Array Value} {nv : List Value} (hg : w.heap[b]? = some (.cells cur t (0, 0))) (hl : o + nv.length ≤ cur.size) (h1 : ∀ u ∈ nv, u.oneCell' = true) :
    ∃ w', (storeCells ⟨b, o, none⟩ nv).run P w = .ok () w' ∧ w'.heap[b]? = some (.cells (splice cur.toList o nv).toArray t (0, 0)) ∧ w'.heap.size = w.heap.size ∧ ∀ L : Nat → Prop, L b → Keep L w w' := by
  have := run_storeCells_at P b o t nv 0 cur w hg (by simpa using hl) h1
  simp only [Nat.add_zero] at this
  refine ⟨_, this, setRow_heap w b cur _ t _ hg, by simp, fun L hL => ⟨rfl, rfl, rfl, by simp, fun k _ hk => setRow_other w b k _ fun e => hk (e ▸ hL)⟩⟩

theorem run_storeAt {t : TypeId} {agg : Bool} {sz : Nat} (hk : kindOf P t = some (agg, sz)) {b o : Nat} {a : Value} (ha : a.cells.size = sz) {w' : World} (hr : (storeCells ⟨b, o, none⟩ a.cells.toList).run P w = .ok () w') :
    (Instr.storeAt t (.pointer (some ⟨b, o, none⟩)) a).run P w = .ok () w' := by
  obtain ⟨_, hs⟩ := kindOf_one (P := P) (w := w) hk
  simp only [Instr.storeAt, Instr.sureAddr, Sem.run_bind, Sem.run_pure, Result.andThen_ok, storeVar, hs, ha]
  simp [hr]

theorem runAt_split {off m : Nat} {cs : List BV} {τ : Ty} {xs : List τ.D} {vs : List Value} (h : runAt off cs = some (m, ⟨τ, xs⟩)) (hc : ConcL β Z w cs vs) :
    xs.length = m ∧ ∃ A B C, vs = A ++ (B ++ C) ∧ A.length = off ∧ B.length = m * τ.wd ∧ EncAll (τ.Enc Z w) xs B := by
  unfold runAt at h
  split at h
  · rename_i hd
    cases h
    obtain ⟨a, b, e, hl, hb⟩ := dropW_conc hd hc
    obtain ⟨v1, v2, e2, h1, h2⟩ := hb
    subst hl e e2
    exact ⟨h1.1, a, v1, v2, rfl, rfl, by rw [EncAll.length (fun _ _ => Ty.Enc.length τ) h1.2, h1.1], h1.2⟩
  · cases h

theorem patchRun_conc {off m : Nat} {cs cs' : List BV} {τ : Ty} {xs : List τ.D} {A B B' C : List Value} (h : patchRun off m τ xs cs = some cs') (hc : ConcL β Z w cs (A ++ (B ++ C))) (hA : A.length = off) (hB : B.length = m * τ.wd) (hm : xs.length = m) (hx : EncAll (τ.Enc Z w) xs B') :
    ConcL β Z w cs' (A ++ (B' ++ C)) := by
  unfold patchRun at h
  split at h
  · rename_i a b ha hb
    cases h
    obtain ⟨u1, u2, e1, l1, c1⟩ := takeW_conc ha hc
    obtain ⟨u3, u4, e2, l2, c2⟩ := dropW_conc hb hc
    have hu1 : u1 = A := (List.append_inj e1 (by rw [l1, hA])).1.symm
    have hu4 : u4 = C := by
      rw [← List.append_assoc] at e2
      exact (List.append_inj e2 (by rw [l2, List.length_append, hA, hB])).2.symm
    subst hu1 hu4
    exact c1.app ⟨B', u4, rfl, ⟨hm, hx⟩, c2⟩
  · cases h

theorem storeAt_does (hh : HeapOK β H Z w) {t : TypeId} {agg : Bool} {sz : Nat} (hk : kindOf P t = some (agg, sz)) {p : BV} {news : List BV} {x a : Value} (hp : p.conc β Z w [x]) (hn : ConcL β Z w news a.cells.toList) {obs : List Prop} {H' : List AObj}
    (h : storeAt P H sz p news = some (obs, H')) (ho : ∀ q ∈ obs, q) : ∃ w' Z', (Instr.storeAt t x a).run P w = .ok () w' ∧ Trans β H Z w β H' Z' w' := by
  have hones := hn.ones
  unfold storeAt at h
  split at h
  · rename_i n off
    split at h
    · rename_i tt cs hob
      split at h
      · rename_i cs' hw hpa
        cases h
        have hw := Nat.eq_of_beq_eq_true hw
        obtain ⟨b, hb, e⟩ := hp; cases e
        have hget := objAt_get hob (by simp)
        obtain ⟨b', vs, e, h1, h2⟩ := hh.objs n _ _ hget hb
        cases e
        obtain ⟨c1, c2⟩ := patchW_conc hpa hn h2
        obtain ⟨w', r1, r2, r3, r4⟩ := run_storeCells_block (P := P) h1 (by simpa using c2) hones
        refine ⟨w', Z, run_storeAt hk (by rw [← Array.length_toList, hn.length, hw]) r1, ?_⟩
        have k := r4 (fun b' => (AObj.cells tt cs).live = true ∧ blockOf (.pointer (some ⟨b, 0, none⟩)) = some b') ⟨rfl, rfl⟩
        refine Trans.upd hh hget hb (.inl rfl) k r3 ⟨b, _, rfl, r2, ?_⟩
        have kz : ZKeep Z Z w w' := hh.zkeep (k.mono fun q hq => ⟨n, _, _, hget, hq.1, hb, hq.2⟩) fun _ h => h
        have := c1.mono (ext := []) kz
        simpa using this
      · cases h
    · cases h
  · rename_i n wd i off
    split at h
    · rename_i e τ xs hob
      split at h
      rename_i news' H1 hf
      split at h
      · rename_i e' τ' xs' hob1
        split at h
        · rename_i cs hw hsz hpa
          split at h
          · rename_i y hy
            cases h
            have hw := Nat.eq_of_beq_eq_true hw
            have hsz := Nat.eq_of_beq_eq_true hsz
            subst hw
            have hi : i < xs'.length := ho _ (.head _)
            obtain ⟨Z1, t1, k1⟩ := frzGo_conc news H Z _ hh hn
            rw [hf] at t1 k1
            obtain ⟨b, m, c, hb, ee⟩ := hp; cases ee
            have hget := objAt_get hob1 (by simp)
            obtain ⟨vs, g1, g2, g3⟩ := t1.heap.objs n _ _ hget hb
            rcases g1.2 with ⟨e1, e2⟩ | ⟨g, cap, cur, e1, q1, q2, q3, q4, q5, q6⟩
            · cases e1
            · cases e1
              have hel := g2.at_ (fun _ _ => Ty.Enc.length τ') τ'.zero hi
              obtain ⟨c1, c2⟩ := patchW_conc (β := β) hpa k1 (enc_conc τ' hel)
              rw [Ty.Enc.length _ hel] at c2
              have hy' := dec_conc hy c1
              have hset := EncAll.set (R := τ'.Enc Z1 w) (x := y) (fun _ _ => Ty.Enc.length τ') hy' i g2 hi
              rw [← splice_elem g1.1 hi c2] at hset
              have hbound : i * τ'.wd + off + a.cells.toList.length ≤ xs'.length * τ'.wd := by
                have : (i + 1) * τ'.wd ≤ xs'.length * τ'.wd := Nat.mul_le_mul_right _ hi
                rw [Nat.add_mul, Nat.one_mul] at this
                omega
              have hcap : xs'.length * τ'.wd ≤ c * τ'.wd := Nat.mul_le_mul_right _ q3
              obtain ⟨w', r1, r2, r3, r4⟩ := run_storeCells_block (P := P) (o := i * τ'.wd + off) q2 (by rw [q5]; omega) hones
              refine ⟨w', Z1, run_storeAt hk (by rw [← Array.length_toList, k1.length, hsz]) r1, t1.trans ?_⟩
              have k := r4 (fun b' => (AObj.row e' τ' xs').live = true ∧ blockOf (.slice (some ⟨b, 0, none⟩) xs'.length c) = some b') ⟨rfl, rfl⟩
              refine Trans.upd t1.heap hget hb (.inl rfl) k r3 ⟨splice vs (i * τ'.wd + off) a.cells.toList, ?_, ?_, ?_⟩
              · rw [List.length_set]
                refine ⟨by rw [splice_length _ _ _ (by rw [g1.1]; exact hbound)]; exact g1.1, .inr ⟨b, c, _, rfl, q1, r2, q3, q4, ?_, ?_⟩⟩
                · rw [List.size_toArray, splice_length _ _ _ (by rw [← q5] at hcap; rw [Array.length_toList]; exact Nat.le_trans hbound hcap), Array.length_toList, q5]
                · have hcl : cur.toList.length = c * τ'.wd := by simpa using q5
                  show (splice cur.toList _ _).take _ = _
                  rw [← q6]
                  exact splice_take hbound (by rw [hcl]; exact hcap)
              · have kz : ZKeep Z1 Z1 w w' := t1.heap.zkeep (k.mono fun q hq => ⟨n, _, _, hget, hq.1, hb, hq.2⟩) fun _ h => h
                exact hset.mono fun _ _ => Ty.Enc.mono kz τ'
              · have kz : ZKeep Z1 Z1 w w' := t1.heap.zkeep (k.mono fun q hq => ⟨n, _, _, hget, hq.1, hb, hq.2⟩) fun _ h => h
                intro g n' cap cur' t o e1 hg1
                cases e1
                rw [r2] at hg1
                cases hg1
                obtain ⟨js, hj⟩ := g3 _ _ _ _ _ _ rfl q2
                refine ⟨js, ?_⟩
                rw [List.length_set]
                have : (splice cur.toList (i * τ'.wd + off) a.cells.toList).drop (xs'.length * τ'.wd) = cur.toList.drop (xs'.length * τ'.wd) := by
                  have hcl : cur.toList.length = c * τ'.wd := by simpa using q5
                  exact splice_drop hbound (by rw [hcl]; exact hcap)
                show EncAll _ js ((splice cur.toList _ _).drop _)
                rw [this]
                exact hj.mono fun _ _ => Ty.Enc.mono kz τ'
          · cases h
        · cases h
      · cases h
    · cases h
  · rename_i n off m wd i o
    split at h
    · rename_i tt cs hob
      split at h
      · rename_i m' τ xs hrun
        split at h
        · rename_i es hw hm hsz hpa
          split at h
          · rename_i y hy
            split at h
            · rename_i cs' hpr
              cases h
              have hw := Nat.eq_of_beq_eq_true hw
              have hsz := Nat.eq_of_beq_eq_true hsz
              have hm := Nat.eq_of_beq_eq_true hm
              subst hw hm
              have hi : i < m := ho _ (.head _)
              obtain ⟨b, hb, e⟩ := hp; cases e
              have hget := objAt_get hob (by simp)
              obtain ⟨b', vs, e, h1, h2⟩ := hh.objs n _ _ hget hb
              cases e
              obtain ⟨hxl, A, B, C, hvs, hA, hB, hE⟩ := runAt_split hrun h2
              have hi' : i < xs.length := by rw [hxl]; exact hi
              have hel := hE.at_ (fun _ _ => Ty.Enc.length τ) τ.zero hi'
              obtain ⟨c1, c2⟩ := patchW_conc (β := β) hpa hn (enc_conc τ hel)
              rw [Ty.Enc.length _ hel] at c2
              have hy' := dec_conc hy c1
              have hset := EncAll.set (R := τ.Enc Z w) (x := y) (fun _ _ => Ty.Enc.length τ) hy' i hE hi'
              have hbound : i * τ.wd + o + a.cells.toList.length ≤ B.length := by
                have : (i + 1) * τ.wd ≤ m * τ.wd := Nat.mul_le_mul_right _ hi
                rw [Nat.add_mul, Nat.one_mul] at this
                omega
              rw [← splice_elem hB hi c2] at hset
              have hmid := splice_mid A B C (i * τ.wd + o) a.cells.toList hbound
              obtain ⟨w', r1, r2, r3, r4⟩ := run_storeCells_block (P := P) (o := off + i * τ.wd + o) h1 (by rw [← Array.length_toList, hvs]; simp only [List.length_append]; omega) hones
              refine ⟨w', Z, run_storeAt hk (by rw [← Array.length_toList, hn.length, hsz]) r1, ?_⟩
              have k := r4 (fun b' => (AObj.cells tt cs).live = true ∧ blockOf (.pointer (some ⟨b, 0, none⟩)) = some b') ⟨rfl, rfl⟩
              have c3 := patchRun_conc hpr (by rw [← hvs]; exact h2) hA hB (by rw [List.length_set]; exact hxl) hset
              rw [← hmid, hA, ← hvs, ← Nat.add_assoc] at c3
              refine Trans.upd hh hget hb (.inl rfl) k r3 ⟨b, _, rfl, r2, ?_⟩
              have kz : ZKeep Z Z w w' := hh.zkeep (k.mono fun q hq => ⟨n, _, _, hget, hq.1, hb, hq.2⟩) fun _ h => h
              have := c3.mono (ext := []) kz
              simpa using this
            · cases h
          · cases h
        · cases h
      · cases h
    · cases h
  · cases h

theorem store_does (hh : HeapOK β H Z w) (t : TypeId) (p v : TV) (x a : Value) (hp : p.conc β Z w x) (hv : v.conc β Z w a) : Does P β H Z w (runsU P (Instr.storeAt t x a)) (storeStep P H t p v) := by
  intro obs r H' h ho
  unfold storeStep at h
  split at h
  · rename_i agg sz p hk
    split at h
    · rename_i cs H1 hs
      split at h
      · rename_i obs' H2 hst
        cases h
        obtain ⟨β1, t1, hc⟩ := shapeOf_conc hs hh (TV.cells_conc hv)
        obtain ⟨w', Z', hr, t2⟩ := storeAt_does (P := P) t1.heap hk (hp.trans hh t1) hc hst ho
        exact ⟨undef, w', β1, Z', ⟨hr, rfl⟩, t1.trans t2, trivial⟩
      · cases h
    · cases h
  · cases h

end

end Go.Proofs.Ythjogeodclpafaa.AM
end

section
set_option linter.unusedVariables false
set_option linter.unusedSimpArgs false
namespace Go.Proofs.Ythjogeodclpafaa.AM
open Go

section
variable {P : Program} {β : List Value} {Z : Nat → Prop} {w : World} {H : List AObj}

theorem append_run {t e : TypeId} {τ : Ty} {bytes : Nat} (he : elemOf? P t = some (e, τ, bytes)) (hz : zeroOK P e (aggOf P e) τ = true) (ty : TypeId) {v x : Value} {n : Nat} {cs : List Value} (hown : w.ownsRow 0 e τ.wd v n cs) {ys : List τ.D} (hx : ReadsL w (EncAll (τ.Enc Z w) ys) ys.length x)
    (hb : ((n + ys.length : Nat) : Int) * bytes ≤ 140737488355328) (hn : ((n + ys.length : Nat) : Int) ≤ 140737488355328) (hsp : Spare τ Z w v (n * τ.wd)) :
    ∃ v' w' news, (Builtin.append_ #[t, t] ty #[v, x]).run P w = .ok v' w' ∧ w'.ownsRow 0 e τ.wd v' (n + ys.length) (cs ++ news) ∧ EncAll (τ.Enc Z w) ys news ∧ w.grownBy w' v.ownBlock ∧ (∀ b, blockOf v' = some b → blockOf v = some b ∨ w.heap.size ≤ b) ∧
      ∀ (g m cap : Nat) (cur : Array Value) (t : TypeId) (o : Nat × Nat), v' = .slice (some ⟨g, 0, none⟩) m cap → w'.heap[g]? = some (.cells cur t o) → ∃ js, EncAll (τ.Enc Z w) js (cur.toList.drop ((n + ys.length) * τ.wd)) := by
  obtain ⟨hu, _, inf, hin, hsz, hne, hby⟩ := elemOf_spec he
  obtain ⟨i', z, hi', hiz, hzr, _, hzc, hze⟩ := zeroOK_spec (Z := Z) (w := w) hz
  rw [hin] at hi'; cases hi'
  have hzs : z.cells.size = τ.wd := by rw [← Array.length_toList, hzc, Ty.Enc.length _ hze]
  obtain ⟨A, c, news, rfl, q1, q2, q3, q4⟩ := hx
  have hnl := EncAll.length (fun _ _ => Ty.Enc.length τ) q3
  have hb' : (n + ys.length) * bytes ≤ 140737488355328 := by
    have h : (((n + ys.length) * bytes : Nat) : Int) ≤ 140737488355328 := by rw [Int.natCast_mul]; exact hb
    omega
  cases A with
  | none =>
    have hy : ys = [] := by
      cases ys with
      | nil => rfl
      | cons y ys => obtain ⟨ad, e1, _⟩ := q4 (by simp); cases e1
    subst hy
    have hn0 : news = [] := q3
    subst hn0
    refine ⟨v, w, [], ?_, by simpa using hown, rfl, ⟨rfl, rfl, rfl, Nat.le_refl _, fun _ _ _ => rfl⟩, fun b hb => .inl hb, hsp⟩
    rcases hown.2 with ⟨rfl, rfl⟩ | ⟨g, cap, cur, rfl, _, hg, h1, h2, _⟩
    · simp [Builtin.append_, run_underlying hu, sizeOf, typeInfo, hin, Builtin.lenOf, Builtin.firstCells]
    · have h1' : n ≤ cap := h1
      simp [Builtin.append_, run_underlying hu, sizeOf, typeInfo, hin, Builtin.lenOf, Builtin.firstCells, h1', storeCells]
  | some ad =>
    have hnews : ∀ j u, news[j]? = some u → w.cell? (ad.add j) = some u := by
      intro j u hj
      by_cases hy : ys.length = 0
      · rw [hy, Nat.zero_mul] at hnl
        have := List.eq_nil_of_length_eq_zero hnl
        subst this; simp at hj
      · obtain ⟨ad', e1, _, h⟩ := q4 hy
        cases e1
        exact h j u hj
    obtain ⟨v', w', hr, ho, hg, _⟩ := run_append_own (P := P) w 0 t ty e inf z τ.wd bytes hu hin hiz hsz hby hzs (by omega) v n cs hown ad ys.length c news hnl hnews (EncAll.one (fun _ _ => Ty.Enc.one τ) q3)
      (by unfold maxLen; omega) hb' (Nat.zero_le _)
    have hnl' : news.length = ys.length * inf.size := by rw [hsz]; exact hnl
    have hzero : ∀ k, EncAll (τ.Enc Z w) (List.replicate k τ.zero) (Builtin.zeroCells z.cells k).toList := fun k => by
      have h1 : (Builtin.zeroCells z.cells k).toList = (madeCells z.cells (k * τ.wd)).toList := by
        unfold Builtin.zeroCells madeCells; rw [hzs]
      rw [h1, made_replicate z.cells τ.wd hzs k, hzc]
      exact EncAll.replicate hze k
    have hzdrop : ∀ (olds : List Value) (k : Nat), olds.length = (n + ys.length) * τ.wd → ∃ js, EncAll (τ.Enc Z w) js ((olds ++ (Builtin.zeroCells z.cells k).toList).drop ((n + ys.length) * τ.wd)) := fun olds k hl => by
      rw [← hl, List.drop_left]
      exact ⟨_, hzero k⟩
    suffices hboth : (∀ b, blockOf v' = some b → blockOf v = some b ∨ w.heap.size ≤ b) ∧ ∀ (g m cap : Nat) (cur : Array Value) (t : TypeId) (o : Nat × Nat), v' = .slice (some ⟨g, 0, none⟩) m cap → w'.heap[g]? = some (.cells cur t o) → ∃ js, EncAll (τ.Enc Z w) js (cur.toList.drop ((n + ys.length) * τ.wd)) from
      ⟨v', w', news, hr, ho, q3, hg, hboth⟩
    rcases hown.2 with ⟨rfl, rfl⟩ | ⟨g, cap, cur, rfl, _, hgg, h1, h2, h3, _⟩
    · by_cases h0 : ys.length = 0
      · have hl0 : news = [] := List.eq_nil_of_length_eq_zero (by rw [hnl, h0, Nat.zero_mul])
        have : (Builtin.append_ #[t, t] ty #[.slice none 0 0, .slice (some ad) ys.length c]).run P w = .ok (.slice none 0 0) w := by
          simp [Builtin.append_, run_underlying hu, sizeOf, typeInfo, hin, Builtin.lenOf, Builtin.firstCells, h0, loadCells, loadCellsFrom]
        have := hr.symm.trans this
        cases this
        exact ⟨(fun b hbb => by cases hbb), (fun _ _ _ _ _ _ e => by cases e)⟩
      · have := run_append_nil (P := P) w t ty e inf z hu hin hiz ad ys.length c news hnl' hnews (by omega) (by omega) (by rw [hby]; simp only [Nat.zero_add] at hb'; omega)
        have := hr.symm.trans this
        cases this
        refine ⟨fun b hbb => ?_, fun g m cap cur t' o e1 e2 => ?_⟩
        · cases hbb
          exact .inr (Nat.le_refl _)
        · cases e1
          rw [show w.heap.size = w.drew.heap.size from rfl, heap_alloc_new] at e2
          cases e2
          rw [Array.toList_append]
          exact hzdrop news _ (by rw [Nat.zero_add]; exact hnl)
    · by_cases hroom : n + ys.length ≤ cap
      · have hfit : n * inf.size + news.length ≤ cur.size := by rw [hnl', h3, hsz, ← Nat.add_mul]; exact Nat.mul_le_mul_right _ hroom
        have := run_append_room (P := P) w t ty e inf hu hin g n cap cur hgg ad ys.length c news hnl' hnews (EncAll.one (fun _ _ => Ty.Enc.one τ) q3) hroom hfit
        have := hr.symm.trans this
        cases this
        refine ⟨fun b hbb => ?_, fun g' m cap' cur' t' o e1 e2 => ?_⟩
        · cases hbb
          exact .inl rfl
        · cases e1
          rw [setRow_heap w g cur _ e _ hgg] at e2
          cases e2
          obtain ⟨js, hj⟩ := hsp g n cap cur _ _ rfl hgg
          refine ⟨js.drop ys.length, ?_⟩
          have hd := hj.drop (fun _ _ => Ty.Enc.length τ) ys.length
          rw [List.drop_drop] at hd
          have hlen : (cur.toList.take (n * inf.size) ++ news).length = (n + ys.length) * τ.wd := by
            rw [List.length_append, List.length_take, Array.length_toList, hnl, hsz, Nat.add_mul]
            rw [hsz] at hfit
            omega
          show EncAll _ _ ((cur.toList.take (n * inf.size) ++ news ++ cur.toList.drop (n * inf.size + news.length)).drop _)
          rw [← hlen, List.drop_left, hnl, hsz]
          exact hd
      · have := run_append_grow (P := P) w t ty e inf z hu hin hiz ⟨g, 0, none⟩ n cap cs (by rw [hsz]; exact hown.1) (hown.cells (g := g) rfl) ad ys.length c news hnl' hnews (by omega) (by omega) (growslice_fits (by omega) (by rw [hby]; exact hb'))
        have := hr.symm.trans this
        cases this
        refine ⟨fun b hbb => ?_, fun g' m cap' cur' t' o e1 e2 => ?_⟩
        · cases hbb
          exact .inr (Nat.le_refl _)
        · cases e1
          rw [show w.heap.size = w.drew.heap.size from rfl, heap_alloc_new] at e2
          cases e2
          rw [Array.toList_append, Array.toList_append]
          exact hzdrop (cs ++ news) _ (by rw [List.length_append, hown.1, hnl, Nat.add_mul])

theorem owns_form {v : Value} {e : TypeId} {k n : Nat} {cs : List Value} (h : w.ownsRow 0 e k v n cs) : ∃ A c, v = .slice A n c := by
  rcases h.2 with ⟨rfl, rfl⟩ | ⟨g, cap, cur, rfl, _⟩
  · exact ⟨_, _, rfl⟩
  · exact ⟨_, _, rfl⟩

theorem ownBlock_of {v : Value} {e : TypeId} {k n : Nat} {cs : List Value} (h : w.ownsRow 0 e k v n cs) : v.ownBlock = blockOf v := by
  rcases h.2 with ⟨rfl, rfl⟩ | ⟨g, cap, cur, rfl, _⟩ <;> rfl

theorem append_does (hh : HeapOK β H Z w) (ts : Array TypeId) (ty : TypeId) (s x : BV) (a b : Value) (ha : s.conc β Z w [a]) (hb : x.conc β Z w [b]) : Does P β H Z w (runsV P (Builtin.append_ ts ty #[a, b])) (appendStep P H ts.toList s x) := by
  intro obs r H' h ho
  unfold appendStep at h
  split at h
  · rename_i t t' hts
    have hts' : ts = #[t, t'] := by rw [← Array.toArray_toList (xs := ts), hts]
    split at h
    · rename_i e τ bytes htt he
      have htt := Nat.eq_of_beq_eq_true htt
      subst htt hts'
      split at h
      · rename_i ys hz hl
        have hx := listOf_conc hh.objsOK hl hb
        split at h
        · rename_i n
          split at h
          · rename_i e' τ' xs hob
            split at h
            · rename_i q _ hee
              have hee := Nat.eq_of_beq_eq_true hee
              subst q hee
              cases h
              obtain ⟨A, m, c, hbn, ee⟩ := ha
              cases ee
              have hget := objAt_get hob (by simp)
              obtain ⟨cs, h1, h2, h3⟩ := hh.objs n _ _ hget hbn
              obtain ⟨v', w', news, hr, hown, hE, hg, hblk, hspn⟩ := append_run (P := P) he hz ty h1 hx (ho _ (.head _)) (ho _ (.tail _ (.head _))) h3
              have hob' := ownBlock_of h1
              have k : Keep (fun b => blockOf (.slice A m c) = some b) w w' := ⟨hg.os, hg.tape, hg.output, hg.size, fun b hb hn => hg.block b hb fun e => hn (by rw [← hob', ← e])⟩
              have kz : ZKeep Z Z w w' := hh.zkeep (k.mono fun q hq => ⟨n, _, _, hget, rfl, hbn, hq⟩) fun _ h => h
              obtain ⟨A', c', rfl⟩ := owns_form hown
              refine ⟨_, w', _, Z, hr, Trans.regrow hh hget rfl hbn k hblk (fun b hb => owns_lt hown hb) ⟨_, ?_, ((h2.app hE).mono fun _ _ => Ty.Enc.mono kz _), fun g m' cap cur t' o e1 e2 => ?_⟩, _, _, _, last_name hh _, rfl⟩
              rotate_left
              · obtain ⟨js, hj⟩ := hspn g m' cap cur t' o e1 e2
                exact ⟨js, by simpa [castL] using hj.mono fun _ _ => Ty.Enc.mono kz _⟩
              simpa [castL] using hown
            · cases h
          · cases h
        · cases h
          have ha' : a = .slice none 0 0 := by simpa [BV.conc] using ha
          subst ha'
          obtain ⟨v', w', news, hr, hown, hE, hg, hblk, hspn⟩ := append_run (P := P) he hz ty (World.ownsRow_nil w 0 e τ.wd) hx (by simpa using ho _ (.head _)) (by simpa using ho _ (.tail _ (.head _))) (fun _ _ _ _ _ _ e => by cases e)
          have k : Keep (fun _ => False) w w' := ⟨hg.os, hg.tape, hg.output, hg.size, fun b hb _ => hg.block b hb (by simp [Value.ownBlock])⟩
          have kz : ZKeep Z Z w w' := hh.zkeep (k.mono fun _ h => h.elim) fun _ h => h
          obtain ⟨A', c', rfl⟩ := owns_form hown
          refine ⟨_, w', _, Z, hr, Trans.new hh _ _ k (fun b _ hb => ⟨?_, owns_lt hown hb⟩) ⟨_, ?_, hE.mono fun _ _ => Ty.Enc.mono kz _, fun g m' cap cur t' o e1 e2 => ?_⟩, _, _, _, last_name hh _, rfl⟩
          rotate_right
          · obtain ⟨js, hj⟩ := hspn g m' cap cur t' o e1 e2
            exact ⟨js, by simpa using hj.mono fun _ _ => Ty.Enc.mono kz _⟩
          · rcases hblk b hb with h | h
            · cases h
            · exact h
          · simpa using hown
        · cases h
      · cases h
    · cases h
  · cases h


/-! ### Maps -/
theorem eqb_same {κ : Ty} {kd : TypeDesc} (hd : (∃ k, κ = .int k ∧ kd = .int k) ∨ (κ = .str ∧ kd = .string)) {a b : κ.D} {u v : Value} (ha : κ.Enc Z w a [u]) (hb : κ.Enc Z w b [v]) :
    Instr.sameNow kd u v = some (κ.eqb a b) ∧ (κ.eqb a b = true → Instr.sameBits 10000 v u = true) := by
  rcases hd with ⟨q, rfl, rfl⟩ | ⟨rfl, rfl⟩
  · have a1 : u = .int q a := by simpa [Ty.Enc] using ha
    have a2 : v = .int q b := by simpa [Ty.Enc] using hb
    rw [a1, a2]
    refine ⟨by simp [Instr.sameNow, Ty.eqb], fun h => ?_⟩
    have h' : a = b := by simpa [Ty.eqb] using h
    subst h'
    simp [Instr.sameBits]
  · have a1 : u = .string a := by simpa [Ty.Enc] using ha
    have a2 : v = .string b := by simpa [Ty.Enc] using hb
    rw [a1, a2]
    refine ⟨by simp [Instr.sameNow, Ty.eqb, beq_toListBytes], fun h => ?_⟩
    have h' : (show ByteArray from a).toList = (show ByteArray from b).toList := by simpa [Ty.eqb] using h
    simp [Instr.sameBits, beq_toListBytes, h']

theorem map_put {κ τ : Ty} {agg : Bool} {kd : TypeDesc} (hd : (∃ k, κ = .int k ∧ kd = .int k) ∨ (κ = .str ∧ kd = .string)) {key : κ.D} {kv : Value} (hk : κ.Enc Z w key [kv]) {x : τ.D} {v : Value} (hv : ∃ cv, v = valOf agg cv ∧ τ.Enc Z w x cv) :
    ∀ (es : List (κ.D × τ.D)) (ms : List MapEntry) (i : Nat), MapEnc agg Z w es ms →
      (∃ idx e v0, Instr.findNow kd kv ms i = some (some (i + idx, v0)) ∧ ms[idx]? = some e ∧ Instr.sameBits 10000 e.key kv = true ∧ MapEnc agg Z w (mapPut key x es) (ms.modify idx fun e => { e with key := kv, val := v })) ∨
      (Instr.findNow kd kv ms i = some none ∧ ∀ c, MapEnc agg Z w (mapPut key x es) (ms ++ [{ key := kv, val := v, born := c }]))
  | [], ms, i, h => by
    simp only [MapEnc] at h; subst h
    exact .inr ⟨rfl, fun c => ⟨_, [], rfl, hk, hv, rfl⟩⟩
  | (k, y) :: r, ms, i, ⟨e, ms', h, h1, h2, hr⟩ => by
    subst h
    obtain ⟨q1, q2⟩ := eqb_same hd hk h1
    cases hq : κ.eqb key k with
    | true =>
      rw [hq] at q1
      refine .inl ⟨0, e, e.val, by simp only [Instr.findNow, q1]; rfl, rfl, q2 hq, ?_⟩
      simp only [mapPut, hq]
      exact ⟨{ e with key := kv, val := v }, ms', rfl, hk, hv, hr⟩
    | false =>
      rw [hq] at q1
      rcases map_put hd hk hv r ms' (i + 1) hr with ⟨idx, e', v0, g1, g2, g3, g4⟩ | ⟨g1, g2⟩
      · refine .inl ⟨idx + 1, e', v0, by simp only [Instr.findNow, q1, g1]; rw [show i + 1 + idx = i + (idx + 1) by omega], by simpa using g2, g3, ?_⟩
        simp only [mapPut, hq]
        exact ⟨e, _, by simp, h1, h2, g4⟩
      · refine .inr ⟨by simp only [Instr.findNow, q1, g1], fun c => ?_⟩
        simp only [mapPut, hq]
        exact ⟨e, _, by simp, h1, h2, g2 c⟩

theorem map_del {κ τ : Ty} {agg : Bool} {kd : TypeDesc} (hd : (∃ k, κ = .int k ∧ kd = .int k) ∨ (κ = .str ∧ kd = .string)) {key : κ.D} {kv : Value} (hk : κ.Enc Z w key [kv]) :
    ∀ (es : List (κ.D × τ.D)) (ms : List MapEntry) (i : Nat), MapEnc agg Z w es ms →
      (∃ idx v0, Instr.findNow kd kv ms i = some (some (i + idx, v0)) ∧ MapEnc agg Z w (mapDel key es) (ms.eraseIdx idx)) ∨
      (Instr.findNow kd kv ms i = some none ∧ MapEnc agg Z w (mapDel key es) ms)
  | [], ms, i, h => by
    simp only [MapEnc] at h; subst h
    exact .inr ⟨rfl, rfl⟩
  | (k, y) :: r, ms, i, ⟨e, ms', h, h1, h2, hr⟩ => by
    subst h
    obtain ⟨q1, q2⟩ := eqb_same hd hk h1
    cases hq : κ.eqb key k with
    | true =>
      rw [hq] at q1
      refine .inl ⟨0, e.val, by simp only [Instr.findNow, q1]; rfl, ?_⟩
      simp only [mapDel, hq]
      exact hr
    | false =>
      rw [hq] at q1
      rcases map_del hd hk r ms' (i + 1) hr with ⟨idx, v0, g1, g4⟩ | ⟨g1, g2⟩
      · refine .inl ⟨idx + 1, v0, by simp only [Instr.findNow, q1, g1]; rw [show i + 1 + idx = i + (idx + 1) by omega], ?_⟩
        simp only [mapDel, hq]
        exact ⟨e, _, by simp, h1, h2, g4⟩
      · refine .inr ⟨by simp only [Instr.findNow, q1, g1], ?_⟩
        simp only [mapDel, hq]
        exact ⟨e, _, rfl, h1, h2, g2⟩

theorem keyTy_desc {kt : TypeId} {κ : Ty} (h : keyTy P kt = some κ) : ∃ d, P.underlying kt = some d ∧ ((∃ k, κ = .int k ∧ d = .int k) ∨ (κ = .str ∧ d = .string)) ∧ ∀ em v w, (Instr.checkKey em 10000 kt v).run P w = .ok () w := by
  rcases keyTy_spec h with ⟨q, e, h'⟩ | ⟨e, h'⟩
  · exact ⟨_, h', .inl ⟨q, e, rfl⟩, fun em v w => checkKey_ok em 9999 kt v (.inl ⟨q, h'⟩)⟩
  · exact ⟨_, h', .inr ⟨e, rfl⟩, fun em v w => checkKey_ok em 9999 kt v (.inr h')⟩

theorem decOne_conc {κ : Ty} {k : TV} {key : κ.D} {b : Value} (h : κ.decOne k = some key) (hb : k.conc β Z w b) : κ.Enc Z w key [b] := by
  cases k with
  | one kv => exact dec_conc (β := β) h (show ConcL β Z w [kv] [b] from ⟨[b], [], rfl, hb, rfl⟩)
  | agg cs => cases h

theorem decAgg_conc {τ : Ty} {agg : Bool} {v : TV} {x : τ.D} {b : Value} (h : τ.decAgg agg v = some x) (hb : v.conc β Z w b) : ∃ cv, b = valOf agg cv ∧ τ.Enc Z w x cv := by
  unfold Ty.decAgg at h
  split at h
  · obtain ⟨vs, rfl, hc⟩ := hb
    exact ⟨vs.toList, by simp [valOf], dec_conc h hc⟩
  · exact ⟨[b], rfl, dec_conc (β := β) h (show ConcL β Z w [_] [b] from ⟨[b], [], rfl, hb, rfl⟩)⟩
  · cases h

theorem setMap_trans (hh : HeapOK β H Z w) {n b : Nat} {o : AObj} (ho : H[n]? = some o) (hl : o.live = true) (hb : β[n]? = some (.map (some b))) {ms : Array MapEntry} {c : Nat} (hg : w.heap[b]? = some (.map ms c)) (ms' : Array MapEntry) (c' : Nat) {agg : Bool} {κ τ : Ty} {es' : List (κ.D × τ.D)}
    (hm : MapEnc agg Z w es' ms'.toList) : (setObj b (.map ms' c')).run P w = .ok () { w with heap := w.heap.setIfInBounds b (.map ms' c') } ∧ Trans β H Z w β (H.set n (.map agg κ τ es')) Z { w with heap := w.heap.setIfInBounds b (.map ms' c') } := by
  have hlt := (Array.getElem?_eq_some_iff.1 hg).1
  refine ⟨by simp [setObj, Sem.run, hg], ?_⟩
  have k : Keep (fun q => o.live = true ∧ blockOf (.map (some b)) = some q) w { w with heap := w.heap.setIfInBounds b (.map ms' c') } :=
    ⟨rfl, rfl, rfl, by simp, fun q _ hq => by
      show (w.heap.setIfInBounds b _)[q]? = _
      rw [Array.getElem?_setIfInBounds_ne (fun e => hq ⟨hl, by rw [e]; rfl⟩)]⟩
  have kz : ZKeep Z Z w { w with heap := w.heap.setIfInBounds b (.map ms' c') } := hh.zkeep (k.mono fun q hq => ⟨n, o, _, ho, hq.1, hb, hq.2⟩) fun _ h => h
  refine Trans.upd hh ho hb (.inl hl) k (by simp) ⟨b, ms', c', rfl, ?_, hm.mono kz⟩
  show (w.heap.setIfInBounds b _)[b]? = _
  simp [hlt]

theorem mapUpdate_does (hh : HeapOK β H Z w) (t : TypeId) (m k v : TV) (a b c : Value) (ha : m.conc β Z w a) (hb : k.conc β Z w b) (hc : v.conc β Z w c) : Does P β H Z w (runsU P (Instr.mapUpdate t a b c)) (mapUpdateStep P H t m k v) := by
  intro obs r H' h ho
  unfold mapUpdateStep at h
  split at h
  · rename_i kt et n hu
    split at h
    · rename_i agg κ τ es κ' hn hkt
      split at h
      · rename_i q key x _ hdec hx
        subst q
        cases h
        obtain ⟨bb, hbb, e⟩ := ha; cases e
        have hget := objAt_get hn (by simp)
        obtain ⟨b', ms, clock, e, hheap, hm⟩ := hh.objs n _ _ hget hbb
        cases e
        obtain ⟨d, hud, hd, hck⟩ := keyTy_desc hkt
        have hkey := decOne_conc hdec hb
        have hg : (getObj bb).run P w = .ok (.map ms clock) w := by simp [getObj, Sem.run, hheap]
        rcases map_put hd hkey (decAgg_conc hx hc) es ms.toList 0 hm with ⟨idx, e, v0, g1, g2, g3, g4⟩ | ⟨g1, g2⟩
        · rw [Nat.zero_add] at g1
          have hlt : idx < ms.size := by simpa using (List.getElem?_eq_some_iff.1 g2).1
          have hek : ms[idx]? = some e := by simpa using g2
          obtain ⟨r1, r2⟩ := setMap_trans (P := P) hh hget rfl hbb hheap (ms.modify idx fun e => { e with key := b, val := c }) clock (by simpa using g4)
          refine ⟨undef, _, β, Z, ⟨?_, rfl⟩, r2, trivial⟩
          simp [Instr.mapUpdate, run_underlying hu, hg, hck, Instr.findKey, run_underlying hud, g1, Instr.keyThatStays, hek, g3, r1]
        · obtain ⟨r1, r2⟩ := setMap_trans (P := P) hh hget rfl hbb hheap (ms.push { key := b, val := c, born := clock }) (clock + 1) (by simpa using g2 clock)
          refine ⟨undef, _, β, Z, ⟨?_, rfl⟩, r2, trivial⟩
          simp [Instr.mapUpdate, run_underlying hu, hg, hck, Instr.findKey, run_underlying hud, g1, r1]
      · cases h
    · cases h
  · cases h

theorem delete_does (hh : HeapOK β H Z w) (ts : Array TypeId) (ty : TypeId) (m k : TV) (a b : Value) (ha : m.conc β Z w a) (hb : k.conc β Z w b) : Does P β H Z w (runsV P (Builtin.delete_ ts ty #[a, b])) (deleteStep P H ts.toList m k) := by
  intro obs r H' h ho
  unfold deleteStep at h
  split at h
  · rename_i t tr n hts
    have h0 : ts[0]? = some t := by rw [← Array.getElem?_toList, hts]; rfl
    split at h
    · rename_i kt et hu
      split at h
      · rename_i agg κ τ es κ' hn hkt
        split at h
        · rename_i q key _ hdec
          subst q
          cases h
          obtain ⟨bb, hbb, e⟩ := ha; cases e
          have hget := objAt_get hn (by simp)
          obtain ⟨b', ms, clock, e, hheap, hm⟩ := hh.objs n _ _ hget hbb
          cases e
          obtain ⟨d, hud, hd, hck⟩ := keyTy_desc hkt
          have hkey := decOne_conc hdec hb
          have hg : (getObj bb).run P w = .ok (.map ms clock) w := by simp [getObj, Sem.run, hheap]
          rcases map_del hd hkey es ms.toList 0 hm with ⟨idx, v0, g1, g4⟩ | ⟨g1, g2⟩
          · rw [Nat.zero_add] at g1
            obtain ⟨r1, r2⟩ := setMap_trans (P := P) hh hget rfl hbb hheap (ms.eraseIdxIfInBounds idx) clock (by simpa using g4)
            refine ⟨.tuple #[], _, β, Z, ?_, r2, trivial⟩
            simp [runsV, Builtin.delete_, h0, run_underlying hu, hg, hck, Instr.findKey, run_underlying hud, g1, r1]
          · obtain ⟨r1, r2⟩ := setMap_trans (P := P) hh hget rfl hbb hheap ms clock g2
            refine ⟨.tuple #[], _, β, Z, ?_, r2, trivial⟩
            simp [runsV, Builtin.delete_, h0, run_underlying hu, hg, hck, Instr.findKey, run_underlying hud, g1, r1]
        · cases h
      · cases h
    · cases h
  · cases h


/-! ### All together -/
/-- What an operation leaves in its temporary. -/
def runsOp (P : Program) (ρ : Operand → Value) (o : Oper) (w : World) (x : Value) (w' : World) : Prop :=
  (execOp ρ o).run P w = .ok (.value x) w' ∨ ((execOp ρ o).run P w = .ok .skip w' ∧ x = undef)

theorem does_v {ρ : Operand → Value} {o : Oper} {s : Sem Value} {r : ER} (h : execOp ρ o = (do pure (.value (← s)))) (hs : Does P β H Z w (runsV P s) r) : Does P β H Z w (runsOp P ρ o) r := by
  intro obs v H' e ho
  obtain ⟨x, w', β', Z', h1, h2, h3⟩ := hs obs v H' e ho
  exact ⟨x, w', β', Z', .inl (by rw [h]; simp [show s.run P w = .ok x w' from h1]), h2, h3⟩

theorem does_u {ρ : Operand → Value} {o : Oper} {s : Sem Unit} {r : ER} (h : execOp ρ o = (do s; pure .skip)) (hs : Does P β H Z w (runsU P s) r) : Does P β H Z w (runsOp P ρ o) r := by
  intro obs v H' e ho
  obtain ⟨x, w', β', Z', ⟨h1, h1'⟩, h2, h3⟩ := hs obs v H' e ho
  exact ⟨x, w', β', Z', .inr ⟨by rw [h]; simp [h1], h1'⟩, h2, h3⟩

theorem effOp_does (hh : HeapOK β H Z w) (ρ : Operand → Value) (o : Oper) (xs : List TV) (hx : TVs β Z w xs (o.op.operands.toList.map ρ)) : Does P β H Z w (runsOp P ρ o) (effOp P H o.op xs) := by
  unfold effOp
  split
  case h_1 t heq => exact does_v (s := Instr.alloc t true (.tuple #[])) (by simp only [execOp, heq]) (alloc_does hh t)
  case h_2 t a v heq =>
    rw [heq] at hx
    obtain ⟨_, _, e, h1, _⟩ := hx; cases e
    exact does_v (s := Instr.box t (ρ a)) (by simp only [execOp, heq]) (box_does hh t v _ h1)
  case h_3 t len ps heq =>
    rename_i vs
    rw [heq] at hx
    split
    · rename_i l hl
      obtain ⟨z1, z2, z3⟩ := zipParts_spec hl
      refine does_v (s := Instr.buildSlice t len (ps.map fun (i, x) => (i, ρ x))) (by simp only [execOp, heq]) (buildSlice_does hh t len l _ ?_ ?_)
      · simp [z1]
      · rw [z2]
        have : (ps.map fun (i, x) => (i, ρ x)).toList.map (·.2) = (Op.buildSlice t len ps).operands.toList.map ρ := by simp [Op.operands]
        rw [this]; exact hx
    · exact does_none
  case h_4 t heq => exact does_v (s := Instr.makeMap t none) (by simp only [execOp, heq]; rfl) (makeMap_does hh t)
  case h_5 t a b u v heq =>
    rw [heq] at hx
    obtain ⟨_, _, e, h1, _, _, e', h2, _⟩ := hx; cases e; cases e'
    exact does_v (s := Instr.makeSlice t (ρ a) (ρ b)) (by simp only [execOp, heq]) (makeSlice_does hh t u v _ _ h1 h2)
  case h_6 t a b u v heq =>
    rw [heq] at hx
    obtain ⟨_, _, e, h1, _, _, e', h2, _⟩ := hx; cases e; cases e'
    exact does_u (s := Instr.storeAt t (ρ a) (ρ b)) (by simp only [execOp, heq]) (store_does hh t u v _ _ h1 h2)
  case h_7 t a b c u v x heq =>
    rw [heq] at hx
    obtain ⟨_, _, e, h1, _, _, e', h2, _, _, e'', h3, _⟩ := hx; cases e; cases e'; cases e''
    exact does_u (s := Instr.mapUpdate t (ρ a) (ρ b) (ρ c)) (by simp only [execOp, heq]) (mapUpdate_does hh t u v x _ _ _ h1 h2 h3)
  case h_8 t a b c u v x heq =>
    rw [heq] at hx
    obtain ⟨_, _, e, h1, _, _, e', h2, _, _, e'', h3, _⟩ := hx; cases e; cases e'; cases e''
    exact does_u (s := Instr.mapUpdate t (ρ a) (ρ b) (ρ c)) (by simp only [execOp, heq]) (mapUpdate_does hh t u v x _ _ _ h1 h2 h3)
  case h_9 op' xs' c heq =>
    rename_i xs
    rw [heq] at hx
    have hargs : ∀ b, c.callee = .builtin b → (execOp ρ o) = builtin b c.argTypes o.type (c.args.map fun | .const _ => true | _ => false) (c.args.map ρ) ∧ TVs β Z w xs (c.args.map ρ).toList := by
      intro b hb
      refine ⟨by simp only [execOp, heq, resolve, hb]; rfl, ?_⟩
      simpa [Op.operands, Call.operands, hb] using hx
    split
    · rename_i hb
      obtain ⟨he, hv⟩ := hargs _ hb
      split
      · rename_i s x
        obtain ⟨a, _, e, h1, b, _, e2, h2, e3⟩ := hv
        simp only [TVs] at e3
        subst e2 e3
        have e : c.args.map ρ = #[a, b] := by rw [← Array.toArray_toList (xs := c.args.map ρ), e]
        exact does_v (s := Builtin.append_ c.argTypes o.type #[a, b]) (by rw [he, e]; rfl) (append_does hh c.argTypes o.type s x a b h1 h2)
      · exact does_none
    · rename_i hb
      obtain ⟨he, hv⟩ := hargs _ hb
      split
      · rename_i s x
        obtain ⟨a, _, e, h1, b, _, e2, h2, e3⟩ := hv
        simp only [TVs] at e3
        subst e2 e3
        have e : c.args.map ρ = #[a, b] := by rw [← Array.toArray_toList (xs := c.args.map ρ), e]
        exact does_v (s := Builtin.delete_ c.argTypes o.type #[a, b]) (by rw [he, e]; rfl) (delete_does hh c.argTypes o.type s x a b h1 h2)
      · exact does_none
    · exact does_none
  case h_10 => exact does_none

end

end Go.Proofs.Ythjogeodclpafaa.AM
end
