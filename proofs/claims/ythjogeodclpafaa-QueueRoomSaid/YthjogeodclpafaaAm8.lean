/- The operations of the abstract machine that make or write memory: definitions. -/
import Derived.Test.YthjogeodclpafaaAm7
set_option linter.unusedVariables false
set_option linter.unusedSimpArgs false
namespace Go.Proofs.Ythjogeodclpafaa.AM
open Go

def flatAll (f : TypeId → Option (List TypeId)) : List TypeId → Option (List TypeId)
  | [] => some []
  | t :: ts => match f t, flatAll f ts with
    | some a, some b => some (a ++ b)
    | _, _ => none

/-- The types of a value's parts: structs opened, arrays whole. -/
def flatTys (P : Program) : Nat → TypeId → Option (List TypeId)
  | 0, _ => none
  | n + 1, t => match P.underlying t with
    | some (.struct fs) => flatAll (flatTys P n) (fs.toList.map (·.type))
    | some _ => some [t]
    | none => none

/-- The array type behind a type, of elements that are plain data. -/
def arrTy (P : Program) (t : TypeId) : Option (Nat × Ty) :=
  match P.underlying t with
  | some (.array _ _) => match tyOf P depth t with
    | some (.arr m a) => some (m, a)
    | _ => none
  | _ => none

/-- A prefix takes the place of its row or buffer. -/
def reroot1 (H : List AObj) (c : BV) : Option (BV × List AObj) :=
  match c with
  | .pre n len => match objAt H n with
    | .row e τ xs => some (.hd H.length, H.set n .dead ++ [.row e τ (xs.take len)])
    | _ => none
  | .prec n len => match objAt H n with
    | .buf e τ ys _ => some (.hd H.length, H.set n .dead ++ [.row e τ (ys.take len)])
    | _ => none
  | .hd n => match objAt H n with
    | .buf e τ ys k => some (.hd H.length, H.set n .dead ++ [.row e τ (ys.take k)])
    | _ => none
  | _ => none

/-- Cells by the types of the parts: runs of arrays are taken together, a nil slice gets a name. -/
def shapeGo (P : Program) : List TypeId → List BV → List AObj → Option (List BV × List AObj)
  | [], cs, H => match cs with
    | [] => some ([], H)
    | _ => none
  | ty :: tys, cs, H => match arrTy P ty with
    | some (m, a) => match parseMany a.parse m cs, cs with
      | _, .arr m' a' xs :: r => match shapeGo P tys r H with
        | some (cs', H') => some (.arr m' a' xs :: cs', H')
        | none => none
      | some (xs, r), _ => match shapeGo P tys r H with
        | some (cs', H') => some (.arr m a xs :: cs', H')
        | none => none
      | none, _ => none
    | none => match cs with
      | .nils :: r => match elemOf? P ty with
        | some (e, τ, _) => match shapeGo P tys r (H ++ [.row e τ []]) with
          | some (cs', H') => some (.hd H.length :: cs', H')
          | none => none
        | none => match shapeGo P tys r H with
          | some (cs', H') => some (.nils :: cs', H')
          | none => none
      | c :: r => match reroot1 H c with
        | some (c', H1) => match shapeGo P tys r H1 with
          | some (cs', H') => some (c' :: cs', H')
          | none => none
        | none => match shapeGo P tys r H with
          | some (cs', H') => some (c :: cs', H')
          | none => none
      | [] => none

def shapeOf (P : Program) (t : TypeId) (cs : List BV) (H : List AObj) : Option (List BV × List AObj) :=
  match flatTys P depth t with
  | some tys => shapeGo P tys cs H
  | none => none

/-- Truth values that are known are told as truth values. -/
def unlitB : BV → BV
  | .lit b => .bool b
  | v => v

/-- Prefixes that are handed back are rows of their own. -/
def rootT (H : List AObj) : TV → TV × List AObj
  | .one c => match reroot1 H c with
    | some (c', H1) => (.one c', H1)
    | none => (.one (unlitB c), H)
  | v => (v, H)

def rootTs : List TV → List AObj → List TV × List AObj
  | [], H => ([], H)
  | v :: r, H => match rootT H v with
    | (v', H1) => match rootTs r H1 with
      | (r', H2) => (v' :: r', H2)

/-- Slices of rows become lists of frozen memory. -/
def frz1 (c : BV) (H : List AObj) : BV × List AObj :=
  match c with
  | .hd n => match objAt H n with
    | .row e τ xs => (.fsl e τ xs, H.set n (.frow e τ xs))
    | .frow e τ xs => (.fsl e τ xs, H)
    | _ => (.hd n, H)
  | .sub n wd lo len => match objAt H n with
    | .row e τ xs => match Nat.beq wd τ.wd with
      | true => (.fsl e τ ((xs.drop lo).take len), H.set n (.frow e τ xs))
      | false => (.sub n wd lo len, H)
    | .frow e τ xs => match Nat.beq wd τ.wd with
      | true => (.fsl e τ ((xs.drop lo).take len), H)
      | false => (.sub n wd lo len, H)
    | _ => (.sub n wd lo len, H)
  | .pre n len => match objAt H n with
    | .row e τ xs => (.fsl e τ (xs.take len), H.set n (.frow e τ xs))
    | .frow e τ xs => (.fsl e τ (xs.take len), H)
    | _ => (.pre n len, H)
  | c => (c, H)

def frzGo : List BV → List AObj → List BV × List AObj
  | [], H => ([], H)
  | c :: r, H => match frz1 c H with
    | (c', H1) => match frzGo r H1 with
      | (r', H2) => (c' :: r', H2)

/-- Elements of a slice literal, in order. -/
def elemsGo (τ : Ty) : Nat → List (Nat × TV) → List AObj → Option (List τ.D × List AObj)
  | _, [], H => some ([], H)
  | i, (j, v) :: r, H => match Nat.beq i j, frzGo v.cells H with
    | true, (cs, H1) => match τ.dec cs with
      | some x => match elemsGo τ (i + 1) r H1 with
        | some (xs, H2) => some (x :: xs, H2)
        | none => none
      | none => none
    | false, _ => none

def aggOf (P : Program) (t : TypeId) : Bool := match kindOf P t with | some (a, _) => a | none => false

def Ty.decAgg (τ : Ty) (agg : Bool) (v : TV) : Option τ.D :=
  match agg, v with
  | true, .agg cs => τ.dec cs
  | false, .one c => τ.dec [c]
  | _, _ => none

abbrev ER := Option (List Prop × SV × List AObj)

def allocStep (P : Program) (H : List AObj) (t : TypeId) : ER :=
  match P.info? t with
  | some i => match i.zero with
    | some z => match (z.cells.toList.map ofCell).all BV.known, shapeOf P t (z.cells.toList.map ofCell) H with
      | true, some (cs, H1) => some ([], .b (.ptr H1.length 0), H1 ++ [.cells t cs])
      | _, _ => none
    | none => none
  | none => none

def boxStep (P : Program) (H : List AObj) (t : TypeId) (v : TV) : ER :=
  match shapeOf P t v.cells H with
  | some (cs, H1) => some ([], .b (.ptr H1.length 0), H1 ++ [.cells t cs])
  | none => none

def buildSliceStep (P : Program) (H : List AObj) (t : TypeId) (len : Nat) (ps : List (Nat × TV)) : ER :=
  match elemOf? P t with
  | some (e, τ, _) => match Nat.beq ps.length len, Nat.ble (len * τ.wd) 100000, zeroOK P e (aggOf P e) τ, elemsGo τ 0 ps H with
    | true, true, true, some (xs, H1) => some ([], .b (.hd H1.length), H1 ++ [.row e τ xs])
    | _, _, _, _ => none
  | none => none

def makeMapStep (P : Program) (H : List AObj) (t : TypeId) : ER :=
  match P.underlying t with
  | some (.map kt et) => match keyTy P kt, tyOf P depth et, kindOf P et with
    | some κ, some τ, some (agg, sz) => match Nat.beq sz τ.wd with
      | true => some ([], .b (.map H.length), H ++ [.map agg κ τ []])
      | false => none
    | _, _, _ => none
  | _ => none

def makeSliceStep (P : Program) (H : List AObj) (t : TypeId) (l c : TV) : ER :=
  match elemOf? P t, l, c with
  | some (e, τ, bytes), .one (.int _ n), .one (.int _ m) => match zeroOK P e (aggOf P e) τ with
    | true => some ([0 ≤ n, n = m, (bytes : Int) * n ≤ 140737488355328, n ≤ 140737488355328], .b (.hd H.length), H ++ [.row e τ (List.replicate n.toNat τ.zero)])
    | false => none
  | _, _, _ => none

/-- The array run at 'off' is put in the place of what it was. -/
def patchRun (off m : Nat) (τ : Ty) (xs : List τ.D) (cs : List BV) : Option (List BV) :=
  match takeW off cs, dropW (off + m * τ.wd) cs with
  | some a, some b => some (a ++ (.arr m τ xs :: b))
  | _, _ => none

def storeAt (P : Program) (H : List AObj) (sz : Nat) (p : BV) (news : List BV) : Option (List Prop × List AObj) :=
  match p with
  | .ptr n off => match objAt H n with
    | .cells t cs => match Nat.beq (widths news) sz, patchW off news cs with
      | true, some cs' => some ([], H.set n (.cells t cs'))
      | _, _ => none
    | _ => none
  | .eptr n wd i off => match objAt H n with
    | .row e τ xs => match frzGo news H with
      | (news', H1) => match objAt H1 n with
        | .row e' τ' xs' => match Nat.beq wd τ'.wd, Nat.beq (widths news') sz, patchW off news' (τ'.enc (xs'.getD i τ'.zero)) with
          | true, true, some cs => match τ'.dec cs with
            | some x => some ([i < xs'.length], H1.set n (.row e' τ' (xs'.set i x)))
            | none => none
          | _, _, _ => none
        | _ => none
    | _ => none
  | .aptr n off m wd i o => match objAt H n with
    | .cells t cs => match runAt off cs with
      | some (m', ⟨τ, xs⟩) => match Nat.beq wd τ.wd, Nat.beq m m', Nat.beq (widths news) sz, patchW o news (τ.enc (xs.getD i τ.zero)) with
        | true, true, true, some es => match τ.dec es with
          | some x => match patchRun off m τ (xs.set i x) cs with
            | some cs' => some ([i < m], H.set n (.cells t cs'))
            | none => none
          | none => none
        | _, _, _, _ => none
      | none => none
    | _ => none
  | _ => none

def storeStep (P : Program) (H : List AObj) (t : TypeId) (p v : TV) : ER :=
  match kindOf P t, p with
  | some (_, sz), .one p => match shapeOf P t v.cells H with
    | some (cs, H1) => match storeAt P H1 sz p cs with
      | some (obs, H2) => some (obs, .any, H2)
      | none => none
    | none => none
  | _, _ => none

def appendStep (P : Program) (H : List AObj) (ts : List TypeId) (s x : BV) : ER :=
  match ts with
  | [t, t'] => match Nat.beq t t', elemOf? P t with
    | true, some (e, τ, bytes) => match zeroOK P e (aggOf P e) τ, listOf H τ x with
      | true, some ys => match s with
        | .hd n => match objAt H n with
          | .row e' τ' xs => match decEq τ' τ, Nat.beq e e' with
            | isTrue q, true => some ([((xs.length + ys.length : Nat) : Int) * bytes ≤ 140737488355328, ((xs.length + ys.length : Nat) : Int) ≤ 140737488355328], .b (.hd H.length), H.set n .dead ++ [.row e τ (castL q xs ++ ys)])
            | _, _ => none
          | _ => none
        | .nils => some ([((ys.length : Nat) : Int) * bytes ≤ 140737488355328, ((ys.length : Nat) : Int) ≤ 140737488355328], .b (.hd H.length), H ++ [.row e τ ys])
        | _ => none
      | _, _ => none
    | _, _ => none
  | _ => none

def mapPut {κ τ : Ty} (k : κ.D) (x : τ.D) : List (κ.D × τ.D) → List (κ.D × τ.D)
  | [] => [(k, x)]
  | (a, b) :: r => match κ.eqb k a with
    | true => (k, x) :: r
    | false => (a, b) :: mapPut k x r

def mapDel {κ τ : Ty} (k : κ.D) : List (κ.D × τ.D) → List (κ.D × τ.D)
  | [] => []
  | (a, b) :: r => match κ.eqb k a with
    | true => r
    | false => (a, b) :: mapDel k r

def mapUpdateStep (P : Program) (H : List AObj) (t : TypeId) (m k v : TV) : ER :=
  match P.underlying t, m with
  | some (.map kt _), .one (.map n) => match objAt H n, keyTy P kt with
    | .map agg κ τ es, some κ' => match decEq κ' κ, κ.decOne k, τ.decAgg agg v with
      | isTrue _, some key, some x => some ([], .any, H.set n (.map agg κ τ (mapPut key x es)))
      | _, _, _ => none
    | _, _ => none
  | _, _ => none

def deleteStep (P : Program) (H : List AObj) (ts : List TypeId) (m k : TV) : ER :=
  match ts, m with
  | t :: _, .one (.map n) => match P.underlying t with
    | some (.map kt _) => match objAt H n, keyTy P kt with
      | .map agg κ τ es, some κ' => match decEq κ' κ, κ.decOne k with
        | isTrue _, some key => some ([], .any, H.set n (.map agg κ τ (mapDel key es)))
        | _, _ => none
      | _, _ => none
    | _ => none
  | _, _ => none

/-- The operations that make or write memory, but calls of functions. -/
def effOp (P : Program) (H : List AObj) (op : Op) (xs : List TV) : ER :=
  match op, xs with
  | .alloc t, [] => allocStep P H t
  | .box t _, [v] => boxStep P H t v
  | .buildSlice t len ps, vs => match zipParts ps.toList vs with
    | some l => buildSliceStep P H t len l
    | none => none
  | .makeMap t none, [] => makeMapStep P H t
  | .makeSlice t _ _, [l, c] => makeSliceStep P H t l c
  | .store t _ _, [p, v] => storeStep P H t p v
  | .mapUpdate t _ _ _, [m, k, v] => mapUpdateStep P H t m k v
  | .insert t _ _ _, [m, k, v] => mapUpdateStep P H t m k v
  | .call c, vs => match c.callee with
    | .builtin .append => match vs with
      | [.one s, .one x] => appendStep P H c.argTypes.toList s x
      | _ => none
    | .builtin .delete => match vs with
      | [m, k] => deleteStep P H c.argTypes.toList m k
      | _ => none
    | _ => none
  | _, _ => none

end Go.Proofs.Ythjogeodclpafaa.AM
