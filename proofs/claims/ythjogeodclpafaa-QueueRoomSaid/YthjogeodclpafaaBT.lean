/- The types of the data that several chapters share, and small plain functions. -/
import Derived.Test.YthjogeodclpafaaAmT
import Derived.Test.YthjogeodclpafaaAmF
import Derived.Test.YthjogeodclpafaaChecked
import Derived.KernelRfl
namespace Go.Proofs.Ythjogeodclpafaa.AM
open Go Go.Proofs.Ythjogeodclpafaa

abbrev I : Ty := .int .i64
abbrev Item : Ty := .pair I .str
abbrev Lease : Ty := .pair I (.pair I (.pair I I))
abbrev Change : Ty := .pair I (.pair I (.pair I (.pair I (.pair I (.pair I (.pair .str .str))))))
/-- An item: number, value. A lease: item, client, epoch, until. A change: epoch, number, kind, client, the client's number, item, key, value. -/
abbrev Tm := Item.D
abbrev Le := Lease.D
abbrev Ch := Change.D

abbrev iv (n : Int) : SV := .t (.one (.int .i64 n))
abbrev bv (b : Bool) : SV := .t (.one (.bool b))
abbrev sv (s : ByteArray) : SV := .t (.one (.str s))
abbrev pv (n : Nat) : SV := .t (.one (.ptr n 0))
abbrev hv (n : Nat) : SV := .t (.one (.hd n))
abbrev tv (x : Tm) : SV := .t (.agg [.int .i64 x.1, .str x.2])
abbrev lv (x : Le) : SV := .t (.agg [.int .i64 x.1, .int .i64 x.2.1, .int .i64 x.2.2.1, .int .i64 x.2.2.2])
abbrev cv (x : Ch) : SV := .t (.agg [.int .i64 x.1, .int .i64 x.2.1, .int .i64 x.2.2.1, .int .i64 x.2.2.2.1, .int .i64 x.2.2.2.2.1, .int .i64 x.2.2.2.2.2.1, .str x.2.2.2.2.2.2.1, .str x.2.2.2.2.2.2.2])
abbrev ft (xs : List Tm) : SV := .t (.one (.fsl 52 Item xs))
abbrev fl (xs : List Le) : SV := .t (.one (.fsl 54 Lease xs))
abbrev fc (xs : List Ch) : SV := .t (.one (.fsl 29 Change xs))
abbrev fi (xs : List Int) : SV := .t (.one (.fsl 3 I xs))
/-- A queue of the program, one of the reference; a tape. -/
abbrev rC (n m : Nat) (p : Int) : AObj := .cells 49 [.hd n, .hd m, .int .i64 p]
abbrev tC (l : List Int) (k : Int) : AObj := .cells 91 [.fsl 3 I l, .int .i64 k]
abbrev tR (xs : List Tm) : AObj := .row 52 Item xs
abbrev lR (xs : List Le) : AObj := .row 54 Lease xs
abbrev cR (xs : List Ch) : AObj := .row 29 Change xs

/-- A list is short enough to be worked on. -/
def lenMax : Nat := 1099511627776

def keyB (s : ByteArray) : Bool := decide ((s.size : Int) ≥ 1) && decide ((s.size : Int) ≤ 16)
def valueB (s : ByteArray) : Bool := decide ((s.size : Int) ≤ 64)

def emptyB (s : ByteArray) : Bool := s.toList == ByteArray.toList ⟨#[]⟩
def validC (x : Ch) : Bool :=
  !(decide (x.1 < (1 : Int)) || decide (x.1 > (1048576 : Int)) || decide (x.2.1 < (1 : Int)) || decide (x.2.1 > (4096 : Int)) || decide (x.2.2.2.1 < (1 : Int)) || decide (x.2.2.2.1 > (8 : Int)) || decide (x.2.2.2.2.1 < (1 : Int)) || decide (x.2.2.2.2.1 > (1048576 : Int))) &&
  if x.2.2.1 = (1 : Int) then keyB x.2.2.2.2.2.2.1 && valueB x.2.2.2.2.2.2.2 && (x.2.2.2.2.2.1 == (0 : Int))
  else if x.2.2.1 = (2 : Int) then keyB x.2.2.2.2.2.2.1 && emptyB x.2.2.2.2.2.2.2 && (x.2.2.2.2.2.1 == (0 : Int))
  else if x.2.2.1 = (3 : Int) then emptyB x.2.2.2.2.2.2.1 && valueB x.2.2.2.2.2.2.2 && (x.2.2.2.2.2.1 == (0 : Int))
  else if x.2.2.1 = (4 : Int) then emptyB x.2.2.2.2.2.2.1 && emptyB x.2.2.2.2.2.2.2 && decide (x.2.2.2.2.2.1 ≥ (1 : Int)) && decide (x.2.2.2.2.2.1 < x.2.1)
  else false
end Go.Proofs.Ythjogeodclpafaa.AM
