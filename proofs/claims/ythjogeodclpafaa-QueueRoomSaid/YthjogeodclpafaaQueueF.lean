/- The queue chapter: leases. -/
import Derived.Test.YthjogeodclpafaaQueueE
namespace Go.Proofs.Ythjogeodclpafaa.AM
open Go Go.Proofs.Ythjogeodclpafaa

def liveL (e t : Int) (l : Le) : Bool := (l.2.2.1 == e) && decide (t < l.2.2.2)
def posL (ls : List Le) (n : Int) : Nat := (ls.takeWhile fun y => decide (y.1 < n)).length
def giveQ (ls : List Le) (l : Le) : List Le := if leaseQ ls l.1 ≥ 0 then ls.set (leaseQ ls l.1).toNat l else ls.take (posL ls l.1) ++ [l] ++ ls.drop (posL ls l.1)

def S50 : Spec := ⟨[], fun vs H K => match vs, H with
  | [.t (.agg [.int .i64 a, .int .i64 b, .int .i64 c, .int .i64 d]), (.t (.one (.int .i64 e))), (.t (.one (.int .i64 t)))], [] => K (bv (liveL e t (a, b, c, d))) []
  | _, _ => False⟩
def S65 : Spec := ⟨[], fun vs H K => match vs, H with
  | [(.t (.one (.hd 0))), (.t (.one (.int .i64 i))), (.t (.one (.hd 1)))], [(.row 54 (.pair (.int .i64) (.pair (.int .i64) (.pair (.int .i64) (.int .i64)))) ws), (.row 54 (.pair (.int .i64) (.pair (.int .i64) (.pair (.int .i64) (.int .i64)))) [v])] => 0 ≤ i ∧ i.toNat ≤ ws.length ∧ ws.length ≤ lenMax ∧ K (hv 2) [.dead, lR [v], lR (ws.take i.toNat ++ [v] ++ ws.drop i.toNat)]
  | _, _ => False⟩
def S51 : Spec := ⟨[], fun vs H K => match vs, H with
  | [(.t (.one (.ptr 0 0))), .t (.agg [.int .i64 a, .int .i64 b, .int .i64 c, .int .i64 d])], [(.cells 76 [.hd 1, .hd 2, .int .i64 p]), (.row 52 (.pair (.int .i64) .str) xs), (.row 54 (.pair (.int .i64) (.pair (.int .i64) (.pair (.int .i64) (.int .i64)))) ls)] =>
    ls.length ≤ lenMax ∧ K (.tup []) [qC 1 3 p, tR xs, .dead, lR (giveQ ls (a, b, c, d))]
  | _, _ => False⟩
def L6 : List (Nat × Spec) := (50, S50) :: (65, S65) :: L5
def L7 : List (Nat × Spec) := (51, S51) :: L6
def N51 (ls : List Le) (n : Int) : Anns := { loop := fun r s => match r with
  | 5 => annOf (α := Nat) [0, 3, 5] [] s (fun k => [(5, iv k)]) (fun _ => []) (fun _ k => k ≤ posL ls n) (fun k => ls.length - k)
  | _ => none }
end Go.Proofs.Ythjogeodclpafaa.AM
