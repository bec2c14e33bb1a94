/- The queue chapter: taking an item. -/
import Derived.Test.YthjogeodclpafaaQueueF
namespace Go.Proofs.Ythjogeodclpafaa.AM
open Go Go.Proofs.Ythjogeodclpafaa

def badT (c e t h : Int) : Bool := decide (c < 1) || decide (c > 8) || decide (e < 1) || decide (e > 1048576) || decide (t < 0) || decide (t > 1073741824) || decide (h < 1) || decide (h > 1000)
def hitL (e t n : Int) (l : Le) : Bool := (l.1 == n) && liveL e t l
def freeQ (ls : List Le) (e t : Int) (x : Tm) : Bool := !(ls.any (hitL e t x.1))
def takeQ (q : Q) (c e t h : Int) : (Tm × Le × Int) × Q :=
  if badT c e t h then (((0, ⟨#[]⟩), (0, 0, 0, 0), 1), q)
  else match q.1.find? (freeQ q.2.1 e t) with
    | some x => ((x, (x.1, c, e, t + h), 0), (q.1, giveQ q.2.1 (x.1, c, e, t + h), q.2.2))
    | none => (((0, ⟨#[]⟩), (0, 0, 0, 0), 34), q)
def N23 (xs : List Tm) (ls : List Le) (e t : Int) : Anns := { loop := fun r s => match r with
  | 4 => annOf (α := Nat) [0, 1, 2, 3, 4, 10, 11, 53, 54, 55] [] s (fun i => [(55, iv i)]) (fun _ => []) (fun _ i => i ≤ xs.findIdx (freeQ ls e t)) (fun i => xs.length - i)
  | 7 => annOf (α := Nat) [0, 1, 2, 3, 4, 10, 11, 14, 53, 54, 55, 62, 63, 64] [] s (fun k => [(64, iv k)]) (fun _ => []) (fun c k => k ≤ ls.findIdx (hitL e t (cellAt c 5 0))) (fun k => ls.length - k)
  | _ => none }
abbrev tkV (r : Tm × Le × Int) : SV := .tup [.agg [.int .i64 r.1.1, .str r.1.2], .agg [.int .i64 r.2.1.1, .int .i64 r.2.1.2.1, .int .i64 r.2.1.2.2.1, .int .i64 r.2.1.2.2.2], .one (.int .i64 r.2.2)]
def S23 : Spec := ⟨[], fun vs H K => match vs, H with
  | [(.t (.one (.ptr 0 0))), (.t (.one (.int .i64 c))), (.t (.one (.int .i64 e))), (.t (.one (.int .i64 t))), (.t (.one (.int .i64 h)))], [(.cells 76 [.hd 1, .hd 2, .int .i64 p]), (.row 52 (.pair (.int .i64) .str) xs), (.row 54 (.pair (.int .i64) (.pair (.int .i64) (.pair (.int .i64) (.int .i64)))) ls)] =>
    xs.length ≤ lenMax ∧ ls.length ≤ lenMax ∧ K (tkV (takeQ (xs, ls, p) c e t h).1) [qC 1 3 p, tR xs, .dead, lR (takeQ (xs, ls, p) c e t h).2.2.1]
  | _, _ => False⟩
def L8 : List (Nat × Spec) := (23, S23) :: L7
/-- That truth values are computed. -/
def Ld : List (Nat × Spec) := (4000000007, ⟨[], fun _ _ _ => False⟩) :: L8
end Go.Proofs.Ythjogeodclpafaa.AM
