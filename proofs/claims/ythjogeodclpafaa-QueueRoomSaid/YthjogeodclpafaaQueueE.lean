/- The queue chapter: what a queue does. -/
import Derived.Test.YthjogeodclpafaaQueueD
namespace Go.Proofs.Ythjogeodclpafaa.AM
open Go Go.Proofs.Ythjogeodclpafaa

/-- The waiting items, the leases, the greatest number that was pushed. -/
abbrev Q := List Tm × List Le × Int
def atQ (xs : List Tm) (n : Int) : Int := idxE (fun w => w.1 == n) xs
def leaseQ (ls : List Le) (n : Int) : Int := idxE (fun w => w.1 == n) ls
def checkQ (q : Q) (x : Ch) : Int :=
  if validC x = false then 1 else if x.2.2.1 = 3 ∧ x.2.1 ≤ q.2.2 then 36 else if x.2.2.1 = 3 ∧ q.1.length ≥ 16 then 33 else if x.2.2.1 = 4 ∧ atQ q.1 x.2.2.2.2.2.1 < 0 then 34 else 0
def dropAt {α : Type} (xs : List α) (i : Int) : List α := if i < 0 then xs else xs.take i.toNat ++ xs.drop (i.toNat + 1)
def applyQ (q : Q) (x : Ch) : Int × Q :=
  if checkQ q x ≠ 0 then (checkQ q x, q)
  else if x.2.2.1 = 3 then (0, (q.1 ++ [(x.2.1, x.2.2.2.2.2.2.2)], q.2.1, x.2.1))
  else if x.2.2.1 = 4 then (0, (dropAt q.1 (atQ q.1 x.2.2.2.2.2.1), dropAt q.2.1 (leaseQ q.2.1 x.2.2.2.2.2.1), q.2.2))
  else (0, q)

def S43 : Spec := ⟨[], fun vs H K => match vs, H with
  | [(.t (.one (.ptr 0 0))), (.t (.one (.int .i64 n)))], [(.cells 76 [.hd 1, .hd 2, .int .i64 p]), (.row 52 (.pair (.int .i64) .str) xs), (.row 54 (.pair (.int .i64) (.pair (.int .i64) (.pair (.int .i64) (.int .i64)))) ls)] => xs.length ≤ lenMax ∧ K (iv (atQ xs n)) [qC 1 2 p, tR xs, lR ls]
  | _, _ => False⟩
def S45 : Spec := ⟨[], fun vs H K => match vs, H with
  | [(.t (.one (.ptr 0 0))), (.t (.one (.int .i64 n)))], [(.cells 76 [.hd 1, .hd 2, .int .i64 p]), (.row 52 (.pair (.int .i64) .str) xs), (.row 54 (.pair (.int .i64) (.pair (.int .i64) (.pair (.int .i64) (.int .i64)))) ls)] => ls.length ≤ lenMax ∧ K (iv (leaseQ ls n)) [qC 1 2 p, tR xs, lR ls]
  | _, _ => False⟩
def L3 : List (Nat × Spec) := (43, S43) :: (45, S45) :: L2
def S42 : Spec := ⟨[], fun vs H K => match vs, H with
  | [(.t (.one (.ptr 0 0))), .t (.agg [.int .i64 a, .int .i64 b, .int .i64 c, .int .i64 d, .int .i64 e, .int .i64 f, .str g, .str h])], [(.cells 76 [.hd 1, .hd 2, .int .i64 p]), (.row 52 (.pair (.int .i64) .str) xs), (.row 54 (.pair (.int .i64) (.pair (.int .i64) (.pair (.int .i64) (.int .i64)))) ls)] =>
    xs.length ≤ lenMax ∧ K (iv (checkQ (xs, ls, p) (a, b, c, d, e, f, g, h))) [qC 1 2 p, tR xs, lR ls]
  | _, _ => False⟩
def L4 : List (Nat × Spec) := (42, S42) :: L3
def S12 : Spec := ⟨[], fun vs H K => match vs, H with
  | [], [] => K (pv 0) [qC 1 2 0, tR [], lR []]
  | _, _ => False⟩
def S14 : Spec := ⟨[], fun vs H K => match vs, H with
  | [(.t (.one (.int .i64 n))), (.t (.one (.str s)))], [] => K (cv (1, n, 3, 1, n, 0, ⟨#[]⟩, s)) []
  | _, _ => False⟩
def S15 : Spec := ⟨[], fun vs H K => match vs, H with
  | [(.t (.one (.int .i64 n))), (.t (.one (.int .i64 m)))], [] => K (cv (1, n, 4, 1, n, m, ⟨#[]⟩, ⟨#[]⟩)) []
  | _, _ => False⟩
def S16 : Spec := ⟨[], fun vs H K => match vs, H with
  | [(.t (.one (.ptr 0 0)))], [(.cells 76 [.hd 1, .hd 2, .int .i64 p]), (.row 52 (.pair (.int .i64) .str) xs), (.row 54 (.pair (.int .i64) (.pair (.int .i64) (.pair (.int .i64) (.int .i64)))) ls)] => xs.length ≤ lenMax ∧ K (hv 3) [qC 1 2 p, tR xs, lR ls, tR xs]
  | _, _ => False⟩
def S13 : Spec := ⟨[], fun vs H K => match vs, H with
  | [(.t (.one (.ptr 0 0))), .t (.agg [.int .i64 a, .int .i64 b, .int .i64 c, .int .i64 d, .int .i64 e, .int .i64 f, .str g, .str h])], [(.cells 76 [.hd 1, .hd 2, .int .i64 p]), (.row 52 (.pair (.int .i64) .str) xs), (.row 54 (.pair (.int .i64) (.pair (.int .i64) (.pair (.int .i64) (.int .i64)))) ls)] =>
    xs.length ≤ lenMax ∧ ls.length ≤ lenMax ∧ K (iv (applyQ (xs, ls, p) (a, b, c, d, e, f, g, h)).1) [qC 3 4 (applyQ (xs, ls, p) (a, b, c, d, e, f, g, h)).2.2.2, .dead, .dead, tR (applyQ (xs, ls, p) (a, b, c, d, e, f, g, h)).2.1, lR (applyQ (xs, ls, p) (a, b, c, d, e, f, g, h)).2.2.1]
  | _, _ => False⟩
def L5 : List (Nat × Spec) := (13, S13) :: (12, S12) :: (14, S14) :: (15, S15) :: (16, S16) :: L4
end Go.Proofs.Ythjogeodclpafaa.AM
