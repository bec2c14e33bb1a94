/- The queue chapter: QueueRoom. -/
import Derived.Test.YthjogeodclpafaaQueueG
namespace Go.Proofs.Ythjogeodclpafaa.AM
open Go Go.Proofs.Ythjogeodclpafaa

def roomX (m : Int) (v : ByteArray) (k : Nat) : List Tm := (List.range k).map fun (j : Nat) => ((m + ((j : Int) + 1) : Int), v)
def roomP (m : Int) (k : Nat) : Int := if k = 0 then 0 else m + k
def S11 : Spec := ⟨[], fun vs H K => match vs, H with
  | [(.t (.one (.int .i64 a))), (.t (.one (.int .i64 b)))], [] => 0 < b ∧ b ≤ 1099511627776 ∧ K (iv (a % b)) []
  | _, _ => False⟩
def S10 : Spec := ⟨[], fun vs H K => match vs, H with
  | [], [] => K (bv true) []
  | _, _ => False⟩
/-- With names for what comes out. -/
def S13n : Spec := ⟨[], fun vs H K => match vs, H with
  | [(.t (.one (.ptr 0 0))), .t (.agg [.int .i64 a, .int .i64 b, .int .i64 c, .int .i64 d, .int .i64 e, .int .i64 f, .str g, .str h])], [(.cells 76 [.hd 1, .hd 2, .int .i64 p]), (.row 52 (.pair (.int .i64) .str) xs), (.row 54 (.pair (.int .i64) (.pair (.int .i64) (.pair (.int .i64) (.int .i64)))) ls)] =>
    xs.length ≤ lenMax ∧ ls.length ≤ lenMax ∧ ∀ r : Int × Q, r = applyQ (xs, ls, p) (a, b, c, d, e, f, g, h) → K (iv r.1) [qC 3 4 r.2.2.2, .dead, .dead, tR r.2.1, lR r.2.2.1]
  | _, _ => False⟩
def S23n : Spec := ⟨[], fun vs H K => match vs, H with
  | [(.t (.one (.ptr 0 0))), (.t (.one (.int .i64 c))), (.t (.one (.int .i64 e))), (.t (.one (.int .i64 t))), (.t (.one (.int .i64 h)))], [(.cells 76 [.hd 1, .hd 2, .int .i64 p]), (.row 52 (.pair (.int .i64) .str) xs), (.row 54 (.pair (.int .i64) (.pair (.int .i64) (.pair (.int .i64) (.int .i64)))) ls)] =>
    xs.length ≤ lenMax ∧ ls.length ≤ lenMax ∧ ∀ r : (Tm × Le × Int) × Q, r = takeQ (xs, ls, p) c e t h → K (tkV r.1) [qC 1 3 p, tR xs, .dead, lR r.2.2.1]
  | _, _ => False⟩
def L9 : List (Nat × Spec) := (10, S10) :: (11, S11) :: (13, S13n) :: (23, S23n) :: L8
def N3 (m : Int) (v : ByteArray) : Anns := { loop := fun r s => match r with
  | 8 => annOf (α := Nat) [0, 1, 5, 6] [] s (fun k => [(6, iv ((k : Int) + 1))]) (fun k => [(0, qC 1 2 (roomP m k)), (1, tR (roomX m v k))]) (fun _ k => k ≤ 16) (fun k => 16 - k)
  | _ => none }
end Go.Proofs.Ythjogeodclpafaa.AM
