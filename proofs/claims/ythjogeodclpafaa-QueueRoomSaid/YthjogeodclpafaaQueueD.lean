/- The queue chapter: what is told of its functions. -/
import Derived.Test.YthjogeodclpafaaBT
namespace Go.Proofs.Ythjogeodclpafaa.AM
open Go Go.Proofs.Ythjogeodclpafaa

/-- A queue of the program. -/
abbrev qC (n m : Nat) (p : Int) : AObj := .cells 76 [.hd n, .hd m, .int .i64 p]

/-! ### What is told of each function -/
def S69 : Spec := ⟨[], fun vs H K => match vs, H with
  | [(.t (.one (.str s)))], [] => K (bv (keyB s)) []
  | _, _ => False⟩
def S70 : Spec := ⟨[], fun vs H K => match vs, H with
  | [(.t (.one (.str s)))], [] => K (bv (valueB s)) []
  | _, _ => False⟩
def S60 : Spec := ⟨[], fun vs H K => match vs, H with
  | [.t (.agg [.int .i64 a, .str _]), (.t (.one (.ptr 0 0)))], [.cells 3 [.int .i64 n]] => K (bv (a == n)) [.cells 3 [.int .i64 n]]
  | _, _ => False⟩
def S62 : Spec := ⟨[], fun vs H K => match vs, H with
  | [.t (.agg [.int .i64 a, .int .i64 _, .int .i64 _, .int .i64 _]), (.t (.one (.ptr 0 0)))], [.cells 3 [.int .i64 n]] => K (bv (a == n)) [.cells 3 [.int .i64 n]]
  | _, _ => False⟩
def L1 : List (Nat × Spec) := [(69, S69), (70, S70), (60, S60), (62, S62)]

def S58 : Spec := ⟨[], fun vs H K => match vs, H with
  | [.t (.agg [.int .i64 a, .int .i64 b, .int .i64 c, .int .i64 d, .int .i64 e, .int .i64 f, .str g, .str h])], [] => K (bv (validC (a, b, c, d, e, f, g, h))) []
  | _, _ => False⟩
def S59 : Spec := ⟨[], fun vs H K => match vs, H with
  | [(.t (.one (.hd 0))), .t (.one (.fn 60 [1]))], [(.row 52 (.pair (.int .i64) .str) xs), .cells 3 [.int .i64 n]] => xs.length ≤ lenMax ∧ K (iv (idxE (fun w => w.1 == n) xs)) [tR xs, .cells 3 [.int .i64 n]]
  | _, _ => False⟩
def S61 : Spec := ⟨[], fun vs H K => match vs, H with
  | [(.t (.one (.hd 0))), .t (.one (.fn 62 [1]))], [(.row 54 (.pair (.int .i64) (.pair (.int .i64) (.pair (.int .i64) (.int .i64)))) xs), .cells 3 [.int .i64 n]] => xs.length ≤ lenMax ∧ K (iv (idxE (fun w => w.1 == n) xs)) [lR xs, .cells 3 [.int .i64 n]]
  | _, _ => False⟩
def S44 : Spec := ⟨[], fun vs H K => match vs, H with
  | [(.t (.one (.hd 0))), (.t (.one (.int .i64 i))), (.t (.one (.int .i64 j)))], [(.row 52 (.pair (.int .i64) .str) xs)] => j = i + 1 ∧ 0 ≤ i ∧ i < xs.length ∧ xs.length ≤ lenMax ∧ K (hv 1) [.dead, tR (xs.take i.toNat ++ xs.drop (i.toNat + 1))]
  | _, _ => False⟩
def S46 : Spec := ⟨[], fun vs H K => match vs, H with
  | [(.t (.one (.hd 0))), (.t (.one (.int .i64 i))), (.t (.one (.int .i64 j)))], [(.row 54 (.pair (.int .i64) (.pair (.int .i64) (.pair (.int .i64) (.int .i64)))) xs)] => j = i + 1 ∧ 0 ≤ i ∧ i < xs.length ∧ xs.length ≤ lenMax ∧ K (hv 1) [.dead, lR (xs.take i.toNat ++ xs.drop (i.toNat + 1))]
  | _, _ => False⟩
def S47 : Spec := ⟨[true], fun vs H K => match vs, H with
  | [(.t (.one (.fsl 52 (.pair (.int .i64) .str) xs)))], [] => xs.length ≤ lenMax ∧ K (hv 0) [tR xs]
  | _, _ => False⟩
def S55 : Spec := ⟨[true], fun vs H K => match vs, H with
  | [(.t (.one (.fsl 54 (.pair (.int .i64) (.pair (.int .i64) (.pair (.int .i64) (.int .i64)))) xs)))], [] => xs.length ≤ lenMax ∧ K (hv 0) [lR xs]
  | _, _ => False⟩
def L2 : List (Nat × Spec) := (58, S58) :: (59, S59) :: (61, S61) :: (44, S44) :: (46, S46) :: (47, S47) :: (55, S55) :: L1

def N59 {α : Type} (p : α → Bool) (ws : List α) : Anns := { loop := fun r s => match r with
  | 2 => annOf (α := Nat) [0, 1, 7, 8] [] s (fun k => [(8, iv k)]) (fun _ => []) (fun _ k => k ≤ ws.findIdx p) (fun k => ws.length - k)
  | _ => none }
end Go.Proofs.Ythjogeodclpafaa.AM
