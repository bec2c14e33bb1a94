/- The gate chapter: the laws GateLists and GateCopies: loops. -/
import Derived.Test.YtkjonmlepanjhaaGateE
namespace Go.Proofs.Ytkjonmlepanjhaa.AM
open Go Go.Proofs.Ytkjonmlepanjhaa

def L9 : List (Nat × Spec) := (22, S22) :: (23, S23) :: (25, S25) :: L8

/-- The gate that is given windows of a list, each twice, beginning anywhere. -/
def hG (c : Int) (xs : List W) (s : Nat) (k : Nat) : G := ((List.range k).map fun j => xs.getD ((j + s) % xs.length) Win.zero).foldl (fun g w => (giveG (giveG g w).2 w).2) (G0 c)

def NX (c : Int) (l : List Int) (xs : List W) (n : Nat) : Anns := { loop := fun r s => match r with
  | 7 => annOf (α := Nat) [0, 2, 3, 4, 11, 12, 35, 36, 37] [] s (fun i => [(37, iv i)])
      (fun i => [(0, gC c (runG ((madeA l c).take i) (G0 c)).2.1 3), (1, rC c (runR ((madeA l c).take i) (G0 c)).2.1 4), (3, wR (runG ((madeA l c).take i) (G0 c)).2.2), (4, wR (runR ((madeA l c).take i) (G0 c)).2.2)])
      (fun _ i => i ≤ (madeA l c).length) (fun i => (madeA l c).length - i)
  | 14 => annOf (α := Nat) [0, 2, 3, 4, 11, 12, 15, 16, 55, 56] [] s (fun k => [(56, iv k)])
      (fun k => [(3, gC c (hG c xs n k).2.1 6), (6, wR (hG c xs n k).2.2)]) (fun _ k => k ≤ xs.length) (fun k => xs.length - k)
  | _ => none }

def NY (c : Int) (l : List Int) : Anns := { loop := fun r s => match r with
  | 7 => annOf (α := Nat) [3, 4, 7, 11, 12, 33, 34, 35] [] s (fun i => [(35, iv i)])
      (fun i => [(1, gC c (runG ((madeA l c).take i) (G0 c)).2.1 4), (2, rC c (runR ((madeA l c).take i) (G0 c)).2.1 5), (4, wR (runG ((madeA l c).take i) (G0 c)).2.2), (5, wR (runR ((madeA l c).take i) (G0 c)).2.2)])
      (fun _ i => i ≤ (madeA l c).length) (fun i => (madeA l c).length - i)
  | _ => none }
end Go.Proofs.Ytkjonmlepanjhaa.AM
