/- The gate chapter: the laws GateClosed and GateLess: loops. -/
import Derived.Test.YtkjonmlepanjhaaGateD
namespace Go.Proofs.Ytkjonmlepanjhaa.AM
open Go Go.Proofs.Ytkjonmlepanjhaa

def L8 : List (Nat × Spec) := (20, S20) :: L7

def G0 (c : Int) : G := (c, 0, [])
/-- What the gates are behind the first acts and the closing. -/
def cG (c : Int) (l : List Int) (e : Int) : G := (closeG (runG (madeA l c) (G0 c)) e).2
def cR (c : Int) (l : List Int) (e : Int) : G := (closeR (runR (madeA l c) (G0 c)) e).2
def NC (c : Int) (l m : List Int) (e : Int) (raw : List A) : Anns := { loop := fun r s => match r with
  | 8 => annOf (α := Nat) [0, 2, 3, 4, 11, 12, 45, 46, 47] [] s (fun i => [(47, iv i)])
      (fun i => [(0, gC c (runG ((madeA l c).take i) (G0 c)).2.1 3), (1, rC c (runR ((madeA l c).take i) (G0 c)).2.1 4), (3, wR (runG ((madeA l c).take i) (G0 c)).2.2), (4, wR (runR ((madeA l c).take i) (G0 c)).2.2)])
      (fun _ i => i ≤ (madeA l c).length) (fun i => (madeA l c).length - i)
  | 15 => annOf (α := Nat) [3, 11, 12, 74, 75, 76] [] s (fun i => [(76, iv i)])
      (fun i => [(0, gC c (runG ((madeA m c ++ raw).take i) (cG c l e)).2.1 3), (1, rC c (runR ((madeA m c ++ raw).take i) (cR c l e)).2.1 4), (3, wR (runG ((madeA m c ++ raw).take i) (cG c l e)).2.2), (4, wR (runR ((madeA m c ++ raw).take i) (cR c l e)).2.2)])
      (fun _ i => i ≤ (madeA m c ++ raw).length) (fun i => (madeA m c ++ raw).length - i)
  | 21 => annOf (α := Nat) [3, 11, 12, 17, 74, 75, 76] [] s (fun k => [(17, iv k)]) (fun _ => []) (fun _ k => k ≤ 50) (fun k => 50 - k)
  | _ => none }

/-- The act of GateLess. -/
def actL (a : A) : A := (4 + a.1 % 3, a.2.1, a.2.2)
def NL (c : Int) (l : List Int) : Anns := { loop := fun r s => match r with
  | 7 => annOf (α := Nat) [3, 4, 7, 11, 12, 37, 38, 39] [] s (fun i => [(39, iv i)])
      (fun i => [(1, gC c (runG ((madeA l c).take i) (G0 c)).2.1 4), (2, rC c (runR ((madeA l c).take i) (G0 c)).2.1 5), (4, wR (runG ((madeA l c).take i) (G0 c)).2.2), (5, wR (runR ((madeA l c).take i) (G0 c)).2.2)])
      (fun _ i => i ≤ (madeA l c).length) (fun i => (madeA l c).length - i)
  | 15 => annOf (α := Nat) [3, 4, 11, 15, 16] [] s (fun k => [(16, iv k)]) (fun _ => []) (fun _ k => k ≤ 50) (fun k => 50 - k)
  | _ => none }
end Go.Proofs.Ytkjonmlepanjhaa.AM
