/- The gate chapter: the reference's list of windows: loops. -/
import Derived.Test.YtkjonmlepanjhaaGateD
namespace Go.Proofs.Ytkjonmlepanjhaa.AM
open Go Go.Proofs.Ytkjonmlepanjhaa

def N23b (cl : Int) (xs : List W) : Anns := { N23 cl xs with seq := fun r s => match r with
  | 9 => annOf (α := Nat) [0, 3, 5, 6, 10, 11, 12] [] s (fun k => [(6, iv k)]) (fun _ => []) (fun c k => k = posW (rowAt Win c 2) (wAt c 3)) (fun _ => 0)
  | _ => none }
end Go.Proofs.Ytkjonmlepanjhaa.AM
