/-
  No cell of these rows narrows 'for every input' (looked for: loops, veiled, ifaces, maps, wideKeys, modest, calm, conditions, laid).
  DERIVED. THE GIVEN ROWS OF THIS SEAT. 7 by the template 'for every input the law returns true; each argument reads behind the call as it read before'; 0 by the template 'total and deterministic' (their statements: YthjogeodclpafaaTotals.lean).
  GIVEN WITH THE SEED: the statements are not yours to turn. If you find one false, say at which input.
  Laid BY PROGRAM, IN A SANDBOX (cutbox-rows.mjs): the forced cells as the released guide's own fill.sh prints them over the translation 13fbee73d69ee769… (all of the seat's roots in one cut). By AI agents, Wed Nov 11 2026. No macro, syntax, notation, axiom, sorry.
-/
import Derived.Test.YthjogeodclpafaaChecked
import GoSem.Claim
import GoSem.ClaimJoined
import GoSem.ClaimMapViews
import Derived.JoinedTies
import Derived.KernelRfl
namespace Go.Proofs.Ythjogeodclpafaa
/- THE CELL 'sum', in the pinned program and in every row, IS THE sha256 OF THE DUMP (.gsa) THAT YthjogeodclpafaaProg.lean LOADS. Nothing in Lean hashes anything: it is a label: what it is worth is what the hold of that sum in a sandbox is worth. -/
noncomputable def Try.pinned : Pinned := { name := "ythjogeodclpafaa", sum := "13fbee73d69ee76911382f97d4294f50ae0c3f315c23e11c38b97872e7739d73", checked := Try.checked }
namespace Rows
def none {H : Type} : Left H := { results := [], args := [] }

/-- 'cellplanelaw25.QueueRoom': WHATEVER THE INPUT: true; the input reads as it did. -/
def queueRoomSpec : ChangeSpec := { name := "queueRoom", fn := fun _ => fun
  | [d1, d2] => { results := [.lit (.bool true)], args := [d1, d2] }
  | _ => none }
def queueRoomRow : OpenClaim := { program := "ythjogeodclpafaa", sum := "13fbee73d69ee76911382f97d4294f50ae0c3f315c23e11c38b97872e7739d73", func := "cellplane/cellplanelaw25.QueueRoom", spec := "queueRoom", inPlace := ["slices.overlaps[cellplane/api.Lease]"], unfollowed := true, recurses := true, apart := false }
def QueueRoomSaid : Prop := queueRoomRow.holds Try.pinned (OpenSpec.ofChange queueRoomSpec)

/-- ITS FALSE NEIGHBOUR: 'it returns false'. Refute it at one input. -/
def queueRoomWrong : ChangeSpec := { name := "queueRoom", fn := fun _ => fun
  | [d1, d2] => { results := [.lit (.bool false)], args := [d1, d2] }
  | _ => none }
def QueueRoomWrongFalsely : Prop := queueRoomRow.holds Try.pinned (OpenSpec.ofChange queueRoomWrong)

/-- 'cellplanelaw25.QueueFolds': WHATEVER THE INPUT: true; the input reads as it did. -/
def queueFoldsSpec : ChangeSpec := { name := "queueFolds", fn := fun _ => fun
  | [d1, d2, d3] => { results := [.lit (.bool true)], args := [d1, d2, d3] }
  | _ => none }
def queueFoldsRow : OpenClaim := { program := "ythjogeodclpafaa", sum := "13fbee73d69ee76911382f97d4294f50ae0c3f315c23e11c38b97872e7739d73", func := "cellplane/cellplanelaw25.QueueFolds", spec := "queueFolds", inPlace := ["slices.overlaps[cellplane/api.Lease]"], unfollowed := true, recurses := true, apart := false }
def QueueFoldsSaid : Prop := queueFoldsRow.holds Try.pinned (OpenSpec.ofChange queueFoldsSpec)

/-- ITS FALSE NEIGHBOUR: 'it returns false'. Refute it at one input. -/
def queueFoldsWrong : ChangeSpec := { name := "queueFolds", fn := fun _ => fun
  | [d1, d2, d3] => { results := [.lit (.bool false)], args := [d1, d2, d3] }
  | _ => none }
def QueueFoldsWrongFalsely : Prop := queueFoldsRow.holds Try.pinned (OpenSpec.ofChange queueFoldsWrong)

/-- 'cellplanelaw25.QueueWaits': WHATEVER THE INPUT: true; the input reads as it did. -/
def queueWaitsSpec : ChangeSpec := { name := "queueWaits", fn := fun _ => fun
  | [d] => { results := [.lit (.bool true)], args := [d] }
  | _ => none }
def queueWaitsRow : OpenClaim := { program := "ythjogeodclpafaa", sum := "13fbee73d69ee76911382f97d4294f50ae0c3f315c23e11c38b97872e7739d73", func := "cellplane/cellplanelaw25.QueueWaits", spec := "queueWaits", inPlace := ["slices.overlaps[cellplane/api.Lease]"], unfollowed := true, recurses := true, apart := false }
def QueueWaitsSaid : Prop := queueWaitsRow.holds Try.pinned (OpenSpec.ofChange queueWaitsSpec)

/-- ITS FALSE NEIGHBOUR: 'it returns false'. Refute it at one input. -/
def queueWaitsWrong : ChangeSpec := { name := "queueWaits", fn := fun _ => fun
  | [d] => { results := [.lit (.bool false)], args := [d] }
  | _ => none }
def QueueWaitsWrongFalsely : Prop := queueWaitsRow.holds Try.pinned (OpenSpec.ofChange queueWaitsWrong)

/-- 'cellplanelaw25.QueueTurns': WHATEVER THE INPUT: true; the input reads as it did. -/
def queueTurnsSpec : ChangeSpec := { name := "queueTurns", fn := fun _ => fun
  | [d1, d2, d3, d4] => { results := [.lit (.bool true)], args := [d1, d2, d3, d4] }
  | _ => none }
def queueTurnsRow : OpenClaim := { program := "ythjogeodclpafaa", sum := "13fbee73d69ee76911382f97d4294f50ae0c3f315c23e11c38b97872e7739d73", func := "cellplane/cellplanelaw25.QueueTurns", spec := "queueTurns", inPlace := ["slices.overlaps[cellplane/api.Lease]"], unfollowed := true, recurses := true, apart := false }
def QueueTurnsSaid : Prop := queueTurnsRow.holds Try.pinned (OpenSpec.ofChange queueTurnsSpec)

/-- ITS FALSE NEIGHBOUR: 'it returns false'. Refute it at one input. -/
def queueTurnsWrong : ChangeSpec := { name := "queueTurns", fn := fun _ => fun
  | [d1, d2, d3, d4] => { results := [.lit (.bool false)], args := [d1, d2, d3, d4] }
  | _ => none }
def QueueTurnsWrongFalsely : Prop := queueTurnsRow.holds Try.pinned (OpenSpec.ofChange queueTurnsWrong)

/-- 'cellplanelaw25.QueueApart': WHATEVER THE INPUT: true; the input reads as it did. -/
def queueApartSpec : ChangeSpec := { name := "queueApart", fn := fun _ => fun
  | [d1, d2, d3] => { results := [.lit (.bool true)], args := [d1, d2, d3] }
  | _ => none }
def queueApartRow : OpenClaim := { program := "ythjogeodclpafaa", sum := "13fbee73d69ee76911382f97d4294f50ae0c3f315c23e11c38b97872e7739d73", func := "cellplane/cellplanelaw25.QueueApart", spec := "queueApart", inPlace := ["slices.overlaps[cellplane/api.Lease]"], unfollowed := true, recurses := true, apart := false }
def QueueApartSaid : Prop := queueApartRow.holds Try.pinned (OpenSpec.ofChange queueApartSpec)

/-- ITS FALSE NEIGHBOUR: 'it returns false'. Refute it at one input. -/
def queueApartWrong : ChangeSpec := { name := "queueApart", fn := fun _ => fun
  | [d1, d2, d3] => { results := [.lit (.bool false)], args := [d1, d2, d3] }
  | _ => none }
def QueueApartWrongFalsely : Prop := queueApartRow.holds Try.pinned (OpenSpec.ofChange queueApartWrong)

/-- 'cellplanelaw25.QueuePlays': WHATEVER THE INPUT: true; the input reads as it did. -/
def queuePlaysSpec : ChangeSpec := { name := "queuePlays", fn := fun _ => fun
  | [d1, d2, d3, d4, d5, d6] => { results := [.lit (.bool true)], args := [d1, d2, d3, d4, d5, d6] }
  | _ => none }
def queuePlaysRow : OpenClaim := { program := "ythjogeodclpafaa", sum := "13fbee73d69ee76911382f97d4294f50ae0c3f315c23e11c38b97872e7739d73", func := "cellplane/cellplanelaw25.QueuePlays", spec := "queuePlays", inPlace := ["slices.overlaps[cellplane/api.Lease]"], unfollowed := true, recurses := true, apart := false }
def QueuePlaysSaid : Prop := queuePlaysRow.holds Try.pinned (OpenSpec.ofChange queuePlaysSpec)

/-- ITS FALSE NEIGHBOUR: 'it returns false'. Refute it at one input. -/
def queuePlaysWrong : ChangeSpec := { name := "queuePlays", fn := fun _ => fun
  | [d1, d2, d3, d4, d5, d6] => { results := [.lit (.bool false)], args := [d1, d2, d3, d4, d5, d6] }
  | _ => none }
def QueuePlaysWrongFalsely : Prop := queuePlaysRow.holds Try.pinned (OpenSpec.ofChange queuePlaysWrong)

/-- 'cellplanelaw25.QueueSames': WHATEVER THE INPUT: true; the input reads as it did. -/
def queueSamesSpec : ChangeSpec := { name := "queueSames", fn := fun _ => fun
  | [d1, d2, d3, d4] => { results := [.lit (.bool true)], args := [d1, d2, d3, d4] }
  | _ => none }
def queueSamesRow : OpenClaim := { program := "ythjogeodclpafaa", sum := "13fbee73d69ee76911382f97d4294f50ae0c3f315c23e11c38b97872e7739d73", func := "cellplane/cellplanelaw25.QueueSames", spec := "queueSames", inPlace := ["slices.overlaps[cellplane/api.Lease]"], unfollowed := true, recurses := true, apart := false }
def QueueSamesSaid : Prop := queueSamesRow.holds Try.pinned (OpenSpec.ofChange queueSamesSpec)

/-- ITS FALSE NEIGHBOUR: 'it returns false'. Refute it at one input. -/
def queueSamesWrong : ChangeSpec := { name := "queueSames", fn := fun _ => fun
  | [d1, d2, d3, d4] => { results := [.lit (.bool false)], args := [d1, d2, d3, d4] }
  | _ => none }
def QueueSamesWrongFalsely : Prop := queueSamesRow.holds Try.pinned (OpenSpec.ofChange queueSamesWrong)

/- THE SECOND FORM. 'bulk': how many values and letters a reading holds, each counted each time it is reached (what is shared counts as often as it is met; a slice's spare places count too). A statement '..UptoSaid' is the law's where the arguments, and the package variables that the reading takes, are together of bulk at most 1048576: NARROWER than '..Said'. Prove '..Said' where nothing that the law and all that it calls make is longer than what came in: it says more and counts as full. Else prove '..UptoSaid'. A law counts once. -/
mutual
def uptoBulk {H : Type} : DataW H → Nat
  | .lit (.string bytes) => bytes.length + 1
  | .lit _ => 1
  | .nil => 1
  | .ptr d => uptoBulk d + 1
  | .slice elems spare => uptoBulkAll elems + uptoBulkAll spare + 1
  | .agg parts => uptoBulkAll parts + 1
  | .iface _ d => uptoBulk d + 1
  | .map entries => uptoBulkEntries entries + 1
  | .held _ => 1
def uptoBulkAll {H : Type} : List (DataW H) → Nat
  | [] => 0
  | d :: r => uptoBulk d + uptoBulkAll r
def uptoBulkEntries {H : Type} : List (Lit × DataW H) → Nat
  | [] => 0
  | x :: r => uptoBulkEntry x + uptoBulkEntries r
def uptoBulkEntry {H : Type} : Lit × DataW H → Nat
  | (.string bytes, d) => bytes.length + uptoBulk d + 1
  | (_, d) => uptoBulk d + 1
 end
def uptoSmall : (H : Type) → List (DataW H) → Bool := fun _ ds => decide (uptoBulkAll ds ≤ 1048576)
def OpenSpec.upto (s : _root_.Go.ChangeSpec) : _root_.Go.OpenSpec := { _root_.Go.OpenSpec.ofChange s with cond := some uptoSmall }

/-- 'cellplanelaw25.QueueRoom', WHERE WHAT IT READS IS OF BULK AT MOST 1048576: true; the input reads as it did. -/
def queueRoomUptoRow : OpenClaim := { program := "ythjogeodclpafaa", sum := "13fbee73d69ee76911382f97d4294f50ae0c3f315c23e11c38b97872e7739d73", func := "cellplane/cellplanelaw25.QueueRoom", spec := "queueRoom", inPlace := ["slices.overlaps[cellplane/api.Lease]"], unfollowed := true, recurses := true, apart := false, narrowed := true }
def QueueRoomUptoSaid : Prop := queueRoomUptoRow.holds Try.pinned (OpenSpec.upto queueRoomSpec)

/-- 'cellplanelaw25.QueueFolds', WHERE WHAT IT READS IS OF BULK AT MOST 1048576: true; the input reads as it did. -/
def queueFoldsUptoRow : OpenClaim := { program := "ythjogeodclpafaa", sum := "13fbee73d69ee76911382f97d4294f50ae0c3f315c23e11c38b97872e7739d73", func := "cellplane/cellplanelaw25.QueueFolds", spec := "queueFolds", inPlace := ["slices.overlaps[cellplane/api.Lease]"], unfollowed := true, recurses := true, apart := false, narrowed := true }
def QueueFoldsUptoSaid : Prop := queueFoldsUptoRow.holds Try.pinned (OpenSpec.upto queueFoldsSpec)

/-- 'cellplanelaw25.QueueWaits', WHERE WHAT IT READS IS OF BULK AT MOST 1048576: true; the input reads as it did. -/
def queueWaitsUptoRow : OpenClaim := { program := "ythjogeodclpafaa", sum := "13fbee73d69ee76911382f97d4294f50ae0c3f315c23e11c38b97872e7739d73", func := "cellplane/cellplanelaw25.QueueWaits", spec := "queueWaits", inPlace := ["slices.overlaps[cellplane/api.Lease]"], unfollowed := true, recurses := true, apart := false, narrowed := true }
def QueueWaitsUptoSaid : Prop := queueWaitsUptoRow.holds Try.pinned (OpenSpec.upto queueWaitsSpec)

/-- 'cellplanelaw25.QueueTurns', WHERE WHAT IT READS IS OF BULK AT MOST 1048576: true; the input reads as it did. -/
def queueTurnsUptoRow : OpenClaim := { program := "ythjogeodclpafaa", sum := "13fbee73d69ee76911382f97d4294f50ae0c3f315c23e11c38b97872e7739d73", func := "cellplane/cellplanelaw25.QueueTurns", spec := "queueTurns", inPlace := ["slices.overlaps[cellplane/api.Lease]"], unfollowed := true, recurses := true, apart := false, narrowed := true }
def QueueTurnsUptoSaid : Prop := queueTurnsUptoRow.holds Try.pinned (OpenSpec.upto queueTurnsSpec)

/-- 'cellplanelaw25.QueueApart', WHERE WHAT IT READS IS OF BULK AT MOST 1048576: true; the input reads as it did. -/
def queueApartUptoRow : OpenClaim := { program := "ythjogeodclpafaa", sum := "13fbee73d69ee76911382f97d4294f50ae0c3f315c23e11c38b97872e7739d73", func := "cellplane/cellplanelaw25.QueueApart", spec := "queueApart", inPlace := ["slices.overlaps[cellplane/api.Lease]"], unfollowed := true, recurses := true, apart := false, narrowed := true }
def QueueApartUptoSaid : Prop := queueApartUptoRow.holds Try.pinned (OpenSpec.upto queueApartSpec)

/-- 'cellplanelaw25.QueuePlays', WHERE WHAT IT READS IS OF BULK AT MOST 1048576: true; the input reads as it did. -/
def queuePlaysUptoRow : OpenClaim := { program := "ythjogeodclpafaa", sum := "13fbee73d69ee76911382f97d4294f50ae0c3f315c23e11c38b97872e7739d73", func := "cellplane/cellplanelaw25.QueuePlays", spec := "queuePlays", inPlace := ["slices.overlaps[cellplane/api.Lease]"], unfollowed := true, recurses := true, apart := false, narrowed := true }
def QueuePlaysUptoSaid : Prop := queuePlaysUptoRow.holds Try.pinned (OpenSpec.upto queuePlaysSpec)

/-- 'cellplanelaw25.QueueSames', WHERE WHAT IT READS IS OF BULK AT MOST 1048576: true; the input reads as it did. -/
def queueSamesUptoRow : OpenClaim := { program := "ythjogeodclpafaa", sum := "13fbee73d69ee76911382f97d4294f50ae0c3f315c23e11c38b97872e7739d73", func := "cellplane/cellplanelaw25.QueueSames", spec := "queueSames", inPlace := ["slices.overlaps[cellplane/api.Lease]"], unfollowed := true, recurses := true, apart := false, narrowed := true }
def QueueSamesUptoSaid : Prop := queueSamesUptoRow.holds Try.pinned (OpenSpec.upto queueSamesSpec)

end Rows
end Go.Proofs.Ythjogeodclpafaa
