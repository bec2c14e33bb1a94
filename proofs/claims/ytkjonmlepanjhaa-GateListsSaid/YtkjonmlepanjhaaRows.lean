/-
  No cell of these rows narrows 'for every input' (looked for: loops, veiled, ifaces, maps, wideKeys, modest, calm, conditions, laid).
  DERIVED. THE GIVEN ROWS OF THIS SEAT. 5 by the template 'for every input the law returns true; each argument reads behind the call as it read before'; 0 by the template 'total and deterministic' (their statements: YtkjonmlepanjhaaTotals.lean).
  GIVEN WITH THE SEED: the statements are not yours to turn. If you find one false, say at which input.
  Laid BY PROGRAM, IN A SANDBOX (cutbox-rows.mjs): the forced cells as the released guide's own fill.sh prints them over the translation d9b100912bfe35e2… (all of the seat's roots in one cut). By AI agents, Wed Nov 11 2026. No macro, syntax, notation, axiom, sorry.
-/
import Derived.Test.YtkjonmlepanjhaaChecked
import GoSem.Claim
import GoSem.ClaimJoined
import GoSem.ClaimMapViews
import Derived.JoinedTies
import Derived.KernelRfl
namespace Go.Proofs.Ytkjonmlepanjhaa
/- THE CELL 'sum', in the pinned program and in every row, IS THE sha256 OF THE DUMP (.gsa) THAT YtkjonmlepanjhaaProg.lean LOADS. Nothing in Lean hashes anything: it is a label: what it is worth is what the hold of that sum in a sandbox is worth. -/
noncomputable def Try.pinned : Pinned := { name := "ytkjonmlepanjhaa", sum := "d9b100912bfe35e29f22eccf97147ad45a064791b502fd45932b00dfa5282a35", checked := Try.checked }
namespace Rows
def none {H : Type} : Left H := { results := [], args := [] }

/-- 'cellplanelaw27.GateScans': WHATEVER THE INPUT: true; the input reads as it did. -/
def gateScansSpec : ChangeSpec := { name := "gateScans", fn := fun _ => fun
  | [d1, d2, d3] => { results := [.lit (.bool true)], args := [d1, d2, d3] }
  | _ => none }
def gateScansRow : OpenClaim := { program := "ytkjonmlepanjhaa", sum := "d9b100912bfe35e29f22eccf97147ad45a064791b502fd45932b00dfa5282a35", func := "cellplane/cellplanelaw27.GateScans", spec := "gateScans", inPlace := ["slices.overlaps[cellplane/api.Window]"], unfollowed := true, recurses := true, apart := false }
def GateScansSaid : Prop := gateScansRow.holds Try.pinned (OpenSpec.ofChange gateScansSpec)

/-- ITS FALSE NEIGHBOUR: 'it returns false'. Refute it at one input. -/
def gateScansWrong : ChangeSpec := { name := "gateScans", fn := fun _ => fun
  | [d1, d2, d3] => { results := [.lit (.bool false)], args := [d1, d2, d3] }
  | _ => none }
def GateScansWrongFalsely : Prop := gateScansRow.holds Try.pinned (OpenSpec.ofChange gateScansWrong)

/-- 'cellplanelaw27.GateClosed': WHATEVER THE INPUT: true; the input reads as it did. -/
def gateClosedSpec : ChangeSpec := { name := "gateClosed", fn := fun _ => fun
  | [d1, d2, d3, d4, d5] => { results := [.lit (.bool true)], args := [d1, d2, d3, d4, d5] }
  | _ => none }
def gateClosedRow : OpenClaim := { program := "ytkjonmlepanjhaa", sum := "d9b100912bfe35e29f22eccf97147ad45a064791b502fd45932b00dfa5282a35", func := "cellplane/cellplanelaw27.GateClosed", spec := "gateClosed", inPlace := ["slices.overlaps[cellplane/api.Window]"], unfollowed := true, recurses := true, apart := false }
def GateClosedSaid : Prop := gateClosedRow.holds Try.pinned (OpenSpec.ofChange gateClosedSpec)

/-- ITS FALSE NEIGHBOUR: 'it returns false'. Refute it at one input. -/
def gateClosedWrong : ChangeSpec := { name := "gateClosed", fn := fun _ => fun
  | [d1, d2, d3, d4, d5] => { results := [.lit (.bool false)], args := [d1, d2, d3, d4, d5] }
  | _ => none }
def GateClosedWrongFalsely : Prop := gateClosedRow.holds Try.pinned (OpenSpec.ofChange gateClosedWrong)

/-- 'cellplanelaw27.GateLess': WHATEVER THE INPUT: true; the input reads as it did. -/
def gateLessSpec : ChangeSpec := { name := "gateLess", fn := fun _ => fun
  | [d1, d2, d3, d4, d5] => { results := [.lit (.bool true)], args := [d1, d2, d3, d4, d5] }
  | _ => none }
def gateLessRow : OpenClaim := { program := "ytkjonmlepanjhaa", sum := "d9b100912bfe35e29f22eccf97147ad45a064791b502fd45932b00dfa5282a35", func := "cellplane/cellplanelaw27.GateLess", spec := "gateLess", inPlace := ["slices.overlaps[cellplane/api.Window]"], unfollowed := true, recurses := true, apart := false }
def GateLessSaid : Prop := gateLessRow.holds Try.pinned (OpenSpec.ofChange gateLessSpec)

/-- ITS FALSE NEIGHBOUR: 'it returns false'. Refute it at one input. -/
def gateLessWrong : ChangeSpec := { name := "gateLess", fn := fun _ => fun
  | [d1, d2, d3, d4, d5] => { results := [.lit (.bool false)], args := [d1, d2, d3, d4, d5] }
  | _ => none }
def GateLessWrongFalsely : Prop := gateLessRow.holds Try.pinned (OpenSpec.ofChange gateLessWrong)

/-- 'cellplanelaw27.GateLists': WHATEVER THE INPUT: true; the input reads as it did. -/
def gateListsSpec : ChangeSpec := { name := "gateLists", fn := fun _ => fun
  | [d1, d2, d3, d4, d5] => { results := [.lit (.bool true)], args := [d1, d2, d3, d4, d5] }
  | _ => none }
def gateListsRow : OpenClaim := { program := "ytkjonmlepanjhaa", sum := "d9b100912bfe35e29f22eccf97147ad45a064791b502fd45932b00dfa5282a35", func := "cellplane/cellplanelaw27.GateLists", spec := "gateLists", inPlace := ["slices.overlaps[cellplane/api.Window]"], unfollowed := true, recurses := true, apart := false }
def GateListsSaid : Prop := gateListsRow.holds Try.pinned (OpenSpec.ofChange gateListsSpec)

/-- ITS FALSE NEIGHBOUR: 'it returns false'. Refute it at one input. -/
def gateListsWrong : ChangeSpec := { name := "gateLists", fn := fun _ => fun
  | [d1, d2, d3, d4, d5] => { results := [.lit (.bool false)], args := [d1, d2, d3, d4, d5] }
  | _ => none }
def GateListsWrongFalsely : Prop := gateListsRow.holds Try.pinned (OpenSpec.ofChange gateListsWrong)

/-- 'cellplanelaw27.GateCopies': WHATEVER THE INPUT: true; the input reads as it did. -/
def gateCopiesSpec : ChangeSpec := { name := "gateCopies", fn := fun _ => fun
  | [d1, d2, d3, d4, d5] => { results := [.lit (.bool true)], args := [d1, d2, d3, d4, d5] }
  | _ => none }
def gateCopiesRow : OpenClaim := { program := "ytkjonmlepanjhaa", sum := "d9b100912bfe35e29f22eccf97147ad45a064791b502fd45932b00dfa5282a35", func := "cellplane/cellplanelaw27.GateCopies", spec := "gateCopies", inPlace := ["slices.overlaps[cellplane/api.Window]"], unfollowed := true, recurses := true, apart := false }
def GateCopiesSaid : Prop := gateCopiesRow.holds Try.pinned (OpenSpec.ofChange gateCopiesSpec)

/-- ITS FALSE NEIGHBOUR: 'it returns false'. Refute it at one input. -/
def gateCopiesWrong : ChangeSpec := { name := "gateCopies", fn := fun _ => fun
  | [d1, d2, d3, d4, d5] => { results := [.lit (.bool false)], args := [d1, d2, d3, d4, d5] }
  | _ => none }
def GateCopiesWrongFalsely : Prop := gateCopiesRow.holds Try.pinned (OpenSpec.ofChange gateCopiesWrong)

/- THE SECOND FORM. 'bulk': how many values and letters a reading holds, each counted each time it is reached (what is shared counts as often as it is met; a slice's spare places count too). A statement '..UptoSaid' is the law's where the arguments, and the package variables that the reading takes, are together of bulk at most 1048576: NARROWER than '..Said'. Prove '..Said' where nothing that the law and all that it calls make is longer than what came in: it says more and counts as full. Else prove '..UptoSaid'. A law counts once. -/
mutual
def uptoBulk {H : Type} : DataW H → Nat
  | .lit (.string bytes) => bytes.length + 1
  | .lit _ => 1
  | .nil => 1
  | .ptr d => uptoBulk d + 1
  | .slice elems spare => uptoBulkAll elems + uptoBulkAll spare + 1
  | .agg parts => uptoBulkAll parts + 1
  | .iface _ d => uptoBulk d + 1
  | .map entries => uptoBulkEntries entries + 1
  | .held _ => 1
def uptoBulkAll {H : Type} : List (DataW H) → Nat
  | [] => 0
  | d :: r => uptoBulk d + uptoBulkAll r
def uptoBulkEntries {H : Type} : List (Lit × DataW H) → Nat
  | [] => 0
  | x :: r => uptoBulkEntry x + uptoBulkEntries r
def uptoBulkEntry {H : Type} : Lit × DataW H → Nat
  | (.string bytes, d) => bytes.length + uptoBulk d + 1
  | (_, d) => uptoBulk d + 1
 end
def uptoSmall : (H : Type) → List (DataW H) → Bool := fun _ ds => decide (uptoBulkAll ds ≤ 1048576)
def OpenSpec.upto (s : _root_.Go.ChangeSpec) : _root_.Go.OpenSpec := { _root_.Go.OpenSpec.ofChange s with cond := some uptoSmall }

/-- 'cellplanelaw27.GateScans', WHERE WHAT IT READS IS OF BULK AT MOST 1048576: true; the input reads as it did. -/
def gateScansUptoRow : OpenClaim := { program := "ytkjonmlepanjhaa", sum := "d9b100912bfe35e29f22eccf97147ad45a064791b502fd45932b00dfa5282a35", func := "cellplane/cellplanelaw27.GateScans", spec := "gateScans", inPlace := ["slices.overlaps[cellplane/api.Window]"], unfollowed := true, recurses := true, apart := false, narrowed := true }
def GateScansUptoSaid : Prop := gateScansUptoRow.holds Try.pinned (OpenSpec.upto gateScansSpec)

/-- 'cellplanelaw27.GateClosed', WHERE WHAT IT READS IS OF BULK AT MOST 1048576: true; the input reads as it did. -/
def gateClosedUptoRow : OpenClaim := { program := "ytkjonmlepanjhaa", sum := "d9b100912bfe35e29f22eccf97147ad45a064791b502fd45932b00dfa5282a35", func := "cellplane/cellplanelaw27.GateClosed", spec := "gateClosed", inPlace := ["slices.overlaps[cellplane/api.Window]"], unfollowed := true, recurses := true, apart := false, narrowed := true }
def GateClosedUptoSaid : Prop := gateClosedUptoRow.holds Try.pinned (OpenSpec.upto gateClosedSpec)

/-- 'cellplanelaw27.GateLess', WHERE WHAT IT READS IS OF BULK AT MOST 1048576: true; the input reads as it did. -/
def gateLessUptoRow : OpenClaim := { program := "ytkjonmlepanjhaa", sum := "d9b100912bfe35e29f22eccf97147ad45a064791b502fd45932b00dfa5282a35", func := "cellplane/cellplanelaw27.GateLess", spec := "gateLess", inPlace := ["slices.overlaps[cellplane/api.Window]"], unfollowed := true, recurses := true, apart := false, narrowed := true }
def GateLessUptoSaid : Prop := gateLessUptoRow.holds Try.pinned (OpenSpec.upto gateLessSpec)

/-- 'cellplanelaw27.GateLists', WHERE WHAT IT READS IS OF BULK AT MOST 1048576: true; the input reads as it did. -/
def gateListsUptoRow : OpenClaim := { program := "ytkjonmlepanjhaa", sum := "d9b100912bfe35e29f22eccf97147ad45a064791b502fd45932b00dfa5282a35", func := "cellplane/cellplanelaw27.GateLists", spec := "gateLists", inPlace := ["slices.overlaps[cellplane/api.Window]"], unfollowed := true, recurses := true, apart := false, narrowed := true }
def GateListsUptoSaid : Prop := gateListsUptoRow.holds Try.pinned (OpenSpec.upto gateListsSpec)

/-- 'cellplanelaw27.GateCopies', WHERE WHAT IT READS IS OF BULK AT MOST 1048576: true; the input reads as it did. -/
def gateCopiesUptoRow : OpenClaim := { program := "ytkjonmlepanjhaa", sum := "d9b100912bfe35e29f22eccf97147ad45a064791b502fd45932b00dfa5282a35", func := "cellplane/cellplanelaw27.GateCopies", spec := "gateCopies", inPlace := ["slices.overlaps[cellplane/api.Window]"], unfollowed := true, recurses := true, apart := false, narrowed := true }
def GateCopiesUptoSaid : Prop := gateCopiesUptoRow.holds Try.pinned (OpenSpec.upto gateCopiesSpec)

end Rows
end Go.Proofs.Ytkjonmlepanjhaa
