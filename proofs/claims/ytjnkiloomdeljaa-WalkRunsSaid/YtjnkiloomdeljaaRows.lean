/-
  No cell of these rows narrows 'for every input' (looked for: loops, veiled, ifaces, maps, wideKeys, modest, calm, conditions, laid).
  DERIVED. THE GIVEN ROWS OF THIS SEAT. 5 by the template 'for every input the law returns true; each argument reads behind the call as it read before'; 0 by the template 'total and deterministic' (their statements: YtjnkiloomdeljaaTotals.lean).
  GIVEN WITH THE SEED: the statements are not yours to turn. If you find one false, say at which input.
  Laid BY PROGRAM, IN A SANDBOX (cutbox-rows.mjs): the forced cells as the released guide's own fill.sh prints them over the translation 5083624fa00864f5… (all of the seat's roots in one cut). By AI agents, Wed Nov 11 2026. No macro, syntax, notation, axiom, sorry.
-/
import Derived.Test.YtjnkiloomdeljaaChecked
import GoSem.Claim
import GoSem.ClaimJoined
import GoSem.ClaimMapViews
import Derived.JoinedTies
import Derived.KernelRfl
namespace Go.Proofs.Ytjnkiloomdeljaa
/- THE CELL 'sum', in the pinned program and in every row, IS THE sha256 OF THE DUMP (.gsa) THAT YtjnkiloomdeljaaProg.lean LOADS. Nothing in Lean hashes anything: it is a label: what it is worth is what the hold of that sum in a sandbox is worth. -/
noncomputable def Try.pinned : Pinned := { name := "ytjnkiloomdeljaa", sum := "5083624fa00864f5d4ac3e7c7c7ef0071353935ca2f9badea242c427f93f9214", checked := Try.checked }
namespace Rows
def none {H : Type} : Left H := { results := [], args := [] }

/-- 'armillarylaw10.WalkRuns': WHATEVER THE INPUT: true; the input reads as it did. -/
def walkRunsSpec : ChangeSpec := { name := "walkRuns", fn := fun _ => fun
  | [d1, d2, d3, d4] => { results := [.lit (.bool true)], args := [d1, d2, d3, d4] }
  | _ => none }
def walkRunsRow : OpenClaim := { program := "ytjnkiloomdeljaa", sum := "5083624fa00864f5d4ac3e7c7c7ef0071353935ca2f9badea242c427f93f9214", func := "armillary/armillarylaw10.WalkRuns", spec := "walkRuns", inPlace := ["slices.overlaps[armillary/api.Hit]"], unfollowed := true, recurses := true, apart := false }
def WalkRunsSaid : Prop := walkRunsRow.holds Try.pinned (OpenSpec.ofChange walkRunsSpec)

/-- ITS FALSE NEIGHBOUR: 'it returns false'. Refute it at one input. -/
def walkRunsWrong : ChangeSpec := { name := "walkRuns", fn := fun _ => fun
  | [d1, d2, d3, d4] => { results := [.lit (.bool false)], args := [d1, d2, d3, d4] }
  | _ => none }
def WalkRunsWrongFalsely : Prop := walkRunsRow.holds Try.pinned (OpenSpec.ofChange walkRunsWrong)

/-- 'armillarylaw10.WalkEnds': WHATEVER THE INPUT: true; the input reads as it did. -/
def walkEndsSpec : ChangeSpec := { name := "walkEnds", fn := fun _ => fun
  | [d1, d2, d3] => { results := [.lit (.bool true)], args := [d1, d2, d3] }
  | _ => none }
def walkEndsRow : OpenClaim := { program := "ytjnkiloomdeljaa", sum := "5083624fa00864f5d4ac3e7c7c7ef0071353935ca2f9badea242c427f93f9214", func := "armillary/armillarylaw10.WalkEnds", spec := "walkEnds", inPlace := ["slices.overlaps[armillary/api.Hit]"], unfollowed := true, recurses := true, apart := false }
def WalkEndsSaid : Prop := walkEndsRow.holds Try.pinned (OpenSpec.ofChange walkEndsSpec)

/-- ITS FALSE NEIGHBOUR: 'it returns false'. Refute it at one input. -/
def walkEndsWrong : ChangeSpec := { name := "walkEnds", fn := fun _ => fun
  | [d1, d2, d3] => { results := [.lit (.bool false)], args := [d1, d2, d3] }
  | _ => none }
def WalkEndsWrongFalsely : Prop := walkEndsRow.holds Try.pinned (OpenSpec.ofChange walkEndsWrong)

/-- 'armillarylaw10.WalkWhole': WHATEVER THE INPUT: true; the input reads as it did. -/
def walkWholeSpec : ChangeSpec := { name := "walkWhole", fn := fun _ => fun
  | [d1, d2, d3, d4] => { results := [.lit (.bool true)], args := [d1, d2, d3, d4] }
  | _ => none }
def walkWholeRow : OpenClaim := { program := "ytjnkiloomdeljaa", sum := "5083624fa00864f5d4ac3e7c7c7ef0071353935ca2f9badea242c427f93f9214", func := "armillary/armillarylaw10.WalkWhole", spec := "walkWhole", inPlace := ["slices.overlaps[armillary/api.Hit]"], unfollowed := true, recurses := true, apart := false }
def WalkWholeSaid : Prop := walkWholeRow.holds Try.pinned (OpenSpec.ofChange walkWholeSpec)

/-- ITS FALSE NEIGHBOUR: 'it returns false'. Refute it at one input. -/
def walkWholeWrong : ChangeSpec := { name := "walkWhole", fn := fun _ => fun
  | [d1, d2, d3, d4] => { results := [.lit (.bool false)], args := [d1, d2, d3, d4] }
  | _ => none }
def WalkWholeWrongFalsely : Prop := walkWholeRow.holds Try.pinned (OpenSpec.ofChange walkWholeWrong)

/-- 'armillarylaw10.WalkBounds': WHATEVER THE INPUT: true; the input reads as it did. -/
def walkBoundsSpec : ChangeSpec := { name := "walkBounds", fn := fun _ => fun
  | [d1, d2, d3, d4] => { results := [.lit (.bool true)], args := [d1, d2, d3, d4] }
  | _ => none }
def walkBoundsRow : OpenClaim := { program := "ytjnkiloomdeljaa", sum := "5083624fa00864f5d4ac3e7c7c7ef0071353935ca2f9badea242c427f93f9214", func := "armillary/armillarylaw10.WalkBounds", spec := "walkBounds", inPlace := ["slices.overlaps[armillary/api.Hit]"], unfollowed := true, recurses := true, apart := false }
def WalkBoundsSaid : Prop := walkBoundsRow.holds Try.pinned (OpenSpec.ofChange walkBoundsSpec)

/-- ITS FALSE NEIGHBOUR: 'it returns false'. Refute it at one input. -/
def walkBoundsWrong : ChangeSpec := { name := "walkBounds", fn := fun _ => fun
  | [d1, d2, d3, d4] => { results := [.lit (.bool false)], args := [d1, d2, d3, d4] }
  | _ => none }
def WalkBoundsWrongFalsely : Prop := walkBoundsRow.holds Try.pinned (OpenSpec.ofChange walkBoundsWrong)

/-- 'armillarylaw10.WalkStops': WHATEVER THE INPUT: true; the input reads as it did. -/
def walkStopsSpec : ChangeSpec := { name := "walkStops", fn := fun _ => fun
  | [d1, d2, d3, d4] => { results := [.lit (.bool true)], args := [d1, d2, d3, d4] }
  | _ => none }
def walkStopsRow : OpenClaim := { program := "ytjnkiloomdeljaa", sum := "5083624fa00864f5d4ac3e7c7c7ef0071353935ca2f9badea242c427f93f9214", func := "armillary/armillarylaw10.WalkStops", spec := "walkStops", inPlace := ["slices.overlaps[armillary/api.Hit]"], unfollowed := true, recurses := true, apart := false }
def WalkStopsSaid : Prop := walkStopsRow.holds Try.pinned (OpenSpec.ofChange walkStopsSpec)

/-- ITS FALSE NEIGHBOUR: 'it returns false'. Refute it at one input. -/
def walkStopsWrong : ChangeSpec := { name := "walkStops", fn := fun _ => fun
  | [d1, d2, d3, d4] => { results := [.lit (.bool false)], args := [d1, d2, d3, d4] }
  | _ => none }
def WalkStopsWrongFalsely : Prop := walkStopsRow.holds Try.pinned (OpenSpec.ofChange walkStopsWrong)

/- THE SECOND FORM. 'bulk': how many values and letters a reading holds, each counted each time it is reached (what is shared counts as often as it is met; a slice's spare places count too). A statement '..UptoSaid' is the law's where the arguments, and the package variables that the reading takes, are together of bulk at most 1048576: NARROWER than '..Said'. Prove '..Said' where nothing that the law and all that it calls make is longer than what came in: it says more and counts as full. Else prove '..UptoSaid'. A law counts once. -/
mutual
def uptoBulk {H : Type} : DataW H → Nat
  | .lit (.string bytes) => bytes.length + 1
  | .lit _ => 1
  | .nil => 1
  | .ptr d => uptoBulk d + 1
  | .slice elems spare => uptoBulkAll elems + uptoBulkAll spare + 1
  | .agg parts => uptoBulkAll parts + 1
  | .iface _ d => uptoBulk d + 1
  | .map entries => uptoBulkEntries entries + 1
  | .held _ => 1
def uptoBulkAll {H : Type} : List (DataW H) → Nat
  | [] => 0
  | d :: r => uptoBulk d + uptoBulkAll r
def uptoBulkEntries {H : Type} : List (Lit × DataW H) → Nat
  | [] => 0
  | x :: r => uptoBulkEntry x + uptoBulkEntries r
def uptoBulkEntry {H : Type} : Lit × DataW H → Nat
  | (.string bytes, d) => bytes.length + uptoBulk d + 1
  | (_, d) => uptoBulk d + 1
 end
def uptoSmall : (H : Type) → List (DataW H) → Bool := fun _ ds => decide (uptoBulkAll ds ≤ 1048576)
def OpenSpec.upto (s : _root_.Go.ChangeSpec) : _root_.Go.OpenSpec := { _root_.Go.OpenSpec.ofChange s with cond := some uptoSmall }

/-- 'armillarylaw10.WalkRuns', WHERE WHAT IT READS IS OF BULK AT MOST 1048576: true; the input reads as it did. -/
def walkRunsUptoRow : OpenClaim := { program := "ytjnkiloomdeljaa", sum := "5083624fa00864f5d4ac3e7c7c7ef0071353935ca2f9badea242c427f93f9214", func := "armillary/armillarylaw10.WalkRuns", spec := "walkRuns", inPlace := ["slices.overlaps[armillary/api.Hit]"], unfollowed := true, recurses := true, apart := false, narrowed := true }
def WalkRunsUptoSaid : Prop := walkRunsUptoRow.holds Try.pinned (OpenSpec.upto walkRunsSpec)

/-- 'armillarylaw10.WalkEnds', WHERE WHAT IT READS IS OF BULK AT MOST 1048576: true; the input reads as it did. -/
def walkEndsUptoRow : OpenClaim := { program := "ytjnkiloomdeljaa", sum := "5083624fa00864f5d4ac3e7c7c7ef0071353935ca2f9badea242c427f93f9214", func := "armillary/armillarylaw10.WalkEnds", spec := "walkEnds", inPlace := ["slices.overlaps[armillary/api.Hit]"], unfollowed := true, recurses := true, apart := false, narrowed := true }
def WalkEndsUptoSaid : Prop := walkEndsUptoRow.holds Try.pinned (OpenSpec.upto walkEndsSpec)

/-- 'armillarylaw10.WalkWhole', WHERE WHAT IT READS IS OF BULK AT MOST 1048576: true; the input reads as it did. -/
def walkWholeUptoRow : OpenClaim := { program := "ytjnkiloomdeljaa", sum := "5083624fa00864f5d4ac3e7c7c7ef0071353935ca2f9badea242c427f93f9214", func := "armillary/armillarylaw10.WalkWhole", spec := "walkWhole", inPlace := ["slices.overlaps[armillary/api.Hit]"], unfollowed := true, recurses := true, apart := false, narrowed := true }
def WalkWholeUptoSaid : Prop := walkWholeUptoRow.holds Try.pinned (OpenSpec.upto walkWholeSpec)

/-- 'armillarylaw10.WalkBounds', WHERE WHAT IT READS IS OF BULK AT MOST 1048576: true; the input reads as it did. -/
def walkBoundsUptoRow : OpenClaim := { program := "ytjnkiloomdeljaa", sum := "5083624fa00864f5d4ac3e7c7c7ef0071353935ca2f9badea242c427f93f9214", func := "armillary/armillarylaw10.WalkBounds", spec := "walkBounds", inPlace := ["slices.overlaps[armillary/api.Hit]"], unfollowed := true, recurses := true, apart := false, narrowed := true }
def WalkBoundsUptoSaid : Prop := walkBoundsUptoRow.holds Try.pinned (OpenSpec.upto walkBoundsSpec)

/-- 'armillarylaw10.WalkStops', WHERE WHAT IT READS IS OF BULK AT MOST 1048576: true; the input reads as it did. -/
def walkStopsUptoRow : OpenClaim := { program := "ytjnkiloomdeljaa", sum := "5083624fa00864f5d4ac3e7c7c7ef0071353935ca2f9badea242c427f93f9214", func := "armillary/armillarylaw10.WalkStops", spec := "walkStops", inPlace := ["slices.overlaps[armillary/api.Hit]"], unfollowed := true, recurses := true, apart := false, narrowed := true }
def WalkStopsUptoSaid : Prop := walkStopsUptoRow.holds Try.pinned (OpenSpec.upto walkStopsSpec)

end Rows
end Go.Proofs.Ytjnkiloomdeljaa
