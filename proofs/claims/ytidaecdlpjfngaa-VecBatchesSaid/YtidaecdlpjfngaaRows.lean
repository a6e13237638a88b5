/-
  No cell of these rows narrows 'for every input' (looked for: loops, veiled, ifaces, maps, wideKeys, modest, calm, conditions, laid).
  DERIVED. THE GIVEN ROWS OF THIS SEAT. 8 by the template 'for every input the law returns true; each argument reads behind the call as it read before'; 0 by the template 'total and deterministic' (their statements: YtidaecdlpjfngaaTotals.lean).
  GIVEN WITH THE SEED: the statements are not yours to turn. If you find one false, say at which input.
  Laid BY PROGRAM, IN A SANDBOX (cutbox-rows.mjs): the forced cells as the released guide's own fill.sh prints them over the translation d01c9d618f8dc76c… (all of the seat's roots in one cut). By AI agents, Wed Nov 11 2026. No macro, syntax, notation, axiom, sorry.
-/
import Derived.Test.YtidaecdlpjfngaaChecked
import GoSem.Claim
import GoSem.ClaimJoined
import GoSem.ClaimMapViews
import Derived.JoinedTies
import Derived.KernelRfl
namespace Go.Proofs.Ytidaecdlpjfngaa
/- THE CELL 'sum', in the pinned program and in every row, IS THE sha256 OF THE DUMP (.gsa) THAT YtidaecdlpjfngaaProg.lean LOADS. Nothing in Lean hashes anything: it is a label: what it is worth is what the hold of that sum in a sandbox is worth. -/
noncomputable def Try.pinned : Pinned := { name := "ytidaecdlpjfngaa", sum := "d01c9d618f8dc76c05148232020bc867e9301c8a70a1d23124d35ccf2d6b11a4", checked := Try.checked }
namespace Rows
def none {H : Type} : Left H := { results := [], args := [] }

/-- 'armillarylaw03.VecSquares': WHATEVER THE INPUT: true; the input reads as it did. -/
def vecSquaresSpec : ChangeSpec := { name := "vecSquares", fn := fun _ => fun
  | [d1, d2, d3] => { results := [.lit (.bool true)], args := [d1, d2, d3] }
  | _ => none }
def vecSquaresRow : OpenClaim := { program := "ytidaecdlpjfngaa", sum := "d01c9d618f8dc76c05148232020bc867e9301c8a70a1d23124d35ccf2d6b11a4", func := "armillary/armillarylaw03.VecSquares", spec := "vecSquares", unfollowed := true, recurses := true, apart := false }
def VecSquaresSaid : Prop := vecSquaresRow.holds Try.pinned (OpenSpec.ofChange vecSquaresSpec)

/-- ITS FALSE NEIGHBOUR: 'it returns false'. Refute it at one input. -/
def vecSquaresWrong : ChangeSpec := { name := "vecSquares", fn := fun _ => fun
  | [d1, d2, d3] => { results := [.lit (.bool false)], args := [d1, d2, d3] }
  | _ => none }
def VecSquaresWrongFalsely : Prop := vecSquaresRow.holds Try.pinned (OpenSpec.ofChange vecSquaresWrong)

/-- 'armillarylaw03.VecSpread': WHATEVER THE INPUT: true; the input reads as it did. -/
def vecSpreadSpec : ChangeSpec := { name := "vecSpread", fn := fun _ => fun
  | [d1, d2] => { results := [.lit (.bool true)], args := [d1, d2] }
  | _ => none }
def vecSpreadRow : OpenClaim := { program := "ytidaecdlpjfngaa", sum := "d01c9d618f8dc76c05148232020bc867e9301c8a70a1d23124d35ccf2d6b11a4", func := "armillary/armillarylaw03.VecSpread", spec := "vecSpread", unfollowed := true, recurses := true, apart := false }
def VecSpreadSaid : Prop := vecSpreadRow.holds Try.pinned (OpenSpec.ofChange vecSpreadSpec)

/-- ITS FALSE NEIGHBOUR: 'it returns false'. Refute it at one input. -/
def vecSpreadWrong : ChangeSpec := { name := "vecSpread", fn := fun _ => fun
  | [d1, d2] => { results := [.lit (.bool false)], args := [d1, d2] }
  | _ => none }
def VecSpreadWrongFalsely : Prop := vecSpreadRow.holds Try.pinned (OpenSpec.ofChange vecSpreadWrong)

/-- 'armillarylaw03.VecEdges': WHATEVER THE INPUT: true; the input reads as it did. -/
def vecEdgesSpec : ChangeSpec := { name := "vecEdges", fn := fun _ => fun
  | [d1, d2, d3] => { results := [.lit (.bool true)], args := [d1, d2, d3] }
  | _ => none }
def vecEdgesRow : OpenClaim := { program := "ytidaecdlpjfngaa", sum := "d01c9d618f8dc76c05148232020bc867e9301c8a70a1d23124d35ccf2d6b11a4", func := "armillary/armillarylaw03.VecEdges", spec := "vecEdges", unfollowed := true, recurses := true, apart := false }
def VecEdgesSaid : Prop := vecEdgesRow.holds Try.pinned (OpenSpec.ofChange vecEdgesSpec)

/-- ITS FALSE NEIGHBOUR: 'it returns false'. Refute it at one input. -/
def vecEdgesWrong : ChangeSpec := { name := "vecEdges", fn := fun _ => fun
  | [d1, d2, d3] => { results := [.lit (.bool false)], args := [d1, d2, d3] }
  | _ => none }
def VecEdgesWrongFalsely : Prop := vecEdgesRow.holds Try.pinned (OpenSpec.ofChange vecEdgesWrong)

/-- 'armillarylaw03.VecNears': WHATEVER THE INPUT: true; the input reads as it did. -/
def vecNearsSpec : ChangeSpec := { name := "vecNears", fn := fun _ => fun
  | [d1, d2, d3] => { results := [.lit (.bool true)], args := [d1, d2, d3] }
  | _ => none }
def vecNearsRow : OpenClaim := { program := "ytidaecdlpjfngaa", sum := "d01c9d618f8dc76c05148232020bc867e9301c8a70a1d23124d35ccf2d6b11a4", func := "armillary/armillarylaw03.VecNears", spec := "vecNears", unfollowed := true, recurses := true, apart := false }
def VecNearsSaid : Prop := vecNearsRow.holds Try.pinned (OpenSpec.ofChange vecNearsSpec)

/-- ITS FALSE NEIGHBOUR: 'it returns false'. Refute it at one input. -/
def vecNearsWrong : ChangeSpec := { name := "vecNears", fn := fun _ => fun
  | [d1, d2, d3] => { results := [.lit (.bool false)], args := [d1, d2, d3] }
  | _ => none }
def VecNearsWrongFalsely : Prop := vecNearsRow.holds Try.pinned (OpenSpec.ofChange vecNearsWrong)

/-- 'armillarylaw03.VecDists': WHATEVER THE INPUT: true; the input reads as it did. -/
def vecDistsSpec : ChangeSpec := { name := "vecDists", fn := fun _ => fun
  | [d1, d2] => { results := [.lit (.bool true)], args := [d1, d2] }
  | _ => none }
def vecDistsRow : OpenClaim := { program := "ytidaecdlpjfngaa", sum := "d01c9d618f8dc76c05148232020bc867e9301c8a70a1d23124d35ccf2d6b11a4", func := "armillary/armillarylaw03.VecDists", spec := "vecDists", unfollowed := true, recurses := true, apart := false }
def VecDistsSaid : Prop := vecDistsRow.holds Try.pinned (OpenSpec.ofChange vecDistsSpec)

/-- ITS FALSE NEIGHBOUR: 'it returns false'. Refute it at one input. -/
def vecDistsWrong : ChangeSpec := { name := "vecDists", fn := fun _ => fun
  | [d1, d2] => { results := [.lit (.bool false)], args := [d1, d2] }
  | _ => none }
def VecDistsWrongFalsely : Prop := vecDistsRow.holds Try.pinned (OpenSpec.ofChange vecDistsWrong)

/-- 'armillarylaw03.VecHomes': WHATEVER THE INPUT: true; the input reads as it did. -/
def vecHomesSpec : ChangeSpec := { name := "vecHomes", fn := fun _ => fun
  | [d1, d2] => { results := [.lit (.bool true)], args := [d1, d2] }
  | _ => none }
def vecHomesRow : OpenClaim := { program := "ytidaecdlpjfngaa", sum := "d01c9d618f8dc76c05148232020bc867e9301c8a70a1d23124d35ccf2d6b11a4", func := "armillary/armillarylaw03.VecHomes", spec := "vecHomes", unfollowed := true, recurses := true, apart := false }
def VecHomesSaid : Prop := vecHomesRow.holds Try.pinned (OpenSpec.ofChange vecHomesSpec)

/-- ITS FALSE NEIGHBOUR: 'it returns false'. Refute it at one input. -/
def vecHomesWrong : ChangeSpec := { name := "vecHomes", fn := fun _ => fun
  | [d1, d2] => { results := [.lit (.bool false)], args := [d1, d2] }
  | _ => none }
def VecHomesWrongFalsely : Prop := vecHomesRow.holds Try.pinned (OpenSpec.ofChange vecHomesWrong)

/-- 'armillarylaw03.VecChecks': WHATEVER THE INPUT: true; the input reads as it did. -/
def vecChecksSpec : ChangeSpec := { name := "vecChecks", fn := fun _ => fun
  | [d1, d2] => { results := [.lit (.bool true)], args := [d1, d2] }
  | _ => none }
def vecChecksRow : OpenClaim := { program := "ytidaecdlpjfngaa", sum := "d01c9d618f8dc76c05148232020bc867e9301c8a70a1d23124d35ccf2d6b11a4", func := "armillary/armillarylaw03.VecChecks", spec := "vecChecks", unfollowed := true, recurses := true, apart := false }
def VecChecksSaid : Prop := vecChecksRow.holds Try.pinned (OpenSpec.ofChange vecChecksSpec)

/-- ITS FALSE NEIGHBOUR: 'it returns false'. Refute it at one input. -/
def vecChecksWrong : ChangeSpec := { name := "vecChecks", fn := fun _ => fun
  | [d1, d2] => { results := [.lit (.bool false)], args := [d1, d2] }
  | _ => none }
def VecChecksWrongFalsely : Prop := vecChecksRow.holds Try.pinned (OpenSpec.ofChange vecChecksWrong)

/-- 'armillarylaw03.VecBatches': WHATEVER THE INPUT: true; the input reads as it did. -/
def vecBatchesSpec : ChangeSpec := { name := "vecBatches", fn := fun _ => fun
  | [d1, d2, d3] => { results := [.lit (.bool true)], args := [d1, d2, d3] }
  | _ => none }
def vecBatchesRow : OpenClaim := { program := "ytidaecdlpjfngaa", sum := "d01c9d618f8dc76c05148232020bc867e9301c8a70a1d23124d35ccf2d6b11a4", func := "armillary/armillarylaw03.VecBatches", spec := "vecBatches", unfollowed := true, recurses := true, apart := false }
def VecBatchesSaid : Prop := vecBatchesRow.holds Try.pinned (OpenSpec.ofChange vecBatchesSpec)

/-- ITS FALSE NEIGHBOUR: 'it returns false'. Refute it at one input. -/
def vecBatchesWrong : ChangeSpec := { name := "vecBatches", fn := fun _ => fun
  | [d1, d2, d3] => { results := [.lit (.bool false)], args := [d1, d2, d3] }
  | _ => none }
def VecBatchesWrongFalsely : Prop := vecBatchesRow.holds Try.pinned (OpenSpec.ofChange vecBatchesWrong)

/- THE SECOND FORM. 'bulk': how many values and letters a reading holds, each counted each time it is reached (what is shared counts as often as it is met; a slice's spare places count too). A statement '..UptoSaid' is the law's where the arguments, and the package variables that the reading takes, are together of bulk at most 1048576: NARROWER than '..Said'. Prove '..Said' where nothing that the law and all that it calls make is longer than what came in: it says more and counts as full. Else prove '..UptoSaid'. A law counts once. -/
mutual
def uptoBulk {H : Type} : DataW H → Nat
  | .lit (.string bytes) => bytes.length + 1
  | .lit _ => 1
  | .nil => 1
  | .ptr d => uptoBulk d + 1
  | .slice elems spare => uptoBulkAll elems + uptoBulkAll spare + 1
  | .agg parts => uptoBulkAll parts + 1
  | .iface _ d => uptoBulk d + 1
  | .map entries => uptoBulkEntries entries + 1
  | .held _ => 1
def uptoBulkAll {H : Type} : List (DataW H) → Nat
  | [] => 0
  | d :: r => uptoBulk d + uptoBulkAll r
def uptoBulkEntries {H : Type} : List (Lit × DataW H) → Nat
  | [] => 0
  | x :: r => uptoBulkEntry x + uptoBulkEntries r
def uptoBulkEntry {H : Type} : Lit × DataW H → Nat
  | (.string bytes, d) => bytes.length + uptoBulk d + 1
  | (_, d) => uptoBulk d + 1
 end
def uptoSmall : (H : Type) → List (DataW H) → Bool := fun _ ds => decide (uptoBulkAll ds ≤ 1048576)
def OpenSpec.upto (s : _root_.Go.ChangeSpec) : _root_.Go.OpenSpec := { _root_.Go.OpenSpec.ofChange s with cond := some uptoSmall }

/-- 'armillarylaw03.VecSquares', WHERE WHAT IT READS IS OF BULK AT MOST 1048576: true; the input reads as it did. -/
def vecSquaresUptoRow : OpenClaim := { program := "ytidaecdlpjfngaa", sum := "d01c9d618f8dc76c05148232020bc867e9301c8a70a1d23124d35ccf2d6b11a4", func := "armillary/armillarylaw03.VecSquares", spec := "vecSquares", unfollowed := true, recurses := true, apart := false, narrowed := true }
def VecSquaresUptoSaid : Prop := vecSquaresUptoRow.holds Try.pinned (OpenSpec.upto vecSquaresSpec)

/-- 'armillarylaw03.VecSpread', WHERE WHAT IT READS IS OF BULK AT MOST 1048576: true; the input reads as it did. -/
def vecSpreadUptoRow : OpenClaim := { program := "ytidaecdlpjfngaa", sum := "d01c9d618f8dc76c05148232020bc867e9301c8a70a1d23124d35ccf2d6b11a4", func := "armillary/armillarylaw03.VecSpread", spec := "vecSpread", unfollowed := true, recurses := true, apart := false, narrowed := true }
def VecSpreadUptoSaid : Prop := vecSpreadUptoRow.holds Try.pinned (OpenSpec.upto vecSpreadSpec)

/-- 'armillarylaw03.VecEdges', WHERE WHAT IT READS IS OF BULK AT MOST 1048576: true; the input reads as it did. -/
def vecEdgesUptoRow : OpenClaim := { program := "ytidaecdlpjfngaa", sum := "d01c9d618f8dc76c05148232020bc867e9301c8a70a1d23124d35ccf2d6b11a4", func := "armillary/armillarylaw03.VecEdges", spec := "vecEdges", unfollowed := true, recurses := true, apart := false, narrowed := true }
def VecEdgesUptoSaid : Prop := vecEdgesUptoRow.holds Try.pinned (OpenSpec.upto vecEdgesSpec)

/-- 'armillarylaw03.VecNears', WHERE WHAT IT READS IS OF BULK AT MOST 1048576: true; the input reads as it did. -/
def vecNearsUptoRow : OpenClaim := { program := "ytidaecdlpjfngaa", sum := "d01c9d618f8dc76c05148232020bc867e9301c8a70a1d23124d35ccf2d6b11a4", func := "armillary/armillarylaw03.VecNears", spec := "vecNears", unfollowed := true, recurses := true, apart := false, narrowed := true }
def VecNearsUptoSaid : Prop := vecNearsUptoRow.holds Try.pinned (OpenSpec.upto vecNearsSpec)

/-- 'armillarylaw03.VecDists', WHERE WHAT IT READS IS OF BULK AT MOST 1048576: true; the input reads as it did. -/
def vecDistsUptoRow : OpenClaim := { program := "ytidaecdlpjfngaa", sum := "d01c9d618f8dc76c05148232020bc867e9301c8a70a1d23124d35ccf2d6b11a4", func := "armillary/armillarylaw03.VecDists", spec := "vecDists", unfollowed := true, recurses := true, apart := false, narrowed := true }
def VecDistsUptoSaid : Prop := vecDistsUptoRow.holds Try.pinned (OpenSpec.upto vecDistsSpec)

/-- 'armillarylaw03.VecHomes', WHERE WHAT IT READS IS OF BULK AT MOST 1048576: true; the input reads as it did. -/
def vecHomesUptoRow : OpenClaim := { program := "ytidaecdlpjfngaa", sum := "d01c9d618f8dc76c05148232020bc867e9301c8a70a1d23124d35ccf2d6b11a4", func := "armillary/armillarylaw03.VecHomes", spec := "vecHomes", unfollowed := true, recurses := true, apart := false, narrowed := true }
def VecHomesUptoSaid : Prop := vecHomesUptoRow.holds Try.pinned (OpenSpec.upto vecHomesSpec)

/-- 'armillarylaw03.VecChecks', WHERE WHAT IT READS IS OF BULK AT MOST 1048576: true; the input reads as it did. -/
def vecChecksUptoRow : OpenClaim := { program := "ytidaecdlpjfngaa", sum := "d01c9d618f8dc76c05148232020bc867e9301c8a70a1d23124d35ccf2d6b11a4", func := "armillary/armillarylaw03.VecChecks", spec := "vecChecks", unfollowed := true, recurses := true, apart := false, narrowed := true }
def VecChecksUptoSaid : Prop := vecChecksUptoRow.holds Try.pinned (OpenSpec.upto vecChecksSpec)

/-- 'armillarylaw03.VecBatches', WHERE WHAT IT READS IS OF BULK AT MOST 1048576: true; the input reads as it did. -/
def vecBatchesUptoRow : OpenClaim := { program := "ytidaecdlpjfngaa", sum := "d01c9d618f8dc76c05148232020bc867e9301c8a70a1d23124d35ccf2d6b11a4", func := "armillary/armillarylaw03.VecBatches", spec := "vecBatches", unfollowed := true, recurses := true, apart := false, narrowed := true }
def VecBatchesUptoSaid : Prop := vecBatchesUptoRow.holds Try.pinned (OpenSpec.upto vecBatchesSpec)

end Rows
end Go.Proofs.Ytidaecdlpjfngaa
