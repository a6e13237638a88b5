/-
  No cell of these rows narrows 'for every input' (looked for: loops, veiled, ifaces, maps, wideKeys, modest, calm, conditions, laid).
  DERIVED. THE GIVEN ROWS OF THIS SEAT. 6 by the template 'for every input the law returns true; each argument reads behind the call as it read before'; 0 by the template 'total and deterministic' (their statements: YtfjhipaoljnfaaaTotals.lean).
  GIVEN WITH THE SEED: the statements are not yours to turn. If you find one false, say at which input.
  Laid BY PROGRAM, IN A SANDBOX (cutbox-rows.mjs): the forced cells as the released guide's own fill.sh prints them over the translation 337652f1a754fe43… (all of the seat's roots in one cut). By AI agents, Wed Nov 11 2026. No macro, syntax, notation, axiom, sorry.
-/
import Derived.Test.YtfjhipaoljnfaaaChecked
import GoSem.Claim
import GoSem.ClaimJoined
import GoSem.ClaimMapViews
import Derived.JoinedTies
import Derived.KernelRfl
namespace Go.Proofs.Ytfjhipaoljnfaaa
/- THE CELL 'sum', in the pinned program and in every row, IS THE sha256 OF THE DUMP (.gsa) THAT YtfjhipaoljnfaaaProg.lean LOADS. Nothing in Lean hashes anything: it is a label: what it is worth is what the hold of that sum in a sandbox is worth. -/
noncomputable def Try.pinned : Pinned := { name := "ytfjhipaoljnfaaa", sum := "337652f1a754fe43b167416189d5195c2741cca8ab6b09d59561a690989c472f", checked := Try.checked }
namespace Rows
def none {H : Type} : Left H := { results := [], args := [] }

/-- 'armillarylaw04.BestTwice': WHATEVER THE INPUT: true; the input reads as it did. -/
def bestTwiceSpec : ChangeSpec := { name := "bestTwice", fn := fun _ => fun
  | [d1, d2, d3] => { results := [.lit (.bool true)], args := [d1, d2, d3] }
  | _ => none }
def bestTwiceRow : OpenClaim := { program := "ytfjhipaoljnfaaa", sum := "337652f1a754fe43b167416189d5195c2741cca8ab6b09d59561a690989c472f", func := "armillary/armillarylaw04.BestTwice", spec := "bestTwice", inPlace := ["slices.overlaps[armillary/api.Hit]"], unfollowed := true, recurses := true, apart := false }
def BestTwiceSaid : Prop := bestTwiceRow.holds Try.pinned (OpenSpec.ofChange bestTwiceSpec)

/-- ITS FALSE NEIGHBOUR: 'it returns false'. Refute it at one input. -/
def bestTwiceWrong : ChangeSpec := { name := "bestTwice", fn := fun _ => fun
  | [d1, d2, d3] => { results := [.lit (.bool false)], args := [d1, d2, d3] }
  | _ => none }
def BestTwiceWrongFalsely : Prop := bestTwiceRow.holds Try.pinned (OpenSpec.ofChange bestTwiceWrong)

/-- 'armillarylaw04.BestMany': WHATEVER THE INPUT: true; the input reads as it did. -/
def bestManySpec : ChangeSpec := { name := "bestMany", fn := fun _ => fun
  | [d1, d2] => { results := [.lit (.bool true)], args := [d1, d2] }
  | _ => none }
def bestManyRow : OpenClaim := { program := "ytfjhipaoljnfaaa", sum := "337652f1a754fe43b167416189d5195c2741cca8ab6b09d59561a690989c472f", func := "armillary/armillarylaw04.BestMany", spec := "bestMany", inPlace := ["slices.overlaps[armillary/api.Hit]"], unfollowed := true, recurses := true, apart := false }
def BestManySaid : Prop := bestManyRow.holds Try.pinned (OpenSpec.ofChange bestManySpec)

/-- ITS FALSE NEIGHBOUR: 'it returns false'. Refute it at one input. -/
def bestManyWrong : ChangeSpec := { name := "bestMany", fn := fun _ => fun
  | [d1, d2] => { results := [.lit (.bool false)], args := [d1, d2] }
  | _ => none }
def BestManyWrongFalsely : Prop := bestManyRow.holds Try.pinned (OpenSpec.ofChange bestManyWrong)

/-- 'armillarylaw04.BestMerges': WHATEVER THE INPUT: true; the input reads as it did. -/
def bestMergesSpec : ChangeSpec := { name := "bestMerges", fn := fun _ => fun
  | [d1, d2] => { results := [.lit (.bool true)], args := [d1, d2] }
  | _ => none }
def bestMergesRow : OpenClaim := { program := "ytfjhipaoljnfaaa", sum := "337652f1a754fe43b167416189d5195c2741cca8ab6b09d59561a690989c472f", func := "armillary/armillarylaw04.BestMerges", spec := "bestMerges", inPlace := ["slices.overlaps[armillary/api.Hit]"], unfollowed := true, recurses := true, apart := false }
def BestMergesSaid : Prop := bestMergesRow.holds Try.pinned (OpenSpec.ofChange bestMergesSpec)

/-- ITS FALSE NEIGHBOUR: 'it returns false'. Refute it at one input. -/
def bestMergesWrong : ChangeSpec := { name := "bestMerges", fn := fun _ => fun
  | [d1, d2] => { results := [.lit (.bool false)], args := [d1, d2] }
  | _ => none }
def BestMergesWrongFalsely : Prop := bestMergesRow.holds Try.pinned (OpenSpec.ofChange bestMergesWrong)

/-- 'armillarylaw04.BestOrders': WHATEVER THE INPUT: true; the input reads as it did. -/
def bestOrdersSpec : ChangeSpec := { name := "bestOrders", fn := fun _ => fun
  | [d1, d2] => { results := [.lit (.bool true)], args := [d1, d2] }
  | _ => none }
def bestOrdersRow : OpenClaim := { program := "ytfjhipaoljnfaaa", sum := "337652f1a754fe43b167416189d5195c2741cca8ab6b09d59561a690989c472f", func := "armillary/armillarylaw04.BestOrders", spec := "bestOrders", inPlace := ["slices.overlaps[armillary/api.Hit]"], unfollowed := true, recurses := true, apart := false }
def BestOrdersSaid : Prop := bestOrdersRow.holds Try.pinned (OpenSpec.ofChange bestOrdersSpec)

/-- ITS FALSE NEIGHBOUR: 'it returns false'. Refute it at one input. -/
def bestOrdersWrong : ChangeSpec := { name := "bestOrders", fn := fun _ => fun
  | [d1, d2] => { results := [.lit (.bool false)], args := [d1, d2] }
  | _ => none }
def BestOrdersWrongFalsely : Prop := bestOrdersRow.holds Try.pinned (OpenSpec.ofChange bestOrdersWrong)

/-- 'armillarylaw04.BestRoom': WHATEVER THE INPUT: true; the input reads as it did. -/
def bestRoomSpec : ChangeSpec := { name := "bestRoom", fn := fun _ => fun
  | [d1, d2, d3] => { results := [.lit (.bool true)], args := [d1, d2, d3] }
  | _ => none }
def bestRoomRow : OpenClaim := { program := "ytfjhipaoljnfaaa", sum := "337652f1a754fe43b167416189d5195c2741cca8ab6b09d59561a690989c472f", func := "armillary/armillarylaw04.BestRoom", spec := "bestRoom", inPlace := ["slices.overlaps[armillary/api.Hit]"], unfollowed := true, recurses := true, apart := false }
def BestRoomSaid : Prop := bestRoomRow.holds Try.pinned (OpenSpec.ofChange bestRoomSpec)

/-- ITS FALSE NEIGHBOUR: 'it returns false'. Refute it at one input. -/
def bestRoomWrong : ChangeSpec := { name := "bestRoom", fn := fun _ => fun
  | [d1, d2, d3] => { results := [.lit (.bool false)], args := [d1, d2, d3] }
  | _ => none }
def BestRoomWrongFalsely : Prop := bestRoomRow.holds Try.pinned (OpenSpec.ofChange bestRoomWrong)

/-- 'armillarylaw04.BestPlays': WHATEVER THE INPUT: true; the input reads as it did. -/
def bestPlaysSpec : ChangeSpec := { name := "bestPlays", fn := fun _ => fun
  | [d1, d2] => { results := [.lit (.bool true)], args := [d1, d2] }
  | _ => none }
def bestPlaysRow : OpenClaim := { program := "ytfjhipaoljnfaaa", sum := "337652f1a754fe43b167416189d5195c2741cca8ab6b09d59561a690989c472f", func := "armillary/armillarylaw04.BestPlays", spec := "bestPlays", inPlace := ["slices.overlaps[armillary/api.Hit]"], unfollowed := true, recurses := true, apart := false }
def BestPlaysSaid : Prop := bestPlaysRow.holds Try.pinned (OpenSpec.ofChange bestPlaysSpec)

/-- ITS FALSE NEIGHBOUR: 'it returns false'. Refute it at one input. -/
def bestPlaysWrong : ChangeSpec := { name := "bestPlays", fn := fun _ => fun
  | [d1, d2] => { results := [.lit (.bool false)], args := [d1, d2] }
  | _ => none }
def BestPlaysWrongFalsely : Prop := bestPlaysRow.holds Try.pinned (OpenSpec.ofChange bestPlaysWrong)

/- THE SECOND FORM. 'bulk': how many values and letters a reading holds, each counted each time it is reached (what is shared counts as often as it is met; a slice's spare places count too). A statement '..UptoSaid' is the law's where the arguments, and the package variables that the reading takes, are together of bulk at most 1048576: NARROWER than '..Said'. Prove '..Said' where nothing that the law and all that it calls make is longer than what came in: it says more and counts as full. Else prove '..UptoSaid'. A law counts once. -/
mutual
def uptoBulk {H : Type} : DataW H → Nat
  | .lit (.string bytes) => bytes.length + 1
  | .lit _ => 1
  | .nil => 1
  | .ptr d => uptoBulk d + 1
  | .slice elems spare => uptoBulkAll elems + uptoBulkAll spare + 1
  | .agg parts => uptoBulkAll parts + 1
  | .iface _ d => uptoBulk d + 1
  | .map entries => uptoBulkEntries entries + 1
  | .held _ => 1
def uptoBulkAll {H : Type} : List (DataW H) → Nat
  | [] => 0
  | d :: r => uptoBulk d + uptoBulkAll r
def uptoBulkEntries {H : Type} : List (Lit × DataW H) → Nat
  | [] => 0
  | x :: r => uptoBulkEntry x + uptoBulkEntries r
def uptoBulkEntry {H : Type} : Lit × DataW H → Nat
  | (.string bytes, d) => bytes.length + uptoBulk d + 1
  | (_, d) => uptoBulk d + 1
 end
def uptoSmall : (H : Type) → List (DataW H) → Bool := fun _ ds => decide (uptoBulkAll ds ≤ 1048576)
def OpenSpec.upto (s : _root_.Go.ChangeSpec) : _root_.Go.OpenSpec := { _root_.Go.OpenSpec.ofChange s with cond := some uptoSmall }

/-- 'armillarylaw04.BestTwice', WHERE WHAT IT READS IS OF BULK AT MOST 1048576: true; the input reads as it did. -/
def bestTwiceUptoRow : OpenClaim := { program := "ytfjhipaoljnfaaa", sum := "337652f1a754fe43b167416189d5195c2741cca8ab6b09d59561a690989c472f", func := "armillary/armillarylaw04.BestTwice", spec := "bestTwice", inPlace := ["slices.overlaps[armillary/api.Hit]"], unfollowed := true, recurses := true, apart := false, narrowed := true }
def BestTwiceUptoSaid : Prop := bestTwiceUptoRow.holds Try.pinned (OpenSpec.upto bestTwiceSpec)

/-- 'armillarylaw04.BestMany', WHERE WHAT IT READS IS OF BULK AT MOST 1048576: true; the input reads as it did. -/
def bestManyUptoRow : OpenClaim := { program := "ytfjhipaoljnfaaa", sum := "337652f1a754fe43b167416189d5195c2741cca8ab6b09d59561a690989c472f", func := "armillary/armillarylaw04.BestMany", spec := "bestMany", inPlace := ["slices.overlaps[armillary/api.Hit]"], unfollowed := true, recurses := true, apart := false, narrowed := true }
def BestManyUptoSaid : Prop := bestManyUptoRow.holds Try.pinned (OpenSpec.upto bestManySpec)

/-- 'armillarylaw04.BestMerges', WHERE WHAT IT READS IS OF BULK AT MOST 1048576: true; the input reads as it did. -/
def bestMergesUptoRow : OpenClaim := { program := "ytfjhipaoljnfaaa", sum := "337652f1a754fe43b167416189d5195c2741cca8ab6b09d59561a690989c472f", func := "armillary/armillarylaw04.BestMerges", spec := "bestMerges", inPlace := ["slices.overlaps[armillary/api.Hit]"], unfollowed := true, recurses := true, apart := false, narrowed := true }
def BestMergesUptoSaid : Prop := bestMergesUptoRow.holds Try.pinned (OpenSpec.upto bestMergesSpec)

/-- 'armillarylaw04.BestOrders', WHERE WHAT IT READS IS OF BULK AT MOST 1048576: true; the input reads as it did. -/
def bestOrdersUptoRow : OpenClaim := { program := "ytfjhipaoljnfaaa", sum := "337652f1a754fe43b167416189d5195c2741cca8ab6b09d59561a690989c472f", func := "armillary/armillarylaw04.BestOrders", spec := "bestOrders", inPlace := ["slices.overlaps[armillary/api.Hit]"], unfollowed := true, recurses := true, apart := false, narrowed := true }
def BestOrdersUptoSaid : Prop := bestOrdersUptoRow.holds Try.pinned (OpenSpec.upto bestOrdersSpec)

/-- 'armillarylaw04.BestRoom', WHERE WHAT IT READS IS OF BULK AT MOST 1048576: true; the input reads as it did. -/
def bestRoomUptoRow : OpenClaim := { program := "ytfjhipaoljnfaaa", sum := "337652f1a754fe43b167416189d5195c2741cca8ab6b09d59561a690989c472f", func := "armillary/armillarylaw04.BestRoom", spec := "bestRoom", inPlace := ["slices.overlaps[armillary/api.Hit]"], unfollowed := true, recurses := true, apart := false, narrowed := true }
def BestRoomUptoSaid : Prop := bestRoomUptoRow.holds Try.pinned (OpenSpec.upto bestRoomSpec)

/-- 'armillarylaw04.BestPlays', WHERE WHAT IT READS IS OF BULK AT MOST 1048576: true; the input reads as it did. -/
def bestPlaysUptoRow : OpenClaim := { program := "ytfjhipaoljnfaaa", sum := "337652f1a754fe43b167416189d5195c2741cca8ab6b09d59561a690989c472f", func := "armillary/armillarylaw04.BestPlays", spec := "bestPlays", inPlace := ["slices.overlaps[armillary/api.Hit]"], unfollowed := true, recurses := true, apart := false, narrowed := true }
def BestPlaysUptoSaid : Prop := bestPlaysUptoRow.holds Try.pinned (OpenSpec.upto bestPlaysSpec)

end Rows
end Go.Proofs.Ytfjhipaoljnfaaa
