/-
  No cell of these rows narrows 'for every input' (looked for: loops, veiled, ifaces, maps, wideKeys, modest, calm, conditions, laid).
  DERIVED. THE GIVEN ROWS OF THIS SEAT. 6 by the template 'for every input the law returns true; each argument reads behind the call as it read before'; 0 by the template 'total and deterministic' (their statements: YtdbeekdnehojnaaTotals.lean).
  GIVEN WITH THE SEED: the statements are not yours to turn. If you find one false, say at which input.
  Laid BY PROGRAM, IN A SANDBOX (cutbox-rows.mjs): the forced cells as the released guide's own fill.sh prints them over the translation 0a7b51ed11ece8ba… (all of the seat's roots in one cut). By AI agents, Wed Nov 11 2026. No macro, syntax, notation, axiom, sorry.
-/
import Derived.Test.YtdbeekdnehojnaaChecked
import GoSem.Claim
import GoSem.ClaimJoined
import GoSem.ClaimMapViews
import Derived.JoinedTies
import Derived.KernelRfl
namespace Go.Proofs.Ytdbeekdnehojnaa
/- THE CELL 'sum', in the pinned program and in every row, IS THE sha256 OF THE DUMP (.gsa) THAT YtdbeekdnehojnaaProg.lean LOADS. Nothing in Lean hashes anything: it is a label: what it is worth is what the hold of that sum in a sandbox is worth. -/
noncomputable def Try.pinned : Pinned := { name := "ytdbeekdnehojnaa", sum := "0a7b51ed11ece8bac8f95fdafabc1fd1e3bc212182b33de8c7508643b8d154fa", checked := Try.checked }
namespace Rows
def none {H : Type} : Left H := { results := [], args := [] }

/-- 'armillarylaw09.GraphNeeds': WHATEVER THE INPUT: true; the input reads as it did. -/
def graphNeedsSpec : ChangeSpec := { name := "graphNeeds", fn := fun _ => fun
  | [d1, d2] => { results := [.lit (.bool true)], args := [d1, d2] }
  | _ => none }
def graphNeedsRow : OpenClaim := { program := "ytdbeekdnehojnaa", sum := "0a7b51ed11ece8bac8f95fdafabc1fd1e3bc212182b33de8c7508643b8d154fa", func := "armillary/armillarylaw09.GraphNeeds", spec := "graphNeeds", unfollowed := true, recurses := true, apart := false }
def GraphNeedsSaid : Prop := graphNeedsRow.holds Try.pinned (OpenSpec.ofChange graphNeedsSpec)

/-- ITS FALSE NEIGHBOUR: 'it returns false'. Refute it at one input. -/
def graphNeedsWrong : ChangeSpec := { name := "graphNeeds", fn := fun _ => fun
  | [d1, d2] => { results := [.lit (.bool false)], args := [d1, d2] }
  | _ => none }
def GraphNeedsWrongFalsely : Prop := graphNeedsRow.holds Try.pinned (OpenSpec.ofChange graphNeedsWrong)

/-- 'armillarylaw09.GraphJoins': WHATEVER THE INPUT: true; the input reads as it did. -/
def graphJoinsSpec : ChangeSpec := { name := "graphJoins", fn := fun _ => fun
  | [d1, d2, d3] => { results := [.lit (.bool true)], args := [d1, d2, d3] }
  | _ => none }
def graphJoinsRow : OpenClaim := { program := "ytdbeekdnehojnaa", sum := "0a7b51ed11ece8bac8f95fdafabc1fd1e3bc212182b33de8c7508643b8d154fa", func := "armillary/armillarylaw09.GraphJoins", spec := "graphJoins", unfollowed := true, recurses := true, apart := false }
def GraphJoinsSaid : Prop := graphJoinsRow.holds Try.pinned (OpenSpec.ofChange graphJoinsSpec)

/-- ITS FALSE NEIGHBOUR: 'it returns false'. Refute it at one input. -/
def graphJoinsWrong : ChangeSpec := { name := "graphJoins", fn := fun _ => fun
  | [d1, d2, d3] => { results := [.lit (.bool false)], args := [d1, d2, d3] }
  | _ => none }
def GraphJoinsWrongFalsely : Prop := graphJoinsRow.holds Try.pinned (OpenSpec.ofChange graphJoinsWrong)

/-- 'armillarylaw09.GraphMany': WHATEVER THE INPUT: true; the input reads as it did. -/
def graphManySpec : ChangeSpec := { name := "graphMany", fn := fun _ => fun
  | [d] => { results := [.lit (.bool true)], args := [d] }
  | _ => none }
def graphManyRow : OpenClaim := { program := "ytdbeekdnehojnaa", sum := "0a7b51ed11ece8bac8f95fdafabc1fd1e3bc212182b33de8c7508643b8d154fa", func := "armillary/armillarylaw09.GraphMany", spec := "graphMany", unfollowed := true, recurses := true, apart := false }
def GraphManySaid : Prop := graphManyRow.holds Try.pinned (OpenSpec.ofChange graphManySpec)

/-- ITS FALSE NEIGHBOUR: 'it returns false'. Refute it at one input. -/
def graphManyWrong : ChangeSpec := { name := "graphMany", fn := fun _ => fun
  | [d] => { results := [.lit (.bool false)], args := [d] }
  | _ => none }
def GraphManyWrongFalsely : Prop := graphManyRow.holds Try.pinned (OpenSpec.ofChange graphManyWrong)

/-- 'armillarylaw09.GraphBoth': WHATEVER THE INPUT: true; the input reads as it did. -/
def graphBothSpec : ChangeSpec := { name := "graphBoth", fn := fun _ => fun
  | [d] => { results := [.lit (.bool true)], args := [d] }
  | _ => none }
def graphBothRow : OpenClaim := { program := "ytdbeekdnehojnaa", sum := "0a7b51ed11ece8bac8f95fdafabc1fd1e3bc212182b33de8c7508643b8d154fa", func := "armillary/armillarylaw09.GraphBoth", spec := "graphBoth", unfollowed := true, recurses := true, apart := false }
def GraphBothSaid : Prop := graphBothRow.holds Try.pinned (OpenSpec.ofChange graphBothSpec)

/-- ITS FALSE NEIGHBOUR: 'it returns false'. Refute it at one input. -/
def graphBothWrong : ChangeSpec := { name := "graphBoth", fn := fun _ => fun
  | [d] => { results := [.lit (.bool false)], args := [d] }
  | _ => none }
def GraphBothWrongFalsely : Prop := graphBothRow.holds Try.pinned (OpenSpec.ofChange graphBothWrong)

/-- 'armillarylaw09.GraphSides': WHATEVER THE INPUT: true; the input reads as it did. -/
def graphSidesSpec : ChangeSpec := { name := "graphSides", fn := fun _ => fun
  | [d] => { results := [.lit (.bool true)], args := [d] }
  | _ => none }
def graphSidesRow : OpenClaim := { program := "ytdbeekdnehojnaa", sum := "0a7b51ed11ece8bac8f95fdafabc1fd1e3bc212182b33de8c7508643b8d154fa", func := "armillary/armillarylaw09.GraphSides", spec := "graphSides", unfollowed := true, recurses := true, apart := false }
def GraphSidesSaid : Prop := graphSidesRow.holds Try.pinned (OpenSpec.ofChange graphSidesSpec)

/-- ITS FALSE NEIGHBOUR: 'it returns false'. Refute it at one input. -/
def graphSidesWrong : ChangeSpec := { name := "graphSides", fn := fun _ => fun
  | [d] => { results := [.lit (.bool false)], args := [d] }
  | _ => none }
def GraphSidesWrongFalsely : Prop := graphSidesRow.holds Try.pinned (OpenSpec.ofChange graphSidesWrong)

/-- 'armillarylaw09.GraphPlays': WHATEVER THE INPUT: true; the input reads as it did. -/
def graphPlaysSpec : ChangeSpec := { name := "graphPlays", fn := fun _ => fun
  | [d1, d2, d3] => { results := [.lit (.bool true)], args := [d1, d2, d3] }
  | _ => none }
def graphPlaysRow : OpenClaim := { program := "ytdbeekdnehojnaa", sum := "0a7b51ed11ece8bac8f95fdafabc1fd1e3bc212182b33de8c7508643b8d154fa", func := "armillary/armillarylaw09.GraphPlays", spec := "graphPlays", unfollowed := true, recurses := true, apart := false }
def GraphPlaysSaid : Prop := graphPlaysRow.holds Try.pinned (OpenSpec.ofChange graphPlaysSpec)

/-- ITS FALSE NEIGHBOUR: 'it returns false'. Refute it at one input. -/
def graphPlaysWrong : ChangeSpec := { name := "graphPlays", fn := fun _ => fun
  | [d1, d2, d3] => { results := [.lit (.bool false)], args := [d1, d2, d3] }
  | _ => none }
def GraphPlaysWrongFalsely : Prop := graphPlaysRow.holds Try.pinned (OpenSpec.ofChange graphPlaysWrong)

/- THE SECOND FORM. 'bulk': how many values and letters a reading holds, each counted each time it is reached (what is shared counts as often as it is met; a slice's spare places count too). A statement '..UptoSaid' is the law's where the arguments, and the package variables that the reading takes, are together of bulk at most 1048576: NARROWER than '..Said'. Prove '..Said' where nothing that the law and all that it calls make is longer than what came in: it says more and counts as full. Else prove '..UptoSaid'. A law counts once. -/
mutual
def uptoBulk {H : Type} : DataW H → Nat
  | .lit (.string bytes) => bytes.length + 1
  | .lit _ => 1
  | .nil => 1
  | .ptr d => uptoBulk d + 1
  | .slice elems spare => uptoBulkAll elems + uptoBulkAll spare + 1
  | .agg parts => uptoBulkAll parts + 1
  | .iface _ d => uptoBulk d + 1
  | .map entries => uptoBulkEntries entries + 1
  | .held _ => 1
def uptoBulkAll {H : Type} : List (DataW H) → Nat
  | [] => 0
  | d :: r => uptoBulk d + uptoBulkAll r
def uptoBulkEntries {H : Type} : List (Lit × DataW H) → Nat
  | [] => 0
  | x :: r => uptoBulkEntry x + uptoBulkEntries r
def uptoBulkEntry {H : Type} : Lit × DataW H → Nat
  | (.string bytes, d) => bytes.length + uptoBulk d + 1
  | (_, d) => uptoBulk d + 1
 end
def uptoSmall : (H : Type) → List (DataW H) → Bool := fun _ ds => decide (uptoBulkAll ds ≤ 1048576)
def OpenSpec.upto (s : _root_.Go.ChangeSpec) : _root_.Go.OpenSpec := { _root_.Go.OpenSpec.ofChange s with cond := some uptoSmall }

/-- 'armillarylaw09.GraphNeeds', WHERE WHAT IT READS IS OF BULK AT MOST 1048576: true; the input reads as it did. -/
def graphNeedsUptoRow : OpenClaim := { program := "ytdbeekdnehojnaa", sum := "0a7b51ed11ece8bac8f95fdafabc1fd1e3bc212182b33de8c7508643b8d154fa", func := "armillary/armillarylaw09.GraphNeeds", spec := "graphNeeds", unfollowed := true, recurses := true, apart := false, narrowed := true }
def GraphNeedsUptoSaid : Prop := graphNeedsUptoRow.holds Try.pinned (OpenSpec.upto graphNeedsSpec)

/-- 'armillarylaw09.GraphJoins', WHERE WHAT IT READS IS OF BULK AT MOST 1048576: true; the input reads as it did. -/
def graphJoinsUptoRow : OpenClaim := { program := "ytdbeekdnehojnaa", sum := "0a7b51ed11ece8bac8f95fdafabc1fd1e3bc212182b33de8c7508643b8d154fa", func := "armillary/armillarylaw09.GraphJoins", spec := "graphJoins", unfollowed := true, recurses := true, apart := false, narrowed := true }
def GraphJoinsUptoSaid : Prop := graphJoinsUptoRow.holds Try.pinned (OpenSpec.upto graphJoinsSpec)

/-- 'armillarylaw09.GraphMany', WHERE WHAT IT READS IS OF BULK AT MOST 1048576: true; the input reads as it did. -/
def graphManyUptoRow : OpenClaim := { program := "ytdbeekdnehojnaa", sum := "0a7b51ed11ece8bac8f95fdafabc1fd1e3bc212182b33de8c7508643b8d154fa", func := "armillary/armillarylaw09.GraphMany", spec := "graphMany", unfollowed := true, recurses := true, apart := false, narrowed := true }
def GraphManyUptoSaid : Prop := graphManyUptoRow.holds Try.pinned (OpenSpec.upto graphManySpec)

/-- 'armillarylaw09.GraphBoth', WHERE WHAT IT READS IS OF BULK AT MOST 1048576: true; the input reads as it did. -/
def graphBothUptoRow : OpenClaim := { program := "ytdbeekdnehojnaa", sum := "0a7b51ed11ece8bac8f95fdafabc1fd1e3bc212182b33de8c7508643b8d154fa", func := "armillary/armillarylaw09.GraphBoth", spec := "graphBoth", unfollowed := true, recurses := true, apart := false, narrowed := true }
def GraphBothUptoSaid : Prop := graphBothUptoRow.holds Try.pinned (OpenSpec.upto graphBothSpec)

/-- 'armillarylaw09.GraphSides', WHERE WHAT IT READS IS OF BULK AT MOST 1048576: true; the input reads as it did. -/
def graphSidesUptoRow : OpenClaim := { program := "ytdbeekdnehojnaa", sum := "0a7b51ed11ece8bac8f95fdafabc1fd1e3bc212182b33de8c7508643b8d154fa", func := "armillary/armillarylaw09.GraphSides", spec := "graphSides", unfollowed := true, recurses := true, apart := false, narrowed := true }
def GraphSidesUptoSaid : Prop := graphSidesUptoRow.holds Try.pinned (OpenSpec.upto graphSidesSpec)

/-- 'armillarylaw09.GraphPlays', WHERE WHAT IT READS IS OF BULK AT MOST 1048576: true; the input reads as it did. -/
def graphPlaysUptoRow : OpenClaim := { program := "ytdbeekdnehojnaa", sum := "0a7b51ed11ece8bac8f95fdafabc1fd1e3bc212182b33de8c7508643b8d154fa", func := "armillary/armillarylaw09.GraphPlays", spec := "graphPlays", unfollowed := true, recurses := true, apart := false, narrowed := true }
def GraphPlaysUptoSaid : Prop := graphPlaysUptoRow.holds Try.pinned (OpenSpec.upto graphPlaysSpec)

end Rows
end Go.Proofs.Ytdbeekdnehojnaa
