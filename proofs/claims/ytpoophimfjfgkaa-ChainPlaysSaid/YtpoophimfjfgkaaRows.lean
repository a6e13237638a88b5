/-
  No cell of these rows narrows 'for every input' (looked for: loops, veiled, ifaces, maps, wideKeys, modest, calm, conditions, laid).
  DERIVED. THE GIVEN ROWS OF THIS SEAT. 5 by the template 'for every input the law returns true; each argument reads behind the call as it read before'; 0 by the template 'total and deterministic' (their statements: YtpoophimfjfgkaaTotals.lean).
  GIVEN WITH THE SEED: the statements are not yours to turn. If you find one false, say at which input.
  Laid BY PROGRAM, IN A SANDBOX (cutbox-rows.mjs): the forced cells as the released guide's own fill.sh prints them over the translation 7f441557c0f1056b… (all of the seat's roots in one cut). By AI agents, Wed Nov 11 2026. No macro, syntax, notation, axiom, sorry.
-/
import Derived.Test.YtpoophimfjfgkaaChecked
import GoSem.Claim
import GoSem.ClaimJoined
import GoSem.ClaimMapViews
import Derived.JoinedTies
import Derived.KernelRfl
namespace Go.Proofs.Ytpoophimfjfgkaa
/- THE CELL 'sum', in the pinned program and in every row, IS THE sha256 OF THE DUMP (.gsa) THAT YtpoophimfjfgkaaProg.lean LOADS. Nothing in Lean hashes anything: it is a label: what it is worth is what the hold of that sum in a sandbox is worth. -/
noncomputable def Try.pinned : Pinned := { name := "ytpoophimfjfgkaa", sum := "7f441557c0f1056b44d426db1e5211b36d41a6bc3c7f6d10e699f4532863f7ea", checked := Try.checked }
namespace Rows
def none {H : Type} : Left H := { results := [], args := [] }

/-- 'armillarylaw07.ChainPlays': WHATEVER THE INPUT: true; the input reads as it did. -/
def chainPlaysSpec : ChangeSpec := { name := "chainPlays", fn := fun _ => fun
  | [d1, d2] => { results := [.lit (.bool true)], args := [d1, d2] }
  | _ => none }
def chainPlaysRow : OpenClaim := { program := "ytpoophimfjfgkaa", sum := "7f441557c0f1056b44d426db1e5211b36d41a6bc3c7f6d10e699f4532863f7ea", func := "armillary/armillarylaw07.ChainPlays", spec := "chainPlays", unfollowed := true, recurses := true, apart := false }
def ChainPlaysSaid : Prop := chainPlaysRow.holds Try.pinned (OpenSpec.ofChange chainPlaysSpec)

/-- ITS FALSE NEIGHBOUR: 'it returns false'. Refute it at one input. -/
def chainPlaysWrong : ChangeSpec := { name := "chainPlays", fn := fun _ => fun
  | [d1, d2] => { results := [.lit (.bool false)], args := [d1, d2] }
  | _ => none }
def ChainPlaysWrongFalsely : Prop := chainPlaysRow.holds Try.pinned (OpenSpec.ofChange chainPlaysWrong)

/-- 'armillarylaw07.ChainSweeps': WHATEVER THE INPUT: true; the input reads as it did. -/
def chainSweepsSpec : ChangeSpec := { name := "chainSweeps", fn := fun _ => fun
  | [d1, d2, d3] => { results := [.lit (.bool true)], args := [d1, d2, d3] }
  | _ => none }
def chainSweepsRow : OpenClaim := { program := "ytpoophimfjfgkaa", sum := "7f441557c0f1056b44d426db1e5211b36d41a6bc3c7f6d10e699f4532863f7ea", func := "armillary/armillarylaw07.ChainSweeps", spec := "chainSweeps", unfollowed := true, recurses := true, apart := false }
def ChainSweepsSaid : Prop := chainSweepsRow.holds Try.pinned (OpenSpec.ofChange chainSweepsSpec)

/-- ITS FALSE NEIGHBOUR: 'it returns false'. Refute it at one input. -/
def chainSweepsWrong : ChangeSpec := { name := "chainSweeps", fn := fun _ => fun
  | [d1, d2, d3] => { results := [.lit (.bool false)], args := [d1, d2, d3] }
  | _ => none }
def ChainSweepsWrongFalsely : Prop := chainSweepsRow.holds Try.pinned (OpenSpec.ofChange chainSweepsWrong)

/-- 'armillarylaw07.ChainNews': WHATEVER THE INPUT: true; the input reads as it did. -/
def chainNewsSpec : ChangeSpec := { name := "chainNews", fn := fun _ => fun
  | [d] => { results := [.lit (.bool true)], args := [d] }
  | _ => none }
def chainNewsRow : OpenClaim := { program := "ytpoophimfjfgkaa", sum := "7f441557c0f1056b44d426db1e5211b36d41a6bc3c7f6d10e699f4532863f7ea", func := "armillary/armillarylaw07.ChainNews", spec := "chainNews", unfollowed := true, recurses := true, apart := false }
def ChainNewsSaid : Prop := chainNewsRow.holds Try.pinned (OpenSpec.ofChange chainNewsSpec)

/-- ITS FALSE NEIGHBOUR: 'it returns false'. Refute it at one input. -/
def chainNewsWrong : ChangeSpec := { name := "chainNews", fn := fun _ => fun
  | [d] => { results := [.lit (.bool false)], args := [d] }
  | _ => none }
def ChainNewsWrongFalsely : Prop := chainNewsRow.holds Try.pinned (OpenSpec.ofChange chainNewsWrong)

/-- 'armillarylaw07.ChainSteps': WHATEVER THE INPUT: true; the input reads as it did. -/
def chainStepsSpec : ChangeSpec := { name := "chainSteps", fn := fun _ => fun
  | [d1, d2] => { results := [.lit (.bool true)], args := [d1, d2] }
  | _ => none }
def chainStepsRow : OpenClaim := { program := "ytpoophimfjfgkaa", sum := "7f441557c0f1056b44d426db1e5211b36d41a6bc3c7f6d10e699f4532863f7ea", func := "armillary/armillarylaw07.ChainSteps", spec := "chainSteps", unfollowed := true, recurses := true, apart := false }
def ChainStepsSaid : Prop := chainStepsRow.holds Try.pinned (OpenSpec.ofChange chainStepsSpec)

/-- ITS FALSE NEIGHBOUR: 'it returns false'. Refute it at one input. -/
def chainStepsWrong : ChangeSpec := { name := "chainSteps", fn := fun _ => fun
  | [d1, d2] => { results := [.lit (.bool false)], args := [d1, d2] }
  | _ => none }
def ChainStepsWrongFalsely : Prop := chainStepsRow.holds Try.pinned (OpenSpec.ofChange chainStepsWrong)

/-- 'armillarylaw07.ChainOwns': WHATEVER THE INPUT: true; the input reads as it did. -/
def chainOwnsSpec : ChangeSpec := { name := "chainOwns", fn := fun _ => fun
  | [d1, d2, d3] => { results := [.lit (.bool true)], args := [d1, d2, d3] }
  | _ => none }
def chainOwnsRow : OpenClaim := { program := "ytpoophimfjfgkaa", sum := "7f441557c0f1056b44d426db1e5211b36d41a6bc3c7f6d10e699f4532863f7ea", func := "armillary/armillarylaw07.ChainOwns", spec := "chainOwns", unfollowed := true, recurses := true, apart := false }
def ChainOwnsSaid : Prop := chainOwnsRow.holds Try.pinned (OpenSpec.ofChange chainOwnsSpec)

/-- ITS FALSE NEIGHBOUR: 'it returns false'. Refute it at one input. -/
def chainOwnsWrong : ChangeSpec := { name := "chainOwns", fn := fun _ => fun
  | [d1, d2, d3] => { results := [.lit (.bool false)], args := [d1, d2, d3] }
  | _ => none }
def ChainOwnsWrongFalsely : Prop := chainOwnsRow.holds Try.pinned (OpenSpec.ofChange chainOwnsWrong)

/- THE SECOND FORM. 'bulk': how many values and letters a reading holds, each counted each time it is reached (what is shared counts as often as it is met; a slice's spare places count too). A statement '..UptoSaid' is the law's where the arguments, and the package variables that the reading takes, are together of bulk at most 1048576: NARROWER than '..Said'. Prove '..Said' where nothing that the law and all that it calls make is longer than what came in: it says more and counts as full. Else prove '..UptoSaid'. A law counts once. -/
mutual
def uptoBulk {H : Type} : DataW H → Nat
  | .lit (.string bytes) => bytes.length + 1
  | .lit _ => 1
  | .nil => 1
  | .ptr d => uptoBulk d + 1
  | .slice elems spare => uptoBulkAll elems + uptoBulkAll spare + 1
  | .agg parts => uptoBulkAll parts + 1
  | .iface _ d => uptoBulk d + 1
  | .map entries => uptoBulkEntries entries + 1
  | .held _ => 1
def uptoBulkAll {H : Type} : List (DataW H) → Nat
  | [] => 0
  | d :: r => uptoBulk d + uptoBulkAll r
def uptoBulkEntries {H : Type} : List (Lit × DataW H) → Nat
  | [] => 0
  | x :: r => uptoBulkEntry x + uptoBulkEntries r
def uptoBulkEntry {H : Type} : Lit × DataW H → Nat
  | (.string bytes, d) => bytes.length + uptoBulk d + 1
  | (_, d) => uptoBulk d + 1
 end
def uptoSmall : (H : Type) → List (DataW H) → Bool := fun _ ds => decide (uptoBulkAll ds ≤ 1048576)
def OpenSpec.upto (s : _root_.Go.ChangeSpec) : _root_.Go.OpenSpec := { _root_.Go.OpenSpec.ofChange s with cond := some uptoSmall }

/-- 'armillarylaw07.ChainPlays', WHERE WHAT IT READS IS OF BULK AT MOST 1048576: true; the input reads as it did. -/
def chainPlaysUptoRow : OpenClaim := { program := "ytpoophimfjfgkaa", sum := "7f441557c0f1056b44d426db1e5211b36d41a6bc3c7f6d10e699f4532863f7ea", func := "armillary/armillarylaw07.ChainPlays", spec := "chainPlays", unfollowed := true, recurses := true, apart := false, narrowed := true }
def ChainPlaysUptoSaid : Prop := chainPlaysUptoRow.holds Try.pinned (OpenSpec.upto chainPlaysSpec)

/-- 'armillarylaw07.ChainSweeps', WHERE WHAT IT READS IS OF BULK AT MOST 1048576: true; the input reads as it did. -/
def chainSweepsUptoRow : OpenClaim := { program := "ytpoophimfjfgkaa", sum := "7f441557c0f1056b44d426db1e5211b36d41a6bc3c7f6d10e699f4532863f7ea", func := "armillary/armillarylaw07.ChainSweeps", spec := "chainSweeps", unfollowed := true, recurses := true, apart := false, narrowed := true }
def ChainSweepsUptoSaid : Prop := chainSweepsUptoRow.holds Try.pinned (OpenSpec.upto chainSweepsSpec)

/-- 'armillarylaw07.ChainNews', WHERE WHAT IT READS IS OF BULK AT MOST 1048576: true; the input reads as it did. -/
def chainNewsUptoRow : OpenClaim := { program := "ytpoophimfjfgkaa", sum := "7f441557c0f1056b44d426db1e5211b36d41a6bc3c7f6d10e699f4532863f7ea", func := "armillary/armillarylaw07.ChainNews", spec := "chainNews", unfollowed := true, recurses := true, apart := false, narrowed := true }
def ChainNewsUptoSaid : Prop := chainNewsUptoRow.holds Try.pinned (OpenSpec.upto chainNewsSpec)

/-- 'armillarylaw07.ChainSteps', WHERE WHAT IT READS IS OF BULK AT MOST 1048576: true; the input reads as it did. -/
def chainStepsUptoRow : OpenClaim := { program := "ytpoophimfjfgkaa", sum := "7f441557c0f1056b44d426db1e5211b36d41a6bc3c7f6d10e699f4532863f7ea", func := "armillary/armillarylaw07.ChainSteps", spec := "chainSteps", unfollowed := true, recurses := true, apart := false, narrowed := true }
def ChainStepsUptoSaid : Prop := chainStepsUptoRow.holds Try.pinned (OpenSpec.upto chainStepsSpec)

/-- 'armillarylaw07.ChainOwns', WHERE WHAT IT READS IS OF BULK AT MOST 1048576: true; the input reads as it did. -/
def chainOwnsUptoRow : OpenClaim := { program := "ytpoophimfjfgkaa", sum := "7f441557c0f1056b44d426db1e5211b36d41a6bc3c7f6d10e699f4532863f7ea", func := "armillary/armillarylaw07.ChainOwns", spec := "chainOwns", unfollowed := true, recurses := true, apart := false, narrowed := true }
def ChainOwnsUptoSaid : Prop := chainOwnsUptoRow.holds Try.pinned (OpenSpec.upto chainOwnsSpec)

end Rows
end Go.Proofs.Ytpoophimfjfgkaa
