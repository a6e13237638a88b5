/-
  No cell of these rows narrows 'for every input' (looked for: loops, veiled, ifaces, maps, wideKeys, modest, calm, conditions, laid).
  DERIVED. THE GIVEN ROWS OF THIS SEAT. 7 by the template 'for every input the law returns true; each argument reads behind the call as it read before'; 0 by the template 'total and deterministic' (their statements: YtpjbkaibgajpcaaGreatTotals.lean).
  GIVEN WITH THE SEED: the statements are not yours to turn. If you find one false, say at which input.
  Laid BY PROGRAM, IN A SANDBOX (cutbox-rows.mjs): the forced cells as the released guide's own fill.sh prints them over the translation 12d8c77541d737bb… (all of the seat's roots in one cut). By AI agents, Wed Nov 11 2026. No macro, syntax, notation, axiom, sorry.
-/
import Derived.Test.YtpjbkaibgajpcaaGreatChecked
import GoSem.Claim
import GoSem.ClaimJoined
import GoSem.ClaimMapViews
import Derived.JoinedTies
import Derived.KernelRfl
namespace Go.Proofs.YtpjbkaibgajpcaaGreat
/- THE CELL 'sum', in the pinned program and in every row, IS THE sha256 OF THE DUMP (.gsa) THAT YtpjbkaibgajpcaaGreatProg.lean LOADS. Nothing in Lean hashes anything: it is a label: what it is worth is what the hold of that sum in a sandbox is worth. -/
noncomputable def Tryz.pinned : Pinned := { name := "ytpjbkaibgajpcaagreat", sum := "12d8c77541d737bb2a8755d3b1ba2e8a2160f69a3897477dfeecdf2dbaf42746", checked := Tryz.checked }
namespace Rows
def none {H : Type} : Left H := { results := [], args := [] }

/-- 'armillarylaw11.MazeFinds': WHATEVER THE INPUT: true; the input reads as it did. -/
def mazeFindsSpec : ChangeSpec := { name := "mazeFinds", fn := fun _ => fun
  | [d1, d2, d3] => { results := [.lit (.bool true)], args := [d1, d2, d3] }
  | _ => none }
def mazeFindsRow : OpenClaim := { program := "ytpjbkaibgajpcaagreat", sum := "12d8c77541d737bb2a8755d3b1ba2e8a2160f69a3897477dfeecdf2dbaf42746", func := "armillary/armillarylaw11.MazeFinds", spec := "mazeFinds", inPlace := ["slices.overlaps[armillary/api.Hit]"], unfollowed := true, recurses := true, apart := false }
def MazeFindsSaid : Prop := mazeFindsRow.holds Tryz.pinned (OpenSpec.ofChange mazeFindsSpec)

/-- ITS FALSE NEIGHBOUR: 'it returns false'. Refute it at one input. -/
def mazeFindsWrong : ChangeSpec := { name := "mazeFinds", fn := fun _ => fun
  | [d1, d2, d3] => { results := [.lit (.bool false)], args := [d1, d2, d3] }
  | _ => none }
def MazeFindsWrongFalsely : Prop := mazeFindsRow.holds Tryz.pinned (OpenSpec.ofChange mazeFindsWrong)

/-- 'armillarylaw11.MazeLinks': WHATEVER THE INPUT: true; the input reads as it did. -/
def mazeLinksSpec : ChangeSpec := { name := "mazeLinks", fn := fun _ => fun
  | [d] => { results := [.lit (.bool true)], args := [d] }
  | _ => none }
def mazeLinksRow : OpenClaim := { program := "ytpjbkaibgajpcaagreat", sum := "12d8c77541d737bb2a8755d3b1ba2e8a2160f69a3897477dfeecdf2dbaf42746", func := "armillary/armillarylaw11.MazeLinks", spec := "mazeLinks", inPlace := ["slices.overlaps[armillary/api.Hit]"], unfollowed := true, recurses := true, apart := false }
def MazeLinksSaid : Prop := mazeLinksRow.holds Tryz.pinned (OpenSpec.ofChange mazeLinksSpec)

/-- ITS FALSE NEIGHBOUR: 'it returns false'. Refute it at one input. -/
def mazeLinksWrong : ChangeSpec := { name := "mazeLinks", fn := fun _ => fun
  | [d] => { results := [.lit (.bool false)], args := [d] }
  | _ => none }
def MazeLinksWrongFalsely : Prop := mazeLinksRow.holds Tryz.pinned (OpenSpec.ofChange mazeLinksWrong)

/-- 'armillarylaw11.MazePlays': WHATEVER THE INPUT: true; the input reads as it did. -/
def mazePlaysSpec : ChangeSpec := { name := "mazePlays", fn := fun _ => fun
  | [d1, d2, d3, d4] => { results := [.lit (.bool true)], args := [d1, d2, d3, d4] }
  | _ => none }
def mazePlaysRow : OpenClaim := { program := "ytpjbkaibgajpcaagreat", sum := "12d8c77541d737bb2a8755d3b1ba2e8a2160f69a3897477dfeecdf2dbaf42746", func := "armillary/armillarylaw11.MazePlays", spec := "mazePlays", inPlace := ["slices.overlaps[armillary/api.Hit]"], unfollowed := true, recurses := true, apart := false }
def MazePlaysSaid : Prop := mazePlaysRow.holds Tryz.pinned (OpenSpec.ofChange mazePlaysSpec)

/-- ITS FALSE NEIGHBOUR: 'it returns false'. Refute it at one input. -/
def mazePlaysWrong : ChangeSpec := { name := "mazePlays", fn := fun _ => fun
  | [d1, d2, d3, d4] => { results := [.lit (.bool false)], args := [d1, d2, d3, d4] }
  | _ => none }
def MazePlaysWrongFalsely : Prop := mazePlaysRow.holds Tryz.pinned (OpenSpec.ofChange mazePlaysWrong)

/-- 'armillarylaw11.MazeReaches': WHATEVER THE INPUT: true; the input reads as it did. -/
def mazeReachesSpec : ChangeSpec := { name := "mazeReaches", fn := fun _ => fun
  | [d1, d2] => { results := [.lit (.bool true)], args := [d1, d2] }
  | _ => none }
def mazeReachesRow : OpenClaim := { program := "ytpjbkaibgajpcaagreat", sum := "12d8c77541d737bb2a8755d3b1ba2e8a2160f69a3897477dfeecdf2dbaf42746", func := "armillary/armillarylaw11.MazeReaches", spec := "mazeReaches", inPlace := ["slices.overlaps[armillary/api.Hit]"], unfollowed := true, recurses := true, apart := false }
def MazeReachesSaid : Prop := mazeReachesRow.holds Tryz.pinned (OpenSpec.ofChange mazeReachesSpec)

/-- ITS FALSE NEIGHBOUR: 'it returns false'. Refute it at one input. -/
def mazeReachesWrong : ChangeSpec := { name := "mazeReaches", fn := fun _ => fun
  | [d1, d2] => { results := [.lit (.bool false)], args := [d1, d2] }
  | _ => none }
def MazeReachesWrongFalsely : Prop := mazeReachesRow.holds Tryz.pinned (OpenSpec.ofChange mazeReachesWrong)

/-- 'armillarylaw11.MazeOwns': WHATEVER THE INPUT: true; the input reads as it did. -/
def mazeOwnsSpec : ChangeSpec := { name := "mazeOwns", fn := fun _ => fun
  | [d1, d2, d3] => { results := [.lit (.bool true)], args := [d1, d2, d3] }
  | _ => none }
def mazeOwnsRow : OpenClaim := { program := "ytpjbkaibgajpcaagreat", sum := "12d8c77541d737bb2a8755d3b1ba2e8a2160f69a3897477dfeecdf2dbaf42746", func := "armillary/armillarylaw11.MazeOwns", spec := "mazeOwns", inPlace := ["slices.overlaps[armillary/api.Hit]"], unfollowed := true, recurses := true, apart := false }
def MazeOwnsSaid : Prop := mazeOwnsRow.holds Tryz.pinned (OpenSpec.ofChange mazeOwnsSpec)

/-- ITS FALSE NEIGHBOUR: 'it returns false'. Refute it at one input. -/
def mazeOwnsWrong : ChangeSpec := { name := "mazeOwns", fn := fun _ => fun
  | [d1, d2, d3] => { results := [.lit (.bool false)], args := [d1, d2, d3] }
  | _ => none }
def MazeOwnsWrongFalsely : Prop := mazeOwnsRow.holds Tryz.pinned (OpenSpec.ofChange mazeOwnsWrong)

/-- 'armillarylaw11.MazeRebuilds': WHATEVER THE INPUT: true; the input reads as it did. -/
def mazeRebuildsSpec : ChangeSpec := { name := "mazeRebuilds", fn := fun _ => fun
  | [d1, d2, d3, d4] => { results := [.lit (.bool true)], args := [d1, d2, d3, d4] }
  | _ => none }
def mazeRebuildsRow : OpenClaim := { program := "ytpjbkaibgajpcaagreat", sum := "12d8c77541d737bb2a8755d3b1ba2e8a2160f69a3897477dfeecdf2dbaf42746", func := "armillary/armillarylaw11.MazeRebuilds", spec := "mazeRebuilds", inPlace := ["slices.overlaps[armillary/api.Hit]"], unfollowed := true, recurses := true, apart := false }
def MazeRebuildsSaid : Prop := mazeRebuildsRow.holds Tryz.pinned (OpenSpec.ofChange mazeRebuildsSpec)

/-- ITS FALSE NEIGHBOUR: 'it returns false'. Refute it at one input. -/
def mazeRebuildsWrong : ChangeSpec := { name := "mazeRebuilds", fn := fun _ => fun
  | [d1, d2, d3, d4] => { results := [.lit (.bool false)], args := [d1, d2, d3, d4] }
  | _ => none }
def MazeRebuildsWrongFalsely : Prop := mazeRebuildsRow.holds Tryz.pinned (OpenSpec.ofChange mazeRebuildsWrong)

/-- 'armillarylaw11.MazeTwins': WHATEVER THE INPUT: true; the input reads as it did. -/
def mazeTwinsSpec : ChangeSpec := { name := "mazeTwins", fn := fun _ => fun
  | [d] => { results := [.lit (.bool true)], args := [d] }
  | _ => none }
def mazeTwinsRow : OpenClaim := { program := "ytpjbkaibgajpcaagreat", sum := "12d8c77541d737bb2a8755d3b1ba2e8a2160f69a3897477dfeecdf2dbaf42746", func := "armillary/armillarylaw11.MazeTwins", spec := "mazeTwins", inPlace := ["slices.overlaps[armillary/api.Hit]"], unfollowed := true, recurses := true, apart := false }
def MazeTwinsSaid : Prop := mazeTwinsRow.holds Tryz.pinned (OpenSpec.ofChange mazeTwinsSpec)

/-- ITS FALSE NEIGHBOUR: 'it returns false'. Refute it at one input. -/
def mazeTwinsWrong : ChangeSpec := { name := "mazeTwins", fn := fun _ => fun
  | [d] => { results := [.lit (.bool false)], args := [d] }
  | _ => none }
def MazeTwinsWrongFalsely : Prop := mazeTwinsRow.holds Tryz.pinned (OpenSpec.ofChange mazeTwinsWrong)

/- THE SECOND FORM. 'bulk': how many values and letters a reading holds, each counted each time it is reached (what is shared counts as often as it is met; a slice's spare places count too). A statement '..UptoSaid' is the law's where the arguments, and the package variables that the reading takes, are together of bulk at most 1048576: NARROWER than '..Said'. Prove '..Said' where nothing that the law and all that it calls make is longer than what came in: it says more and counts as full. Else prove '..UptoSaid'. A law counts once. -/
mutual
def uptoBulk {H : Type} : DataW H → Nat
  | .lit (.string bytes) => bytes.length + 1
  | .lit _ => 1
  | .nil => 1
  | .ptr d => uptoBulk d + 1
  | .slice elems spare => uptoBulkAll elems + uptoBulkAll spare + 1
  | .agg parts => uptoBulkAll parts + 1
  | .iface _ d => uptoBulk d + 1
  | .map entries => uptoBulkEntries entries + 1
  | .held _ => 1
def uptoBulkAll {H : Type} : List (DataW H) → Nat
  | [] => 0
  | d :: r => uptoBulk d + uptoBulkAll r
def uptoBulkEntries {H : Type} : List (Lit × DataW H) → Nat
  | [] => 0
  | x :: r => uptoBulkEntry x + uptoBulkEntries r
def uptoBulkEntry {H : Type} : Lit × DataW H → Nat
  | (.string bytes, d) => bytes.length + uptoBulk d + 1
  | (_, d) => uptoBulk d + 1
 end
def uptoSmall : (H : Type) → List (DataW H) → Bool := fun _ ds => decide (uptoBulkAll ds ≤ 1048576)
def OpenSpec.upto (s : _root_.Go.ChangeSpec) : _root_.Go.OpenSpec := { _root_.Go.OpenSpec.ofChange s with cond := some uptoSmall }

/-- 'armillarylaw11.MazeFinds', WHERE WHAT IT READS IS OF BULK AT MOST 1048576: true; the input reads as it did. -/
def mazeFindsUptoRow : OpenClaim := { program := "ytpjbkaibgajpcaagreat", sum := "12d8c77541d737bb2a8755d3b1ba2e8a2160f69a3897477dfeecdf2dbaf42746", func := "armillary/armillarylaw11.MazeFinds", spec := "mazeFinds", inPlace := ["slices.overlaps[armillary/api.Hit]"], unfollowed := true, recurses := true, apart := false, narrowed := true }
def MazeFindsUptoSaid : Prop := mazeFindsUptoRow.holds Tryz.pinned (OpenSpec.upto mazeFindsSpec)

/-- 'armillarylaw11.MazeLinks', WHERE WHAT IT READS IS OF BULK AT MOST 1048576: true; the input reads as it did. -/
def mazeLinksUptoRow : OpenClaim := { program := "ytpjbkaibgajpcaagreat", sum := "12d8c77541d737bb2a8755d3b1ba2e8a2160f69a3897477dfeecdf2dbaf42746", func := "armillary/armillarylaw11.MazeLinks", spec := "mazeLinks", inPlace := ["slices.overlaps[armillary/api.Hit]"], unfollowed := true, recurses := true, apart := false, narrowed := true }
def MazeLinksUptoSaid : Prop := mazeLinksUptoRow.holds Tryz.pinned (OpenSpec.upto mazeLinksSpec)

/-- 'armillarylaw11.MazePlays', WHERE WHAT IT READS IS OF BULK AT MOST 1048576: true; the input reads as it did. -/
def mazePlaysUptoRow : OpenClaim := { program := "ytpjbkaibgajpcaagreat", sum := "12d8c77541d737bb2a8755d3b1ba2e8a2160f69a3897477dfeecdf2dbaf42746", func := "armillary/armillarylaw11.MazePlays", spec := "mazePlays", inPlace := ["slices.overlaps[armillary/api.Hit]"], unfollowed := true, recurses := true, apart := false, narrowed := true }
def MazePlaysUptoSaid : Prop := mazePlaysUptoRow.holds Tryz.pinned (OpenSpec.upto mazePlaysSpec)

/-- 'armillarylaw11.MazeReaches', WHERE WHAT IT READS IS OF BULK AT MOST 1048576: true; the input reads as it did. -/
def mazeReachesUptoRow : OpenClaim := { program := "ytpjbkaibgajpcaagreat", sum := "12d8c77541d737bb2a8755d3b1ba2e8a2160f69a3897477dfeecdf2dbaf42746", func := "armillary/armillarylaw11.MazeReaches", spec := "mazeReaches", inPlace := ["slices.overlaps[armillary/api.Hit]"], unfollowed := true, recurses := true, apart := false, narrowed := true }
def MazeReachesUptoSaid : Prop := mazeReachesUptoRow.holds Tryz.pinned (OpenSpec.upto mazeReachesSpec)

/-- 'armillarylaw11.MazeOwns', WHERE WHAT IT READS IS OF BULK AT MOST 1048576: true; the input reads as it did. -/
def mazeOwnsUptoRow : OpenClaim := { program := "ytpjbkaibgajpcaagreat", sum := "12d8c77541d737bb2a8755d3b1ba2e8a2160f69a3897477dfeecdf2dbaf42746", func := "armillary/armillarylaw11.MazeOwns", spec := "mazeOwns", inPlace := ["slices.overlaps[armillary/api.Hit]"], unfollowed := true, recurses := true, apart := false, narrowed := true }
def MazeOwnsUptoSaid : Prop := mazeOwnsUptoRow.holds Tryz.pinned (OpenSpec.upto mazeOwnsSpec)

/-- 'armillarylaw11.MazeRebuilds', WHERE WHAT IT READS IS OF BULK AT MOST 1048576: true; the input reads as it did. -/
def mazeRebuildsUptoRow : OpenClaim := { program := "ytpjbkaibgajpcaagreat", sum := "12d8c77541d737bb2a8755d3b1ba2e8a2160f69a3897477dfeecdf2dbaf42746", func := "armillary/armillarylaw11.MazeRebuilds", spec := "mazeRebuilds", inPlace := ["slices.overlaps[armillary/api.Hit]"], unfollowed := true, recurses := true, apart := false, narrowed := true }
def MazeRebuildsUptoSaid : Prop := mazeRebuildsUptoRow.holds Tryz.pinned (OpenSpec.upto mazeRebuildsSpec)

/-- 'armillarylaw11.MazeTwins', WHERE WHAT IT READS IS OF BULK AT MOST 1048576: true; the input reads as it did. -/
def mazeTwinsUptoRow : OpenClaim := { program := "ytpjbkaibgajpcaagreat", sum := "12d8c77541d737bb2a8755d3b1ba2e8a2160f69a3897477dfeecdf2dbaf42746", func := "armillary/armillarylaw11.MazeTwins", spec := "mazeTwins", inPlace := ["slices.overlaps[armillary/api.Hit]"], unfollowed := true, recurses := true, apart := false, narrowed := true }
def MazeTwinsUptoSaid : Prop := mazeTwinsUptoRow.holds Tryz.pinned (OpenSpec.upto mazeTwinsSpec)

end Rows
end Go.Proofs.YtpjbkaibgajpcaaGreat
