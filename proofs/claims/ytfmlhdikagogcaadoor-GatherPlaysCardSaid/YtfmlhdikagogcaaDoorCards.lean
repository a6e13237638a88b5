/-
  DERIVED. GIVEN WITH THE SEED: THE CARDS: each row of YtfmlhdikagogcaaDoorRows.lean that lists a variable, with what it lists TIED to the program's text (the seventh form; the later family's looks); each row that meets fmt, with fmt's text TOLD by the authors' own Lean function (tested against real Go, not proved from fmt's source: count such statements apart). THE CARD IS WHAT COUNTS. Prove the row's statement (the work); the ties are given (YtfmlhdikagogcaaDoorTie.lean); close each card by the builder's one call (the guide's Derived/Test/ToyasCard.lean, 'card_holds'). Laid BY PROGRAM, IN A SANDBOX (cutbox-door.mjs). By AI agents, Wed Nov 11 2026. No macro, syntax, notation, axiom, sorry.
-/
import Derived.Test.YtfmlhdikagogcaaDoorRows
import GoSem.ClaimSeven
namespace Go.Proofs.YtfmlhdikagogcaaDoor
namespace Rows

/-- THE TIED CARD OF 'armillarylaw17.GatherMerges'. -/
def gatherMergesCard : Claim7 := { stood := { row := gatherMergesRow, standIns := [], harness := (true, "ac6857008a2fc06e4f546a29d385ada341d1ff873d28c276440e143f10bbe933"), looks := false }, kinds := [], alts := [], laidByText := true, laidKinds := [.data], laidTests := true, laidLooks := .later }
def GatherMergesCardSaid : Prop := Claim7.holds Tryd.pinned (.plain (OpenSpec.ofChange gatherMergesSpec)) gatherMergesCard

/-- THE TIED CARD OF 'armillarylaw17.GatherMost'. -/
def gatherMostCard : Claim7 := { stood := { row := gatherMostRow, standIns := [], harness := (true, "ac6857008a2fc06e4f546a29d385ada341d1ff873d28c276440e143f10bbe933"), looks := false }, kinds := [], alts := [], laidByText := true, laidKinds := [.data], laidTests := true, laidLooks := .later }
def GatherMostCardSaid : Prop := Claim7.holds Tryd.pinned (.plain (OpenSpec.ofChange gatherMostSpec)) gatherMostCard

/-- THE TIED CARD OF 'armillarylaw17.GatherGets'. -/
def gatherGetsCard : Claim7 := { stood := { row := gatherGetsRow, standIns := [], harness := (true, "ac6857008a2fc06e4f546a29d385ada341d1ff873d28c276440e143f10bbe933"), looks := false }, kinds := [], alts := [], laidByText := true, laidKinds := [.data], laidTests := true, laidLooks := .later }
def GatherGetsCardSaid : Prop := Claim7.holds Tryd.pinned (.plain (OpenSpec.ofChange gatherGetsSpec)) gatherGetsCard

/-- THE TIED CARD OF 'armillarylaw17.GatherAgain'. -/
def gatherAgainCard : Claim7 := { stood := { row := gatherAgainRow, standIns := [], harness := (true, "ac6857008a2fc06e4f546a29d385ada341d1ff873d28c276440e143f10bbe933"), looks := false }, kinds := [], alts := [], laidByText := true, laidKinds := [.data], laidTests := true, laidLooks := .later }
def GatherAgainCardSaid : Prop := Claim7.holds Tryd.pinned (.plain (OpenSpec.ofChange gatherAgainSpec)) gatherAgainCard

/-- THE TIED CARD OF 'armillarylaw17.GatherOnce'. -/
def gatherOnceCard : Claim7 := { stood := { row := gatherOnceRow, standIns := [], harness := (true, "ac6857008a2fc06e4f546a29d385ada341d1ff873d28c276440e143f10bbe933"), looks := false }, kinds := [], alts := [], laidByText := true, laidKinds := [.data], laidTests := true, laidLooks := .later }
def GatherOnceCardSaid : Prop := Claim7.holds Tryd.pinned (.plain (OpenSpec.ofChange gatherOnceSpec)) gatherOnceCard

/-- THE TIED CARD OF 'armillarylaw17.GatherPlays'. -/
def gatherPlaysCard : Claim7 := { stood := { row := gatherPlaysRow, standIns := [], harness := (true, "ac6857008a2fc06e4f546a29d385ada341d1ff873d28c276440e143f10bbe933"), looks := false }, kinds := [], alts := [], laidByText := true, laidKinds := [.data], laidTests := true, laidLooks := .later }
def GatherPlaysCardSaid : Prop := Claim7.holds Tryd.pinned (.plain (OpenSpec.ofChange gatherPlaysSpec)) gatherPlaysCard

/-- THE SECOND FORM's CARD OF 'armillarylaw17.GatherMerges'. -/
def gatherMergesUptoCard : Claim7 := { stood := { row := gatherMergesUptoRow, standIns := [], harness := (true, "ac6857008a2fc06e4f546a29d385ada341d1ff873d28c276440e143f10bbe933"), looks := false }, kinds := [], alts := [], laidByText := true, laidKinds := [.data], laidTests := true, laidLooks := .later }
def GatherMergesUptoCardSaid : Prop := Claim7.holds Tryd.pinned (.plain (OpenSpec.upto gatherMergesSpec)) gatherMergesUptoCard

/-- THE SECOND FORM's CARD OF 'armillarylaw17.GatherMost'. -/
def gatherMostUptoCard : Claim7 := { stood := { row := gatherMostUptoRow, standIns := [], harness := (true, "ac6857008a2fc06e4f546a29d385ada341d1ff873d28c276440e143f10bbe933"), looks := false }, kinds := [], alts := [], laidByText := true, laidKinds := [.data], laidTests := true, laidLooks := .later }
def GatherMostUptoCardSaid : Prop := Claim7.holds Tryd.pinned (.plain (OpenSpec.upto gatherMostSpec)) gatherMostUptoCard

/-- THE SECOND FORM's CARD OF 'armillarylaw17.GatherGets'. -/
def gatherGetsUptoCard : Claim7 := { stood := { row := gatherGetsUptoRow, standIns := [], harness := (true, "ac6857008a2fc06e4f546a29d385ada341d1ff873d28c276440e143f10bbe933"), looks := false }, kinds := [], alts := [], laidByText := true, laidKinds := [.data], laidTests := true, laidLooks := .later }
def GatherGetsUptoCardSaid : Prop := Claim7.holds Tryd.pinned (.plain (OpenSpec.upto gatherGetsSpec)) gatherGetsUptoCard

/-- THE SECOND FORM's CARD OF 'armillarylaw17.GatherAgain'. -/
def gatherAgainUptoCard : Claim7 := { stood := { row := gatherAgainUptoRow, standIns := [], harness := (true, "ac6857008a2fc06e4f546a29d385ada341d1ff873d28c276440e143f10bbe933"), looks := false }, kinds := [], alts := [], laidByText := true, laidKinds := [.data], laidTests := true, laidLooks := .later }
def GatherAgainUptoCardSaid : Prop := Claim7.holds Tryd.pinned (.plain (OpenSpec.upto gatherAgainSpec)) gatherAgainUptoCard

/-- THE SECOND FORM's CARD OF 'armillarylaw17.GatherOnce'. -/
def gatherOnceUptoCard : Claim7 := { stood := { row := gatherOnceUptoRow, standIns := [], harness := (true, "ac6857008a2fc06e4f546a29d385ada341d1ff873d28c276440e143f10bbe933"), looks := false }, kinds := [], alts := [], laidByText := true, laidKinds := [.data], laidTests := true, laidLooks := .later }
def GatherOnceUptoCardSaid : Prop := Claim7.holds Tryd.pinned (.plain (OpenSpec.upto gatherOnceSpec)) gatherOnceUptoCard

/-- THE SECOND FORM's CARD OF 'armillarylaw17.GatherPlays'. -/
def gatherPlaysUptoCard : Claim7 := { stood := { row := gatherPlaysUptoRow, standIns := [], harness := (true, "ac6857008a2fc06e4f546a29d385ada341d1ff873d28c276440e143f10bbe933"), looks := false }, kinds := [], alts := [], laidByText := true, laidKinds := [.data], laidTests := true, laidLooks := .later }
def GatherPlaysUptoCardSaid : Prop := Claim7.holds Tryd.pinned (.plain (OpenSpec.upto gatherPlaysSpec)) gatherPlaysUptoCard
end Rows
end Go.Proofs.YtfmlhdikagogcaaDoor
