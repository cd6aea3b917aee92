/-
  DERIVED. GIVEN WITH THE SEED: THE CARDS: each row of YtcmpdamfeoaapaaGreatDoorRows.lean that lists a variable, with what it lists TIED to the program's text (the seventh form; the later family's looks); each row that meets fmt, with fmt's text TOLD by the authors' own Lean function (tested against real Go, not proved from fmt's source: count such statements apart). THE CARD IS WHAT COUNTS. Prove the row's statement (the work); the ties are given (YtcmpdamfeoaapaaGreatDoorTie.lean); close each card by the builder's one call (the guide's Derived/Test/ToyasCard.lean, 'card_holds'). Laid BY PROGRAM, IN A SANDBOX (cutbox-door.mjs). By AI agents, Wed Nov 11 2026. No macro, syntax, notation, axiom, sorry.
-/
import Derived.Test.YtcmpdamfeoaapaaGreatDoorRows
import GoSem.ClaimSeven
namespace Go.Proofs.YtcmpdamfeoaapaaGreatDoor
namespace Rows

/-- THE TIED CARD OF 'thresherlaw04.NumTexts'. -/
def numTextsCard : Claim7 := { stood := { row := numTextsRow, standIns := [], harness := (true, "d3372befd937984fd58062a7e26d7d6a21b44dbf3401c85dc5e00957974fa2be"), looks := true }, kinds := [], alts := [], laidByText := true, laidKinds := [.data, .pinned], laidTests := true, laidLooks := .later }
def NumTextsCardSaid : Prop := Claim7.holds Tryz.pinned (.plain (OpenSpec.ofChange numTextsSpec)) numTextsCard

/-- THE TIED CARD OF 'threshertop.TopNumbers'. -/
def topNumbersCard : Claim7 := { stood := { row := topNumbersRow, standIns := [], harness := (true, "d3372befd937984fd58062a7e26d7d6a21b44dbf3401c85dc5e00957974fa2be"), looks := true }, kinds := [], alts := [], laidByText := true, laidKinds := [.data, .data, .data, .data, .sentinel, .sentinel, .pinned, .pinned], laidTests := true, laidLooks := .later }
def TopNumbersCardSaid : Prop := Claim7.holds Tryz.pinned (.plain (OpenSpec.ofChange topNumbersSpec)) topNumbersCard

/-- THE TIED CARD OF 'thresherlaw04.NumReckons'. -/
def numReckonsCard : Claim7 := { stood := { row := numReckonsRow, standIns := [], harness := (true, "d3372befd937984fd58062a7e26d7d6a21b44dbf3401c85dc5e00957974fa2be"), looks := true }, kinds := [], alts := [], laidByText := true, laidKinds := [.data, .pinned], laidTests := true, laidLooks := .later }
def NumReckonsCardSaid : Prop := Claim7.holds Tryz.pinned (.plain (OpenSpec.ofChange numReckonsSpec)) numReckonsCard

/-- THE TIED CARD OF 'thresherlaw06.CellCompares'. -/
def cellComparesCard : Claim7 := { stood := { row := cellComparesRow, standIns := [], harness := (true, "d3372befd937984fd58062a7e26d7d6a21b44dbf3401c85dc5e00957974fa2be"), looks := true }, kinds := [], alts := [], laidByText := true, laidKinds := [.data, .data, .data, .data, .sentinel, .sentinel, .pinned, .pinned], laidTests := true, laidLooks := .later }
def CellComparesCardSaid : Prop := Claim7.holds Tryz.pinned (.plain (OpenSpec.ofChange cellComparesSpec)) cellComparesCard

/-- THE TIED CARD OF 'thresherlaw06.CellInput'. -/
def cellInputCard : Claim7 := { stood := { row := cellInputRow, standIns := [], harness := (true, "d3372befd937984fd58062a7e26d7d6a21b44dbf3401c85dc5e00957974fa2be"), looks := true }, kinds := [], alts := [], laidByText := true, laidKinds := [.data, .data, .data, .data, .sentinel, .sentinel, .pinned, .pinned], laidTests := true, laidLooks := .later }
def CellInputCardSaid : Prop := Claim7.holds Tryz.pinned (.plain (OpenSpec.ofChange cellInputSpec)) cellInputCard

/-- THE TIED CARD OF 'thresherlaw11.PrintfWrites'. -/
def printfWritesCard : Claim7 := { stood := { row := printfWritesRow, standIns := [], harness := (true, "d3372befd937984fd58062a7e26d7d6a21b44dbf3401c85dc5e00957974fa2be"), looks := true }, kinds := [], alts := [], laidByText := true, laidKinds := [.data, .data, .data, .data, .sentinel, .sentinel, .pinned, .pinned], laidTests := true, laidLooks := .later }
def PrintfWritesCardSaid : Prop := Claim7.holds Tryz.pinned (.plain (OpenSpec.ofChange printfWritesSpec)) printfWritesCard

/-- THE SECOND FORM's CARD OF 'thresherlaw04.NumTexts'. -/
def numTextsUptoCard : Claim7 := { stood := { row := numTextsUptoRow, standIns := [], harness := (true, "d3372befd937984fd58062a7e26d7d6a21b44dbf3401c85dc5e00957974fa2be"), looks := true }, kinds := [], alts := [], laidByText := true, laidKinds := [.data, .pinned], laidTests := true, laidLooks := .later }
def NumTextsUptoCardSaid : Prop := Claim7.holds Tryz.pinned (.plain (OpenSpec.upto numTextsSpec)) numTextsUptoCard

/-- THE SECOND FORM's CARD OF 'threshertop.TopNumbers'. -/
def topNumbersUptoCard : Claim7 := { stood := { row := topNumbersUptoRow, standIns := [], harness := (true, "d3372befd937984fd58062a7e26d7d6a21b44dbf3401c85dc5e00957974fa2be"), looks := true }, kinds := [], alts := [], laidByText := true, laidKinds := [.data, .data, .data, .data, .sentinel, .sentinel, .pinned, .pinned], laidTests := true, laidLooks := .later }
def TopNumbersUptoCardSaid : Prop := Claim7.holds Tryz.pinned (.plain (OpenSpec.upto topNumbersSpec)) topNumbersUptoCard

/-- THE SECOND FORM's CARD OF 'thresherlaw04.NumReckons'. -/
def numReckonsUptoCard : Claim7 := { stood := { row := numReckonsUptoRow, standIns := [], harness := (true, "d3372befd937984fd58062a7e26d7d6a21b44dbf3401c85dc5e00957974fa2be"), looks := true }, kinds := [], alts := [], laidByText := true, laidKinds := [.data, .pinned], laidTests := true, laidLooks := .later }
def NumReckonsUptoCardSaid : Prop := Claim7.holds Tryz.pinned (.plain (OpenSpec.upto numReckonsSpec)) numReckonsUptoCard

/-- THE SECOND FORM's CARD OF 'thresherlaw06.CellCompares'. -/
def cellComparesUptoCard : Claim7 := { stood := { row := cellComparesUptoRow, standIns := [], harness := (true, "d3372befd937984fd58062a7e26d7d6a21b44dbf3401c85dc5e00957974fa2be"), looks := true }, kinds := [], alts := [], laidByText := true, laidKinds := [.data, .data, .data, .data, .sentinel, .sentinel, .pinned, .pinned], laidTests := true, laidLooks := .later }
def CellComparesUptoCardSaid : Prop := Claim7.holds Tryz.pinned (.plain (OpenSpec.upto cellComparesSpec)) cellComparesUptoCard

/-- THE SECOND FORM's CARD OF 'thresherlaw06.CellInput'. -/
def cellInputUptoCard : Claim7 := { stood := { row := cellInputUptoRow, standIns := [], harness := (true, "d3372befd937984fd58062a7e26d7d6a21b44dbf3401c85dc5e00957974fa2be"), looks := true }, kinds := [], alts := [], laidByText := true, laidKinds := [.data, .data, .data, .data, .sentinel, .sentinel, .pinned, .pinned], laidTests := true, laidLooks := .later }
def CellInputUptoCardSaid : Prop := Claim7.holds Tryz.pinned (.plain (OpenSpec.upto cellInputSpec)) cellInputUptoCard

/-- THE SECOND FORM's CARD OF 'thresherlaw11.PrintfWrites'. -/
def printfWritesUptoCard : Claim7 := { stood := { row := printfWritesUptoRow, standIns := [], harness := (true, "d3372befd937984fd58062a7e26d7d6a21b44dbf3401c85dc5e00957974fa2be"), looks := true }, kinds := [], alts := [], laidByText := true, laidKinds := [.data, .data, .data, .data, .sentinel, .sentinel, .pinned, .pinned], laidTests := true, laidLooks := .later }
def PrintfWritesUptoCardSaid : Prop := Claim7.holds Tryz.pinned (.plain (OpenSpec.upto printfWritesSpec)) printfWritesUptoCard
end Rows
end Go.Proofs.YtcmpdamfeoaapaaGreatDoor
