/-
  DERIVED. GIVEN WITH THE SEED: THE CARDS: each row of YtfdnhkjeoeffoaaGreatDoorRows.lean that lists a variable, with what it lists TIED to the program's text (the seventh form; the later family's looks); each row that meets fmt, with fmt's text TOLD by the authors' own Lean function (tested against real Go, not proved from fmt's source: count such statements apart). THE CARD IS WHAT COUNTS. Prove the row's statement (the work); the ties are given (YtfdnhkjeoeffoaaGreatDoorTie.lean); close each card by the builder's one call (the guide's Derived/Test/ToyasCard.lean, 'card_holds'). Laid BY PROGRAM, IN A SANDBOX (cutbox-door.mjs). By AI agents, Wed Nov 11 2026. No macro, syntax, notation, axiom, sorry.
-/
import Derived.Test.YtfdnhkjeoeffoaaGreatDoorRows
import GoSem.ClaimSeven
namespace Go.Proofs.YtfdnhkjeoeffoaaGreatDoor
namespace Rows

/-- THE TIED CARD OF 'thresherlaw04.NumReckons'. -/
def numReckonsCard : Claim7 := { stood := { row := numReckonsRow, standIns := [], harness := (true, "77de23b822b68858560ca572ee058966d18b618bf1918fc53ba9ecf70e707a2d"), looks := true }, kinds := [], alts := [], laidByText := true, laidKinds := [.data, .pinned], laidTests := true, laidLooks := .later }
def NumReckonsCardSaid : Prop := Claim7.holds Tryz.pinned (.plain (OpenSpec.ofChange numReckonsSpec)) numReckonsCard

/-- THE TIED CARD OF 'thresherlaw05.FormatWide'. -/
def formatWideCard : Claim7 := { stood := { row := formatWideRow, standIns := [], harness := (true, "77de23b822b68858560ca572ee058966d18b618bf1918fc53ba9ecf70e707a2d"), looks := true }, kinds := [], alts := [], laidByText := true, laidKinds := [.data, .data, .data, .data, .sentinel, .sentinel, .pinned, .pinned], laidTests := true, laidLooks := .later }
def FormatWideCardSaid : Prop := Claim7.holds Tryz.pinned (.plain (OpenSpec.ofChange formatWideSpec)) formatWideCard

/-- THE TIED CARD OF 'thresherlaw05.FormatWhole'. -/
def formatWholeCard : Claim7 := { stood := { row := formatWholeRow, standIns := [], harness := (true, "77de23b822b68858560ca572ee058966d18b618bf1918fc53ba9ecf70e707a2d"), looks := true }, kinds := [], alts := [], laidByText := true, laidKinds := [.data, .data, .data, .data, .sentinel, .sentinel, .pinned, .pinned], laidTests := true, laidLooks := .later }
def FormatWholeCardSaid : Prop := Claim7.holds Tryz.pinned (.plain (OpenSpec.ofChange formatWholeSpec)) formatWholeCard

/-- THE TIED CARD OF 'thresherlaw06.CellCompares'. -/
def cellComparesCard : Claim7 := { stood := { row := cellComparesRow, standIns := [], harness := (true, "77de23b822b68858560ca572ee058966d18b618bf1918fc53ba9ecf70e707a2d"), looks := true }, kinds := [], alts := [], laidByText := true, laidKinds := [.data, .data, .data, .data, .sentinel, .sentinel, .pinned, .pinned], laidTests := true, laidLooks := .later }
def CellComparesCardSaid : Prop := Claim7.holds Tryz.pinned (.plain (OpenSpec.ofChange cellComparesSpec)) cellComparesCard

/-- THE TIED CARD OF 'thresherlaw11.PrintfWrites'. -/
def printfWritesCard : Claim7 := { stood := { row := printfWritesRow, standIns := [], harness := (true, "77de23b822b68858560ca572ee058966d18b618bf1918fc53ba9ecf70e707a2d"), looks := true }, kinds := [], alts := [], laidByText := true, laidKinds := [.data, .data, .data, .data, .sentinel, .sentinel, .pinned, .pinned], laidTests := true, laidLooks := .later }
def PrintfWritesCardSaid : Prop := Claim7.holds Tryz.pinned (.plain (OpenSpec.ofChange printfWritesSpec)) printfWritesCard

/-- THE TIED CARD OF 'thresherlaw11.PrintfJoins'. -/
def printfJoinsCard : Claim7 := { stood := { row := printfJoinsRow, standIns := [], harness := (true, "77de23b822b68858560ca572ee058966d18b618bf1918fc53ba9ecf70e707a2d"), looks := true }, kinds := [], alts := [], laidByText := true, laidKinds := [.data, .data, .data, .data, .sentinel, .sentinel, .pinned, .pinned], laidTests := true, laidLooks := .later }
def PrintfJoinsCardSaid : Prop := Claim7.holds Tryz.pinned (.plain (OpenSpec.ofChange printfJoinsSpec)) printfJoinsCard

/-- THE TIED CARD OF 'thresherlaw11.PrintfPlain'. -/
def printfPlainCard : Claim7 := { stood := { row := printfPlainRow, standIns := [], harness := (true, "77de23b822b68858560ca572ee058966d18b618bf1918fc53ba9ecf70e707a2d"), looks := true }, kinds := [], alts := [], laidByText := true, laidKinds := [.data, .data, .data, .data, .sentinel, .sentinel, .pinned, .pinned], laidTests := true, laidLooks := .later }
def PrintfPlainCardSaid : Prop := Claim7.holds Tryz.pinned (.plain (OpenSpec.ofChange printfPlainSpec)) printfPlainCard

/-- THE TIED CARD OF 'thresherlaw11.PrintfTexts'. -/
def printfTextsCard : Claim7 := { stood := { row := printfTextsRow, standIns := [], harness := (true, "77de23b822b68858560ca572ee058966d18b618bf1918fc53ba9ecf70e707a2d"), looks := true }, kinds := [], alts := [], laidByText := true, laidKinds := [.data, .data, .data, .data, .sentinel, .sentinel, .pinned, .pinned], laidTests := true, laidLooks := .later }
def PrintfTextsCardSaid : Prop := Claim7.holds Tryz.pinned (.plain (OpenSpec.ofChange printfTextsSpec)) printfTextsCard

/-- THE TIED CARD OF 'thresherlaw08.AssocLoops'. -/
def assocLoopsCard : Claim7 := { stood := { row := assocLoopsRow, standIns := [], harness := (true, "77de23b822b68858560ca572ee058966d18b618bf1918fc53ba9ecf70e707a2d"), looks := true }, kinds := [], alts := [], laidByText := true, laidKinds := [.data, .data, .data, .data, .sentinel, .sentinel, .pinned, .pinned], laidTests := true, laidLooks := .later }
def AssocLoopsCardSaid : Prop := Claim7.holds Tryz.pinned (.plain (OpenSpec.ofChange assocLoopsSpec)) assocLoopsCard

/-- THE SECOND FORM's CARD OF 'thresherlaw04.NumReckons'. -/
def numReckonsUptoCard : Claim7 := { stood := { row := numReckonsUptoRow, standIns := [], harness := (true, "77de23b822b68858560ca572ee058966d18b618bf1918fc53ba9ecf70e707a2d"), looks := true }, kinds := [], alts := [], laidByText := true, laidKinds := [.data, .pinned], laidTests := true, laidLooks := .later }
def NumReckonsUptoCardSaid : Prop := Claim7.holds Tryz.pinned (.plain (OpenSpec.upto numReckonsSpec)) numReckonsUptoCard

/-- THE SECOND FORM's CARD OF 'thresherlaw05.FormatWide'. -/
def formatWideUptoCard : Claim7 := { stood := { row := formatWideUptoRow, standIns := [], harness := (true, "77de23b822b68858560ca572ee058966d18b618bf1918fc53ba9ecf70e707a2d"), looks := true }, kinds := [], alts := [], laidByText := true, laidKinds := [.data, .data, .data, .data, .sentinel, .sentinel, .pinned, .pinned], laidTests := true, laidLooks := .later }
def FormatWideUptoCardSaid : Prop := Claim7.holds Tryz.pinned (.plain (OpenSpec.upto formatWideSpec)) formatWideUptoCard

/-- THE SECOND FORM's CARD OF 'thresherlaw05.FormatWhole'. -/
def formatWholeUptoCard : Claim7 := { stood := { row := formatWholeUptoRow, standIns := [], harness := (true, "77de23b822b68858560ca572ee058966d18b618bf1918fc53ba9ecf70e707a2d"), looks := true }, kinds := [], alts := [], laidByText := true, laidKinds := [.data, .data, .data, .data, .sentinel, .sentinel, .pinned, .pinned], laidTests := true, laidLooks := .later }
def FormatWholeUptoCardSaid : Prop := Claim7.holds Tryz.pinned (.plain (OpenSpec.upto formatWholeSpec)) formatWholeUptoCard

/-- THE SECOND FORM's CARD OF 'thresherlaw06.CellCompares'. -/
def cellComparesUptoCard : Claim7 := { stood := { row := cellComparesUptoRow, standIns := [], harness := (true, "77de23b822b68858560ca572ee058966d18b618bf1918fc53ba9ecf70e707a2d"), looks := true }, kinds := [], alts := [], laidByText := true, laidKinds := [.data, .data, .data, .data, .sentinel, .sentinel, .pinned, .pinned], laidTests := true, laidLooks := .later }
def CellComparesUptoCardSaid : Prop := Claim7.holds Tryz.pinned (.plain (OpenSpec.upto cellComparesSpec)) cellComparesUptoCard

/-- THE SECOND FORM's CARD OF 'thresherlaw11.PrintfWrites'. -/
def printfWritesUptoCard : Claim7 := { stood := { row := printfWritesUptoRow, standIns := [], harness := (true, "77de23b822b68858560ca572ee058966d18b618bf1918fc53ba9ecf70e707a2d"), looks := true }, kinds := [], alts := [], laidByText := true, laidKinds := [.data, .data, .data, .data, .sentinel, .sentinel, .pinned, .pinned], laidTests := true, laidLooks := .later }
def PrintfWritesUptoCardSaid : Prop := Claim7.holds Tryz.pinned (.plain (OpenSpec.upto printfWritesSpec)) printfWritesUptoCard

/-- THE SECOND FORM's CARD OF 'thresherlaw11.PrintfJoins'. -/
def printfJoinsUptoCard : Claim7 := { stood := { row := printfJoinsUptoRow, standIns := [], harness := (true, "77de23b822b68858560ca572ee058966d18b618bf1918fc53ba9ecf70e707a2d"), looks := true }, kinds := [], alts := [], laidByText := true, laidKinds := [.data, .data, .data, .data, .sentinel, .sentinel, .pinned, .pinned], laidTests := true, laidLooks := .later }
def PrintfJoinsUptoCardSaid : Prop := Claim7.holds Tryz.pinned (.plain (OpenSpec.upto printfJoinsSpec)) printfJoinsUptoCard

/-- THE SECOND FORM's CARD OF 'thresherlaw11.PrintfPlain'. -/
def printfPlainUptoCard : Claim7 := { stood := { row := printfPlainUptoRow, standIns := [], harness := (true, "77de23b822b68858560ca572ee058966d18b618bf1918fc53ba9ecf70e707a2d"), looks := true }, kinds := [], alts := [], laidByText := true, laidKinds := [.data, .data, .data, .data, .sentinel, .sentinel, .pinned, .pinned], laidTests := true, laidLooks := .later }
def PrintfPlainUptoCardSaid : Prop := Claim7.holds Tryz.pinned (.plain (OpenSpec.upto printfPlainSpec)) printfPlainUptoCard

/-- THE SECOND FORM's CARD OF 'thresherlaw11.PrintfTexts'. -/
def printfTextsUptoCard : Claim7 := { stood := { row := printfTextsUptoRow, standIns := [], harness := (true, "77de23b822b68858560ca572ee058966d18b618bf1918fc53ba9ecf70e707a2d"), looks := true }, kinds := [], alts := [], laidByText := true, laidKinds := [.data, .data, .data, .data, .sentinel, .sentinel, .pinned, .pinned], laidTests := true, laidLooks := .later }
def PrintfTextsUptoCardSaid : Prop := Claim7.holds Tryz.pinned (.plain (OpenSpec.upto printfTextsSpec)) printfTextsUptoCard

/-- THE SECOND FORM's CARD OF 'thresherlaw08.AssocLoops'. -/
def assocLoopsUptoCard : Claim7 := { stood := { row := assocLoopsUptoRow, standIns := [], harness := (true, "77de23b822b68858560ca572ee058966d18b618bf1918fc53ba9ecf70e707a2d"), looks := true }, kinds := [], alts := [], laidByText := true, laidKinds := [.data, .data, .data, .data, .sentinel, .sentinel, .pinned, .pinned], laidTests := true, laidLooks := .later }
def AssocLoopsUptoCardSaid : Prop := Claim7.holds Tryz.pinned (.plain (OpenSpec.upto assocLoopsSpec)) assocLoopsUptoCard
end Rows
end Go.Proofs.YtfdnhkjeoeffoaaGreatDoor
