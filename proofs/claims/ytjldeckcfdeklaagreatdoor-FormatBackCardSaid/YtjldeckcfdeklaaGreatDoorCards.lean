/-
  DERIVED. GIVEN WITH THE SEED: THE CARDS: each row of YtjldeckcfdeklaaGreatDoorRows.lean that lists a variable, with what it lists TIED to the program's text (the seventh form; the later family's looks); each row that meets fmt, with fmt's text TOLD by the authors' own Lean function (tested against real Go, not proved from fmt's source: count such statements apart). THE CARD IS WHAT COUNTS. Prove the row's statement (the work); the ties are given (YtjldeckcfdeklaaGreatDoorTie.lean); close each card by the builder's one call (the guide's Derived/Test/ToyasCard.lean, 'card_holds'). Laid BY PROGRAM, IN A SANDBOX (cutbox-door.mjs). By AI agents, Wed Nov 11 2026. No macro, syntax, notation, axiom, sorry.
-/
import Derived.Test.YtjldeckcfdeklaaGreatDoorRows
import GoSem.ClaimSeven
namespace Go.Proofs.YtjldeckcfdeklaaGreatDoor
namespace Rows

/-- THE TIED CARD OF 'thresherlaw05.FormatParses'. -/
def formatParsesCard : Claim7 := { stood := { row := formatParsesRow, standIns := [], harness := (true, "7f3af10428b44959a66fe78225f8eea3ab48a635c8d1b0e0e992eed89d8083a8"), looks := true }, kinds := [], alts := [], laidByText := true, laidKinds := [.data, .data, .data, .data, .sentinel, .sentinel, .pinned, .pinned], laidTests := true, laidLooks := .later }
def FormatParsesCardSaid : Prop := Claim7.holds Tryz.pinned (.plain (OpenSpec.ofChange formatParsesSpec)) formatParsesCard

/-- THE TIED CARD OF 'thresherlaw05.FormatTexts'. -/
def formatTextsCard : Claim7 := { stood := { row := formatTextsRow, standIns := [], harness := (true, "7f3af10428b44959a66fe78225f8eea3ab48a635c8d1b0e0e992eed89d8083a8"), looks := true }, kinds := [], alts := [], laidByText := true, laidKinds := [.data, .data, .data, .data, .sentinel, .sentinel, .pinned, .pinned], laidTests := true, laidLooks := .later }
def FormatTextsCardSaid : Prop := Claim7.holds Tryz.pinned (.plain (OpenSpec.ofChange formatTextsSpec)) formatTextsCard

/-- THE TIED CARD OF 'thresherlaw05.FormatWide'. -/
def formatWideCard : Claim7 := { stood := { row := formatWideRow, standIns := [], harness := (true, "7f3af10428b44959a66fe78225f8eea3ab48a635c8d1b0e0e992eed89d8083a8"), looks := true }, kinds := [], alts := [], laidByText := true, laidKinds := [.data, .data, .data, .data, .sentinel, .sentinel, .pinned, .pinned], laidTests := true, laidLooks := .later }
def FormatWideCardSaid : Prop := Claim7.holds Tryz.pinned (.plain (OpenSpec.ofChange formatWideSpec)) formatWideCard

/-- THE TIED CARD OF 'thresherlaw05.FormatWhole'. -/
def formatWholeCard : Claim7 := { stood := { row := formatWholeRow, standIns := [], harness := (true, "7f3af10428b44959a66fe78225f8eea3ab48a635c8d1b0e0e992eed89d8083a8"), looks := true }, kinds := [], alts := [], laidByText := true, laidKinds := [.data, .data, .data, .data, .sentinel, .sentinel, .pinned, .pinned], laidTests := true, laidLooks := .later }
def FormatWholeCardSaid : Prop := Claim7.holds Tryz.pinned (.plain (OpenSpec.ofChange formatWholeSpec)) formatWholeCard

/-- THE TIED CARD OF 'thresherlaw05.FormatBack'. -/
def formatBackCard : Claim7 := { stood := { row := formatBackRow, standIns := [], harness := (true, "7f3af10428b44959a66fe78225f8eea3ab48a635c8d1b0e0e992eed89d8083a8"), looks := true }, kinds := [], alts := [], laidByText := true, laidKinds := [.data, .data, .data, .data, .sentinel, .sentinel, .pinned, .pinned], laidTests := true, laidLooks := .later }
def FormatBackCardSaid : Prop := Claim7.holds Tryz.pinned (.plain (OpenSpec.ofChange formatBackSpec)) formatBackCard

/-- THE TIED CARD OF 'thresherlaw06.CellNames'. -/
def cellNamesCard : Claim7 := { stood := { row := cellNamesRow, standIns := [], harness := (true, "7f3af10428b44959a66fe78225f8eea3ab48a635c8d1b0e0e992eed89d8083a8"), looks := true }, kinds := [], alts := [], laidByText := true, laidKinds := [.data, .data, .data, .data, .sentinel, .sentinel, .pinned, .pinned], laidTests := true, laidLooks := .later }
def CellNamesCardSaid : Prop := Claim7.holds Tryz.pinned (.plain (OpenSpec.ofChange cellNamesSpec)) cellNamesCard

/-- THE TIED CARD OF 'thresherlaw06.CellCompares'. -/
def cellComparesCard : Claim7 := { stood := { row := cellComparesRow, standIns := [], harness := (true, "7f3af10428b44959a66fe78225f8eea3ab48a635c8d1b0e0e992eed89d8083a8"), looks := true }, kinds := [], alts := [], laidByText := true, laidKinds := [.data, .data, .data, .data, .sentinel, .sentinel, .pinned, .pinned], laidTests := true, laidLooks := .later }
def CellComparesCardSaid : Prop := Claim7.holds Tryz.pinned (.plain (OpenSpec.ofChange cellComparesSpec)) cellComparesCard

/-- THE TIED CARD OF 'thresherlaw06.CellOrders'. -/
def cellOrdersCard : Claim7 := { stood := { row := cellOrdersRow, standIns := [], harness := (true, "7f3af10428b44959a66fe78225f8eea3ab48a635c8d1b0e0e992eed89d8083a8"), looks := true }, kinds := [], alts := [], laidByText := true, laidKinds := [.data, .data, .data, .data, .sentinel, .sentinel, .pinned, .pinned], laidTests := true, laidLooks := .later }
def CellOrdersCardSaid : Prop := Claim7.holds Tryz.pinned (.plain (OpenSpec.ofChange cellOrdersSpec)) cellOrdersCard

/-- THE TIED CARD OF 'thresherlaw06.CellTexts'. -/
def cellTextsCard : Claim7 := { stood := { row := cellTextsRow, standIns := [], harness := (true, "7f3af10428b44959a66fe78225f8eea3ab48a635c8d1b0e0e992eed89d8083a8"), looks := true }, kinds := [], alts := [], laidByText := true, laidKinds := [.data, .data, .data, .data, .sentinel, .sentinel, .pinned, .pinned], laidTests := true, laidLooks := .later }
def CellTextsCardSaid : Prop := Claim7.holds Tryz.pinned (.plain (OpenSpec.ofChange cellTextsSpec)) cellTextsCard

/-- THE TIED CARD OF 'thresherlaw06.CellInput'. -/
def cellInputCard : Claim7 := { stood := { row := cellInputRow, standIns := [], harness := (true, "7f3af10428b44959a66fe78225f8eea3ab48a635c8d1b0e0e992eed89d8083a8"), looks := true }, kinds := [], alts := [], laidByText := true, laidKinds := [.data, .data, .data, .data, .sentinel, .sentinel, .pinned, .pinned], laidTests := true, laidLooks := .later }
def CellInputCardSaid : Prop := Claim7.holds Tryz.pinned (.plain (OpenSpec.ofChange cellInputSpec)) cellInputCard

/-- THE SECOND FORM's CARD OF 'thresherlaw05.FormatParses'. -/
def formatParsesUptoCard : Claim7 := { stood := { row := formatParsesUptoRow, standIns := [], harness := (true, "7f3af10428b44959a66fe78225f8eea3ab48a635c8d1b0e0e992eed89d8083a8"), looks := true }, kinds := [], alts := [], laidByText := true, laidKinds := [.data, .data, .data, .data, .sentinel, .sentinel, .pinned, .pinned], laidTests := true, laidLooks := .later }
def FormatParsesUptoCardSaid : Prop := Claim7.holds Tryz.pinned (.plain (OpenSpec.upto formatParsesSpec)) formatParsesUptoCard

/-- THE SECOND FORM's CARD OF 'thresherlaw05.FormatTexts'. -/
def formatTextsUptoCard : Claim7 := { stood := { row := formatTextsUptoRow, standIns := [], harness := (true, "7f3af10428b44959a66fe78225f8eea3ab48a635c8d1b0e0e992eed89d8083a8"), looks := true }, kinds := [], alts := [], laidByText := true, laidKinds := [.data, .data, .data, .data, .sentinel, .sentinel, .pinned, .pinned], laidTests := true, laidLooks := .later }
def FormatTextsUptoCardSaid : Prop := Claim7.holds Tryz.pinned (.plain (OpenSpec.upto formatTextsSpec)) formatTextsUptoCard

/-- THE SECOND FORM's CARD OF 'thresherlaw05.FormatWide'. -/
def formatWideUptoCard : Claim7 := { stood := { row := formatWideUptoRow, standIns := [], harness := (true, "7f3af10428b44959a66fe78225f8eea3ab48a635c8d1b0e0e992eed89d8083a8"), looks := true }, kinds := [], alts := [], laidByText := true, laidKinds := [.data, .data, .data, .data, .sentinel, .sentinel, .pinned, .pinned], laidTests := true, laidLooks := .later }
def FormatWideUptoCardSaid : Prop := Claim7.holds Tryz.pinned (.plain (OpenSpec.upto formatWideSpec)) formatWideUptoCard

/-- THE SECOND FORM's CARD OF 'thresherlaw05.FormatWhole'. -/
def formatWholeUptoCard : Claim7 := { stood := { row := formatWholeUptoRow, standIns := [], harness := (true, "7f3af10428b44959a66fe78225f8eea3ab48a635c8d1b0e0e992eed89d8083a8"), looks := true }, kinds := [], alts := [], laidByText := true, laidKinds := [.data, .data, .data, .data, .sentinel, .sentinel, .pinned, .pinned], laidTests := true, laidLooks := .later }
def FormatWholeUptoCardSaid : Prop := Claim7.holds Tryz.pinned (.plain (OpenSpec.upto formatWholeSpec)) formatWholeUptoCard

/-- THE SECOND FORM's CARD OF 'thresherlaw05.FormatBack'. -/
def formatBackUptoCard : Claim7 := { stood := { row := formatBackUptoRow, standIns := [], harness := (true, "7f3af10428b44959a66fe78225f8eea3ab48a635c8d1b0e0e992eed89d8083a8"), looks := true }, kinds := [], alts := [], laidByText := true, laidKinds := [.data, .data, .data, .data, .sentinel, .sentinel, .pinned, .pinned], laidTests := true, laidLooks := .later }
def FormatBackUptoCardSaid : Prop := Claim7.holds Tryz.pinned (.plain (OpenSpec.upto formatBackSpec)) formatBackUptoCard

/-- THE SECOND FORM's CARD OF 'thresherlaw06.CellNames'. -/
def cellNamesUptoCard : Claim7 := { stood := { row := cellNamesUptoRow, standIns := [], harness := (true, "7f3af10428b44959a66fe78225f8eea3ab48a635c8d1b0e0e992eed89d8083a8"), looks := true }, kinds := [], alts := [], laidByText := true, laidKinds := [.data, .data, .data, .data, .sentinel, .sentinel, .pinned, .pinned], laidTests := true, laidLooks := .later }
def CellNamesUptoCardSaid : Prop := Claim7.holds Tryz.pinned (.plain (OpenSpec.upto cellNamesSpec)) cellNamesUptoCard

/-- THE SECOND FORM's CARD OF 'thresherlaw06.CellCompares'. -/
def cellComparesUptoCard : Claim7 := { stood := { row := cellComparesUptoRow, standIns := [], harness := (true, "7f3af10428b44959a66fe78225f8eea3ab48a635c8d1b0e0e992eed89d8083a8"), looks := true }, kinds := [], alts := [], laidByText := true, laidKinds := [.data, .data, .data, .data, .sentinel, .sentinel, .pinned, .pinned], laidTests := true, laidLooks := .later }
def CellComparesUptoCardSaid : Prop := Claim7.holds Tryz.pinned (.plain (OpenSpec.upto cellComparesSpec)) cellComparesUptoCard

/-- THE SECOND FORM's CARD OF 'thresherlaw06.CellOrders'. -/
def cellOrdersUptoCard : Claim7 := { stood := { row := cellOrdersUptoRow, standIns := [], harness := (true, "7f3af10428b44959a66fe78225f8eea3ab48a635c8d1b0e0e992eed89d8083a8"), looks := true }, kinds := [], alts := [], laidByText := true, laidKinds := [.data, .data, .data, .data, .sentinel, .sentinel, .pinned, .pinned], laidTests := true, laidLooks := .later }
def CellOrdersUptoCardSaid : Prop := Claim7.holds Tryz.pinned (.plain (OpenSpec.upto cellOrdersSpec)) cellOrdersUptoCard

/-- THE SECOND FORM's CARD OF 'thresherlaw06.CellTexts'. -/
def cellTextsUptoCard : Claim7 := { stood := { row := cellTextsUptoRow, standIns := [], harness := (true, "7f3af10428b44959a66fe78225f8eea3ab48a635c8d1b0e0e992eed89d8083a8"), looks := true }, kinds := [], alts := [], laidByText := true, laidKinds := [.data, .data, .data, .data, .sentinel, .sentinel, .pinned, .pinned], laidTests := true, laidLooks := .later }
def CellTextsUptoCardSaid : Prop := Claim7.holds Tryz.pinned (.plain (OpenSpec.upto cellTextsSpec)) cellTextsUptoCard

/-- THE SECOND FORM's CARD OF 'thresherlaw06.CellInput'. -/
def cellInputUptoCard : Claim7 := { stood := { row := cellInputUptoRow, standIns := [], harness := (true, "7f3af10428b44959a66fe78225f8eea3ab48a635c8d1b0e0e992eed89d8083a8"), looks := true }, kinds := [], alts := [], laidByText := true, laidKinds := [.data, .data, .data, .data, .sentinel, .sentinel, .pinned, .pinned], laidTests := true, laidLooks := .later }
def CellInputUptoCardSaid : Prop := Claim7.holds Tryz.pinned (.plain (OpenSpec.upto cellInputSpec)) cellInputUptoCard
end Rows
end Go.Proofs.YtjldeckcfdeklaaGreatDoor
