/-
  DERIVED. GIVEN WITH THE SEED: THE CARDS: each row of YtflbhifdololfaaGreatDoorRows.lean that lists a variable, with what it lists TIED to the program's text (the seventh form; the later family's looks); each row that meets fmt, with fmt's text TOLD by the authors' own Lean function (tested against real Go, not proved from fmt's source: count such statements apart). THE CARD IS WHAT COUNTS. Prove the row's statement (the work); the ties are given (YtflbhifdololfaaGreatDoorTie.lean); close each card by the builder's one call (the guide's Derived/Test/ToyasCard.lean, 'card_holds'). Laid BY PROGRAM, IN A SANDBOX (cutbox-door.mjs). By AI agents, Wed Nov 11 2026. No macro, syntax, notation, axiom, sorry.
-/
import Derived.Test.YtflbhifdololfaaGreatDoorRows
import GoSem.ClaimSeven
namespace Go.Proofs.YtflbhifdololfaaGreatDoor
namespace Rows

/-- THE TIED CARD OF 'thresherlaw05.FormatWide'. -/
def formatWideCard : Claim7 := { stood := { row := formatWideRow, standIns := [], harness := (true, "cbd5e4955b1f8711663bfb4e825ffb5f226cc56706d4fda86838fd9ee9434817"), looks := true }, kinds := [], alts := [], laidByText := true, laidKinds := [.data, .data, .data, .data, .sentinel, .sentinel, .pinned, .pinned], laidTests := true, laidLooks := .later }
def FormatWideCardSaid : Prop := Claim7.holds Tryz.pinned (.plain (OpenSpec.ofChange formatWideSpec)) formatWideCard

/-- THE TIED CARD OF 'thresherlaw05.FormatWhole'. -/
def formatWholeCard : Claim7 := { stood := { row := formatWholeRow, standIns := [], harness := (true, "cbd5e4955b1f8711663bfb4e825ffb5f226cc56706d4fda86838fd9ee9434817"), looks := true }, kinds := [], alts := [], laidByText := true, laidKinds := [.data, .data, .data, .data, .sentinel, .sentinel, .pinned, .pinned], laidTests := true, laidLooks := .later }
def FormatWholeCardSaid : Prop := Claim7.holds Tryz.pinned (.plain (OpenSpec.ofChange formatWholeSpec)) formatWholeCard

/-- THE TIED CARD OF 'thresherlaw11.PrintfJoins'. -/
def printfJoinsCard : Claim7 := { stood := { row := printfJoinsRow, standIns := [], harness := (true, "cbd5e4955b1f8711663bfb4e825ffb5f226cc56706d4fda86838fd9ee9434817"), looks := true }, kinds := [], alts := [], laidByText := true, laidKinds := [.data, .data, .data, .data, .sentinel, .sentinel, .pinned, .pinned], laidTests := true, laidLooks := .later }
def PrintfJoinsCardSaid : Prop := Claim7.holds Tryz.pinned (.plain (OpenSpec.ofChange printfJoinsSpec)) printfJoinsCard

/-- THE TIED CARD OF 'thresherlaw11.PrintfPlain'. -/
def printfPlainCard : Claim7 := { stood := { row := printfPlainRow, standIns := [], harness := (true, "cbd5e4955b1f8711663bfb4e825ffb5f226cc56706d4fda86838fd9ee9434817"), looks := true }, kinds := [], alts := [], laidByText := true, laidKinds := [.data, .data, .data, .data, .sentinel, .sentinel, .pinned, .pinned], laidTests := true, laidLooks := .later }
def PrintfPlainCardSaid : Prop := Claim7.holds Tryz.pinned (.plain (OpenSpec.ofChange printfPlainSpec)) printfPlainCard

/-- THE TIED CARD OF 'thresherlaw11.PrintfTexts'. -/
def printfTextsCard : Claim7 := { stood := { row := printfTextsRow, standIns := [], harness := (true, "cbd5e4955b1f8711663bfb4e825ffb5f226cc56706d4fda86838fd9ee9434817"), looks := true }, kinds := [], alts := [], laidByText := true, laidKinds := [.data, .data, .data, .data, .sentinel, .sentinel, .pinned, .pinned], laidTests := true, laidLooks := .later }
def PrintfTextsCardSaid : Prop := Claim7.holds Tryz.pinned (.plain (OpenSpec.ofChange printfTextsSpec)) printfTextsCard

/-- THE TIED CARD OF 'thresherlaw07.SortsTurned'. -/
def sortsTurnedCard : Claim7 := { stood := { row := sortsTurnedRow, standIns := [], harness := (true, "cbd5e4955b1f8711663bfb4e825ffb5f226cc56706d4fda86838fd9ee9434817"), looks := true }, kinds := [], alts := [], laidByText := true, laidKinds := [.data, .data, .data, .data, .sentinel, .sentinel, .pinned, .pinned], laidTests := true, laidLooks := .later }
def SortsTurnedCardSaid : Prop := Claim7.holds Tryz.pinned (.plain (OpenSpec.ofChange sortsTurnedSpec)) sortsTurnedCard

/-- THE TIED CARD OF 'thresherlaw07.SortsKeys'. -/
def sortsKeysCard : Claim7 := { stood := { row := sortsKeysRow, standIns := [], harness := (true, "cbd5e4955b1f8711663bfb4e825ffb5f226cc56706d4fda86838fd9ee9434817"), looks := true }, kinds := [], alts := [], laidByText := true, laidKinds := [.data, .data, .data, .data, .sentinel, .sentinel, .pinned, .pinned], laidTests := true, laidLooks := .later }
def SortsKeysCardSaid : Prop := Claim7.holds Tryz.pinned (.plain (OpenSpec.ofChange sortsKeysSpec)) sortsKeysCard

/-- THE TIED CARD OF 'thresherlaw07.SortsWhole'. -/
def sortsWholeCard : Claim7 := { stood := { row := sortsWholeRow, standIns := [], harness := (true, "cbd5e4955b1f8711663bfb4e825ffb5f226cc56706d4fda86838fd9ee9434817"), looks := true }, kinds := [], alts := [], laidByText := true, laidKinds := [.data, .data, .data, .data, .sentinel, .sentinel, .pinned, .pinned], laidTests := true, laidLooks := .later }
def SortsWholeCardSaid : Prop := Claim7.holds Tryz.pinned (.plain (OpenSpec.ofChange sortsWholeSpec)) sortsWholeCard

/-- THE TIED CARD OF 'thresherlaw08.AssocKeeps'. -/
def assocKeepsCard : Claim7 := { stood := { row := assocKeepsRow, standIns := [], harness := (true, "cbd5e4955b1f8711663bfb4e825ffb5f226cc56706d4fda86838fd9ee9434817"), looks := true }, kinds := [], alts := [], laidByText := true, laidKinds := [.data, .data, .data, .data, .sentinel, .sentinel, .pinned, .pinned], laidTests := true, laidLooks := .later }
def AssocKeepsCardSaid : Prop := Claim7.holds Tryz.pinned (.plain (OpenSpec.ofChange assocKeepsSpec)) assocKeepsCard

/-- THE TIED CARD OF 'thresherlaw08.AssocLoops'. -/
def assocLoopsCard : Claim7 := { stood := { row := assocLoopsRow, standIns := [], harness := (true, "cbd5e4955b1f8711663bfb4e825ffb5f226cc56706d4fda86838fd9ee9434817"), looks := true }, kinds := [], alts := [], laidByText := true, laidKinds := [.data, .data, .data, .data, .sentinel, .sentinel, .pinned, .pinned], laidTests := true, laidLooks := .later }
def AssocLoopsCardSaid : Prop := Claim7.holds Tryz.pinned (.plain (OpenSpec.ofChange assocLoopsSpec)) assocLoopsCard

/-- THE SECOND FORM's CARD OF 'thresherlaw05.FormatWide'. -/
def formatWideUptoCard : Claim7 := { stood := { row := formatWideUptoRow, standIns := [], harness := (true, "cbd5e4955b1f8711663bfb4e825ffb5f226cc56706d4fda86838fd9ee9434817"), looks := true }, kinds := [], alts := [], laidByText := true, laidKinds := [.data, .data, .data, .data, .sentinel, .sentinel, .pinned, .pinned], laidTests := true, laidLooks := .later }
def FormatWideUptoCardSaid : Prop := Claim7.holds Tryz.pinned (.plain (OpenSpec.upto formatWideSpec)) formatWideUptoCard

/-- THE SECOND FORM's CARD OF 'thresherlaw05.FormatWhole'. -/
def formatWholeUptoCard : Claim7 := { stood := { row := formatWholeUptoRow, standIns := [], harness := (true, "cbd5e4955b1f8711663bfb4e825ffb5f226cc56706d4fda86838fd9ee9434817"), looks := true }, kinds := [], alts := [], laidByText := true, laidKinds := [.data, .data, .data, .data, .sentinel, .sentinel, .pinned, .pinned], laidTests := true, laidLooks := .later }
def FormatWholeUptoCardSaid : Prop := Claim7.holds Tryz.pinned (.plain (OpenSpec.upto formatWholeSpec)) formatWholeUptoCard

/-- THE SECOND FORM's CARD OF 'thresherlaw11.PrintfJoins'. -/
def printfJoinsUptoCard : Claim7 := { stood := { row := printfJoinsUptoRow, standIns := [], harness := (true, "cbd5e4955b1f8711663bfb4e825ffb5f226cc56706d4fda86838fd9ee9434817"), looks := true }, kinds := [], alts := [], laidByText := true, laidKinds := [.data, .data, .data, .data, .sentinel, .sentinel, .pinned, .pinned], laidTests := true, laidLooks := .later }
def PrintfJoinsUptoCardSaid : Prop := Claim7.holds Tryz.pinned (.plain (OpenSpec.upto printfJoinsSpec)) printfJoinsUptoCard

/-- THE SECOND FORM's CARD OF 'thresherlaw11.PrintfPlain'. -/
def printfPlainUptoCard : Claim7 := { stood := { row := printfPlainUptoRow, standIns := [], harness := (true, "cbd5e4955b1f8711663bfb4e825ffb5f226cc56706d4fda86838fd9ee9434817"), looks := true }, kinds := [], alts := [], laidByText := true, laidKinds := [.data, .data, .data, .data, .sentinel, .sentinel, .pinned, .pinned], laidTests := true, laidLooks := .later }
def PrintfPlainUptoCardSaid : Prop := Claim7.holds Tryz.pinned (.plain (OpenSpec.upto printfPlainSpec)) printfPlainUptoCard

/-- THE SECOND FORM's CARD OF 'thresherlaw11.PrintfTexts'. -/
def printfTextsUptoCard : Claim7 := { stood := { row := printfTextsUptoRow, standIns := [], harness := (true, "cbd5e4955b1f8711663bfb4e825ffb5f226cc56706d4fda86838fd9ee9434817"), looks := true }, kinds := [], alts := [], laidByText := true, laidKinds := [.data, .data, .data, .data, .sentinel, .sentinel, .pinned, .pinned], laidTests := true, laidLooks := .later }
def PrintfTextsUptoCardSaid : Prop := Claim7.holds Tryz.pinned (.plain (OpenSpec.upto printfTextsSpec)) printfTextsUptoCard

/-- THE SECOND FORM's CARD OF 'thresherlaw07.SortsTurned'. -/
def sortsTurnedUptoCard : Claim7 := { stood := { row := sortsTurnedUptoRow, standIns := [], harness := (true, "cbd5e4955b1f8711663bfb4e825ffb5f226cc56706d4fda86838fd9ee9434817"), looks := true }, kinds := [], alts := [], laidByText := true, laidKinds := [.data, .data, .data, .data, .sentinel, .sentinel, .pinned, .pinned], laidTests := true, laidLooks := .later }
def SortsTurnedUptoCardSaid : Prop := Claim7.holds Tryz.pinned (.plain (OpenSpec.upto sortsTurnedSpec)) sortsTurnedUptoCard

/-- THE SECOND FORM's CARD OF 'thresherlaw07.SortsKeys'. -/
def sortsKeysUptoCard : Claim7 := { stood := { row := sortsKeysUptoRow, standIns := [], harness := (true, "cbd5e4955b1f8711663bfb4e825ffb5f226cc56706d4fda86838fd9ee9434817"), looks := true }, kinds := [], alts := [], laidByText := true, laidKinds := [.data, .data, .data, .data, .sentinel, .sentinel, .pinned, .pinned], laidTests := true, laidLooks := .later }
def SortsKeysUptoCardSaid : Prop := Claim7.holds Tryz.pinned (.plain (OpenSpec.upto sortsKeysSpec)) sortsKeysUptoCard

/-- THE SECOND FORM's CARD OF 'thresherlaw07.SortsWhole'. -/
def sortsWholeUptoCard : Claim7 := { stood := { row := sortsWholeUptoRow, standIns := [], harness := (true, "cbd5e4955b1f8711663bfb4e825ffb5f226cc56706d4fda86838fd9ee9434817"), looks := true }, kinds := [], alts := [], laidByText := true, laidKinds := [.data, .data, .data, .data, .sentinel, .sentinel, .pinned, .pinned], laidTests := true, laidLooks := .later }
def SortsWholeUptoCardSaid : Prop := Claim7.holds Tryz.pinned (.plain (OpenSpec.upto sortsWholeSpec)) sortsWholeUptoCard

/-- THE SECOND FORM's CARD OF 'thresherlaw08.AssocKeeps'. -/
def assocKeepsUptoCard : Claim7 := { stood := { row := assocKeepsUptoRow, standIns := [], harness := (true, "cbd5e4955b1f8711663bfb4e825ffb5f226cc56706d4fda86838fd9ee9434817"), looks := true }, kinds := [], alts := [], laidByText := true, laidKinds := [.data, .data, .data, .data, .sentinel, .sentinel, .pinned, .pinned], laidTests := true, laidLooks := .later }
def AssocKeepsUptoCardSaid : Prop := Claim7.holds Tryz.pinned (.plain (OpenSpec.upto assocKeepsSpec)) assocKeepsUptoCard

/-- THE SECOND FORM's CARD OF 'thresherlaw08.AssocLoops'. -/
def assocLoopsUptoCard : Claim7 := { stood := { row := assocLoopsUptoRow, standIns := [], harness := (true, "cbd5e4955b1f8711663bfb4e825ffb5f226cc56706d4fda86838fd9ee9434817"), looks := true }, kinds := [], alts := [], laidByText := true, laidKinds := [.data, .data, .data, .data, .sentinel, .sentinel, .pinned, .pinned], laidTests := true, laidLooks := .later }
def AssocLoopsUptoCardSaid : Prop := Claim7.holds Tryz.pinned (.plain (OpenSpec.upto assocLoopsSpec)) assocLoopsUptoCard
end Rows
end Go.Proofs.YtflbhifdololfaaGreatDoor
