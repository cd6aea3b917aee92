/-
  DERIVED. GIVEN WITH THE SEED: THE CARDS: each row of YtcipmfjefmjacaaGreatDoorRows.lean that lists a variable, with what it lists TIED to the program's text (the seventh form; the later family's looks); each row that meets fmt, with fmt's text TOLD by the authors' own Lean function (tested against real Go, not proved from fmt's source: count such statements apart). THE CARD IS WHAT COUNTS. Prove the row's statement (the work); the ties are given (YtcipmfjefmjacaaGreatDoorTie.lean); close each card by the builder's one call (the guide's Derived/Test/ToyasCard.lean, 'card_holds'). Laid BY PROGRAM, IN A SANDBOX (cutbox-door.mjs). By AI agents, Wed Nov 11 2026. No macro, syntax, notation, axiom, sorry.
-/
import Derived.Test.YtcipmfjefmjacaaGreatDoorRows
import GoSem.ClaimSeven
namespace Go.Proofs.YtcipmfjefmjacaaGreatDoor
namespace Rows

/-- THE TIED CARD OF 'thresherlaw13.CalDates'. -/
def calDatesCard : Claim7 := { stood := { row := calDatesRow, standIns := [], harness := (true, "c43cd079b3fe40d419be16ac76f86f256f03746996b9c70b4cb10a824b4532ad"), looks := false }, kinds := [], alts := [], laidByText := true, laidKinds := [.data, .data, .data, .data, .listed, .data, .pinned], laidTests := true, laidLooks := .later }
def CalDatesCardSaid : Prop := Claim7.holds Tryz.pinned (.plain (OpenSpec.ofChange calDatesSpec)) calDatesCard

/-- THE TIED CARD OF 'thresherlaw13.CalTexts'. -/
def calTextsCard : Claim7 := { stood := { row := calTextsRow, standIns := [], harness := (true, "c43cd079b3fe40d419be16ac76f86f256f03746996b9c70b4cb10a824b4532ad"), looks := false }, kinds := [], alts := [], laidByText := true, laidKinds := [.data, .data, .data, .data, .listed, .data, .pinned], laidTests := true, laidLooks := .later }
def CalTextsCardSaid : Prop := Claim7.holds Tryz.pinned (.plain (OpenSpec.ofChange calTextsSpec)) calTextsCard

/-- THE TIED CARD OF 'thresherlaw13.CalParses'. -/
def calParsesCard : Claim7 := { stood := { row := calParsesRow, standIns := [], harness := (true, "c43cd079b3fe40d419be16ac76f86f256f03746996b9c70b4cb10a824b4532ad"), looks := false }, kinds := [], alts := [], laidByText := true, laidKinds := [.data, .data, .data, .data, .listed, .data, .pinned], laidTests := true, laidLooks := .later }
def CalParsesCardSaid : Prop := Claim7.holds Tryz.pinned (.plain (OpenSpec.ofChange calParsesSpec)) calParsesCard

/-- THE TIED CARD OF 'thresherlaw13.CalBack'. -/
def calBackCard : Claim7 := { stood := { row := calBackRow, standIns := [], harness := (true, "c43cd079b3fe40d419be16ac76f86f256f03746996b9c70b4cb10a824b4532ad"), looks := false }, kinds := [], alts := [], laidByText := true, laidKinds := [.data, .data, .data, .data, .listed, .data, .pinned], laidTests := true, laidLooks := .later }
def CalBackCardSaid : Prop := Claim7.holds Tryz.pinned (.plain (OpenSpec.ofChange calBackSpec)) calBackCard

/-- THE TIED CARD OF 'thresherlaw13.CalNext'. -/
def calNextCard : Claim7 := { stood := { row := calNextRow, standIns := [], harness := (true, "c43cd079b3fe40d419be16ac76f86f256f03746996b9c70b4cb10a824b4532ad"), looks := false }, kinds := [], alts := [], laidByText := true, laidKinds := [.data, .data, .data, .data, .listed, .data, .pinned], laidTests := true, laidLooks := .later }
def CalNextCardSaid : Prop := Claim7.holds Tryz.pinned (.plain (OpenSpec.ofChange calNextSpec)) calNextCard

/-- THE TIED CARD OF 'thresherlaw13.CalAges'. -/
def calAgesCard : Claim7 := { stood := { row := calAgesRow, standIns := [], harness := (true, "c43cd079b3fe40d419be16ac76f86f256f03746996b9c70b4cb10a824b4532ad"), looks := false }, kinds := [], alts := [], laidByText := true, laidKinds := [.data, .data, .data, .data, .listed, .data, .pinned], laidTests := true, laidLooks := .later }
def CalAgesCardSaid : Prop := Claim7.holds Tryz.pinned (.plain (OpenSpec.ofChange calAgesSpec)) calAgesCard

/-- THE SECOND FORM's CARD OF 'thresherlaw13.CalDates'. -/
def calDatesUptoCard : Claim7 := { stood := { row := calDatesUptoRow, standIns := [], harness := (true, "c43cd079b3fe40d419be16ac76f86f256f03746996b9c70b4cb10a824b4532ad"), looks := false }, kinds := [], alts := [], laidByText := true, laidKinds := [.data, .data, .data, .data, .listed, .data, .pinned], laidTests := true, laidLooks := .later }
def CalDatesUptoCardSaid : Prop := Claim7.holds Tryz.pinned (.plain (OpenSpec.upto calDatesSpec)) calDatesUptoCard

/-- THE SECOND FORM's CARD OF 'thresherlaw13.CalTexts'. -/
def calTextsUptoCard : Claim7 := { stood := { row := calTextsUptoRow, standIns := [], harness := (true, "c43cd079b3fe40d419be16ac76f86f256f03746996b9c70b4cb10a824b4532ad"), looks := false }, kinds := [], alts := [], laidByText := true, laidKinds := [.data, .data, .data, .data, .listed, .data, .pinned], laidTests := true, laidLooks := .later }
def CalTextsUptoCardSaid : Prop := Claim7.holds Tryz.pinned (.plain (OpenSpec.upto calTextsSpec)) calTextsUptoCard

/-- THE SECOND FORM's CARD OF 'thresherlaw13.CalParses'. -/
def calParsesUptoCard : Claim7 := { stood := { row := calParsesUptoRow, standIns := [], harness := (true, "c43cd079b3fe40d419be16ac76f86f256f03746996b9c70b4cb10a824b4532ad"), looks := false }, kinds := [], alts := [], laidByText := true, laidKinds := [.data, .data, .data, .data, .listed, .data, .pinned], laidTests := true, laidLooks := .later }
def CalParsesUptoCardSaid : Prop := Claim7.holds Tryz.pinned (.plain (OpenSpec.upto calParsesSpec)) calParsesUptoCard

/-- THE SECOND FORM's CARD OF 'thresherlaw13.CalBack'. -/
def calBackUptoCard : Claim7 := { stood := { row := calBackUptoRow, standIns := [], harness := (true, "c43cd079b3fe40d419be16ac76f86f256f03746996b9c70b4cb10a824b4532ad"), looks := false }, kinds := [], alts := [], laidByText := true, laidKinds := [.data, .data, .data, .data, .listed, .data, .pinned], laidTests := true, laidLooks := .later }
def CalBackUptoCardSaid : Prop := Claim7.holds Tryz.pinned (.plain (OpenSpec.upto calBackSpec)) calBackUptoCard

/-- THE SECOND FORM's CARD OF 'thresherlaw13.CalNext'. -/
def calNextUptoCard : Claim7 := { stood := { row := calNextUptoRow, standIns := [], harness := (true, "c43cd079b3fe40d419be16ac76f86f256f03746996b9c70b4cb10a824b4532ad"), looks := false }, kinds := [], alts := [], laidByText := true, laidKinds := [.data, .data, .data, .data, .listed, .data, .pinned], laidTests := true, laidLooks := .later }
def CalNextUptoCardSaid : Prop := Claim7.holds Tryz.pinned (.plain (OpenSpec.upto calNextSpec)) calNextUptoCard

/-- THE SECOND FORM's CARD OF 'thresherlaw13.CalAges'. -/
def calAgesUptoCard : Claim7 := { stood := { row := calAgesUptoRow, standIns := [], harness := (true, "c43cd079b3fe40d419be16ac76f86f256f03746996b9c70b4cb10a824b4532ad"), looks := false }, kinds := [], alts := [], laidByText := true, laidKinds := [.data, .data, .data, .data, .listed, .data, .pinned], laidTests := true, laidLooks := .later }
def CalAgesUptoCardSaid : Prop := Claim7.holds Tryz.pinned (.plain (OpenSpec.upto calAgesSpec)) calAgesUptoCard
end Rows
end Go.Proofs.YtcipmfjefmjacaaGreatDoor
