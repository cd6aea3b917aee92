/-
  DERIVED. GIVEN WITH THE SEED: THE CARDS: each row of YtgmdpgflkelpfaaGreatDoorRows.lean that lists a variable, with what it lists TIED to the program's text (the seventh form; the later family's looks); each row that meets fmt, with fmt's text TOLD by the authors' own Lean function (tested against real Go, not proved from fmt's source: count such statements apart). THE CARD IS WHAT COUNTS. Prove the row's statement (the work); the ties are given (YtgmdpgflkelpfaaGreatDoorTie.lean); close each card by the builder's one call (the guide's Derived/Test/ToyasCard.lean, 'card_holds'). Laid BY PROGRAM, IN A SANDBOX (cutbox-door.mjs). By AI agents, Wed Nov 11 2026. No macro, syntax, notation, axiom, sorry.
-/
import Derived.Test.YtgmdpgflkelpfaaGreatDoorRows
import GoSem.ClaimSeven
namespace Go.Proofs.YtgmdpgflkelpfaaGreatDoor
namespace Rows

/-- THE TIED CARD OF 'thresherlaw08.AssocKeeps'. -/
def assocKeepsCard : Claim7 := { stood := { row := assocKeepsRow, standIns := [], harness := (true, "4e36d95e7c85dcd3f697cbe1883d9a0d7e99138c30ed27c1afaaf5a9716ed3d2"), looks := true }, kinds := [], alts := [], laidByText := true, laidKinds := [.data, .data, .data, .data, .sentinel, .sentinel, .pinned, .pinned], laidTests := true, laidLooks := .later }
def AssocKeepsCardSaid : Prop := Claim7.holds Tryz.pinned (.plain (OpenSpec.ofChange assocKeepsSpec)) assocKeepsCard

/-- THE TIED CARD OF 'thresherlaw08.AssocLoops'. -/
def assocLoopsCard : Claim7 := { stood := { row := assocLoopsRow, standIns := [], harness := (true, "4e36d95e7c85dcd3f697cbe1883d9a0d7e99138c30ed27c1afaaf5a9716ed3d2"), looks := true }, kinds := [], alts := [], laidByText := true, laidKinds := [.data, .data, .data, .data, .sentinel, .sentinel, .pinned, .pinned], laidTests := true, laidLooks := .later }
def AssocLoopsCardSaid : Prop := Claim7.holds Tryz.pinned (.plain (OpenSpec.ofChange assocLoopsSpec)) assocLoopsCard

/-- THE TIED CARD OF 'thresherlaw08.AssocNil'. -/
def assocNilCard : Claim7 := { stood := { row := assocNilRow, standIns := [], harness := (true, "4e36d95e7c85dcd3f697cbe1883d9a0d7e99138c30ed27c1afaaf5a9716ed3d2"), looks := true }, kinds := [], alts := [], laidByText := true, laidKinds := [.data, .data, .data, .data, .sentinel, .sentinel, .pinned, .pinned], laidTests := true, laidLooks := .later }
def AssocNilCardSaid : Prop := Claim7.holds Tryz.pinned (.plain (OpenSpec.ofChange assocNilSpec)) assocNilCard

/-- THE SECOND FORM's CARD OF 'thresherlaw08.AssocKeeps'. -/
def assocKeepsUptoCard : Claim7 := { stood := { row := assocKeepsUptoRow, standIns := [], harness := (true, "4e36d95e7c85dcd3f697cbe1883d9a0d7e99138c30ed27c1afaaf5a9716ed3d2"), looks := true }, kinds := [], alts := [], laidByText := true, laidKinds := [.data, .data, .data, .data, .sentinel, .sentinel, .pinned, .pinned], laidTests := true, laidLooks := .later }
def AssocKeepsUptoCardSaid : Prop := Claim7.holds Tryz.pinned (.plain (OpenSpec.upto assocKeepsSpec)) assocKeepsUptoCard

/-- THE SECOND FORM's CARD OF 'thresherlaw08.AssocLoops'. -/
def assocLoopsUptoCard : Claim7 := { stood := { row := assocLoopsUptoRow, standIns := [], harness := (true, "4e36d95e7c85dcd3f697cbe1883d9a0d7e99138c30ed27c1afaaf5a9716ed3d2"), looks := true }, kinds := [], alts := [], laidByText := true, laidKinds := [.data, .data, .data, .data, .sentinel, .sentinel, .pinned, .pinned], laidTests := true, laidLooks := .later }
def AssocLoopsUptoCardSaid : Prop := Claim7.holds Tryz.pinned (.plain (OpenSpec.upto assocLoopsSpec)) assocLoopsUptoCard

/-- THE SECOND FORM's CARD OF 'thresherlaw08.AssocNil'. -/
def assocNilUptoCard : Claim7 := { stood := { row := assocNilUptoRow, standIns := [], harness := (true, "4e36d95e7c85dcd3f697cbe1883d9a0d7e99138c30ed27c1afaaf5a9716ed3d2"), looks := true }, kinds := [], alts := [], laidByText := true, laidKinds := [.data, .data, .data, .data, .sentinel, .sentinel, .pinned, .pinned], laidTests := true, laidLooks := .later }
def AssocNilUptoCardSaid : Prop := Claim7.holds Tryz.pinned (.plain (OpenSpec.upto assocNilSpec)) assocNilUptoCard
end Rows
end Go.Proofs.YtgmdpgflkelpfaaGreatDoor
