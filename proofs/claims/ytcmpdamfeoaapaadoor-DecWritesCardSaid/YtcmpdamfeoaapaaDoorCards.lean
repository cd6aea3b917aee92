/-
  DERIVED. GIVEN WITH THE SEED: THE CARDS: each row of YtcmpdamfeoaapaaDoorRows.lean that lists a variable, with what it lists TIED to the program's text (the seventh form; the later family's looks); each row that meets fmt, with fmt's text TOLD by the authors' own Lean function (tested against real Go, not proved from fmt's source: count such statements apart). THE CARD IS WHAT COUNTS. Prove the row's statement (the work); the ties are given (YtcmpdamfeoaapaaDoorTie.lean); close each card by the builder's one call (the guide's Derived/Test/ToyasCard.lean, 'card_holds'). Laid BY PROGRAM, IN A SANDBOX (cutbox-door.mjs). By AI agents, Wed Nov 11 2026. No macro, syntax, notation, axiom, sorry.
-/
import Derived.Test.YtcmpdamfeoaapaaDoorRows
import GoSem.ClaimSeven
namespace Go.Proofs.YtcmpdamfeoaapaaDoor
namespace Rows

/-- THE TIED CARD OF 'thresherlaw03.DecReads'. -/
def decReadsCard : Claim7 := { stood := { row := decReadsRow, standIns := [], harness := (true, "8a0cf83a1b9fa2838964070e9ee02567b0f5018ffb088c39c94cb59cdc6e14bd"), looks := false }, kinds := [], alts := [], laidByText := true, laidKinds := [.data, .pinned], laidTests := true, laidLooks := .later }
def DecReadsCardSaid : Prop := Claim7.holds Tryd.pinned (.plain (OpenSpec.ofChange decReadsSpec)) decReadsCard

/-- THE TIED CARD OF 'thresherlaw03.DecWrites'. -/
def decWritesCard : Claim7 := { stood := { row := decWritesRow, standIns := [], harness := (true, "8a0cf83a1b9fa2838964070e9ee02567b0f5018ffb088c39c94cb59cdc6e14bd"), looks := false }, kinds := [], alts := [], laidByText := true, laidKinds := [.data, .pinned], laidTests := true, laidLooks := .later }
def DecWritesCardSaid : Prop := Claim7.holds Tryd.pinned (.plain (OpenSpec.ofChange decWritesSpec)) decWritesCard

/-- THE SECOND FORM's CARD OF 'thresherlaw03.DecReads'. -/
def decReadsUptoCard : Claim7 := { stood := { row := decReadsUptoRow, standIns := [], harness := (true, "8a0cf83a1b9fa2838964070e9ee02567b0f5018ffb088c39c94cb59cdc6e14bd"), looks := false }, kinds := [], alts := [], laidByText := true, laidKinds := [.data, .pinned], laidTests := true, laidLooks := .later }
def DecReadsUptoCardSaid : Prop := Claim7.holds Tryd.pinned (.plain (OpenSpec.upto decReadsSpec)) decReadsUptoCard

/-- THE SECOND FORM's CARD OF 'thresherlaw03.DecWrites'. -/
def decWritesUptoCard : Claim7 := { stood := { row := decWritesUptoRow, standIns := [], harness := (true, "8a0cf83a1b9fa2838964070e9ee02567b0f5018ffb088c39c94cb59cdc6e14bd"), looks := false }, kinds := [], alts := [], laidByText := true, laidKinds := [.data, .pinned], laidTests := true, laidLooks := .later }
def DecWritesUptoCardSaid : Prop := Claim7.holds Tryd.pinned (.plain (OpenSpec.upto decWritesSpec)) decWritesUptoCard
end Rows
end Go.Proofs.YtcmpdamfeoaapaaDoor
