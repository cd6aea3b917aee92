/-
  DERIVED. GIVEN WITH THE SEED: THE CARDS: each row of YtkpikkeblogdcaaDoorRows.lean that lists a variable, with what it lists TIED to the program's text (the seventh form; the later family's looks); each row that meets fmt, with fmt's text TOLD by the authors' own Lean function (tested against real Go, not proved from fmt's source: count such statements apart). THE CARD IS WHAT COUNTS. Prove the row's statement (the work); the ties are given (YtkpikkeblogdcaaDoorTie.lean); close each card by the builder's one call (the guide's Derived/Test/ToyasCard.lean, 'card_holds'). Laid BY PROGRAM, IN A SANDBOX (cutbox-door.mjs). By AI agents, Wed Nov 11 2026. No macro, syntax, notation, axiom, sorry.
-/
import Derived.Test.YtkpikkeblogdcaaDoorRows
import GoSem.ClaimSeven
namespace Go.Proofs.YtkpikkeblogdcaaDoor
namespace Rows

/-- THE TIED CARD OF 'thresherlaw03.DecReads'. -/
def decReadsCard : Claim7 := { stood := { row := decReadsRow, standIns := [], harness := (true, "121782eb1adb96599bc028a2525905e20026ae50cba5c512d98167a57585893e"), looks := false }, kinds := [], alts := [], laidByText := true, laidKinds := [.data, .pinned], laidTests := true, laidLooks := .later }
def DecReadsCardSaid : Prop := Claim7.holds Tryd.pinned (.plain (OpenSpec.ofChange decReadsSpec)) decReadsCard

/-- THE TIED CARD OF 'thresherlaw03.DecWrites'. -/
def decWritesCard : Claim7 := { stood := { row := decWritesRow, standIns := [], harness := (true, "121782eb1adb96599bc028a2525905e20026ae50cba5c512d98167a57585893e"), looks := false }, kinds := [], alts := [], laidByText := true, laidKinds := [.data, .pinned], laidTests := true, laidLooks := .later }
def DecWritesCardSaid : Prop := Claim7.holds Tryd.pinned (.plain (OpenSpec.ofChange decWritesSpec)) decWritesCard

/-- THE TIED CARD OF 'thresherlaw03.DecRises'. -/
def decRisesCard : Claim7 := { stood := { row := decRisesRow, standIns := [], harness := (true, "121782eb1adb96599bc028a2525905e20026ae50cba5c512d98167a57585893e"), looks := false }, kinds := [], alts := [], laidByText := true, laidKinds := [.data, .pinned], laidTests := true, laidLooks := .later }
def DecRisesCardSaid : Prop := Claim7.holds Tryd.pinned (.plain (OpenSpec.ofChange decRisesSpec)) decRisesCard

/-- THE TIED CARD OF 'thresherlaw03.DecShort'. -/
def decShortCard : Claim7 := { stood := { row := decShortRow, standIns := [], harness := (true, "121782eb1adb96599bc028a2525905e20026ae50cba5c512d98167a57585893e"), looks := false }, kinds := [], alts := [], laidByText := true, laidKinds := [.data, .pinned], laidTests := true, laidLooks := .later }
def DecShortCardSaid : Prop := Claim7.holds Tryd.pinned (.plain (OpenSpec.ofChange decShortSpec)) decShortCard

/-- THE TIED CARD OF 'thresherlaw03.DecWhole'. -/
def decWholeCard : Claim7 := { stood := { row := decWholeRow, standIns := [], harness := (true, "121782eb1adb96599bc028a2525905e20026ae50cba5c512d98167a57585893e"), looks := false }, kinds := [], alts := [], laidByText := true, laidKinds := [.data, .pinned], laidTests := true, laidLooks := .later }
def DecWholeCardSaid : Prop := Claim7.holds Tryd.pinned (.plain (OpenSpec.ofChange decWholeSpec)) decWholeCard

/-- THE TIED CARD OF 'thresherlaw03.DecBack'. -/
def decBackCard : Claim7 := { stood := { row := decBackRow, standIns := [], harness := (true, "121782eb1adb96599bc028a2525905e20026ae50cba5c512d98167a57585893e"), looks := false }, kinds := [], alts := [], laidByText := true, laidKinds := [.data, .pinned], laidTests := true, laidLooks := .later }
def DecBackCardSaid : Prop := Claim7.holds Tryd.pinned (.plain (OpenSpec.ofChange decBackSpec)) decBackCard

/-- THE TIED CARD OF 'thresherlaw04.NumBack'. -/
def numBackCard : Claim7 := { stood := { row := numBackRow, standIns := [], harness := (true, "121782eb1adb96599bc028a2525905e20026ae50cba5c512d98167a57585893e"), looks := false }, kinds := [], alts := [], laidByText := true, laidKinds := [.data, .pinned], laidTests := true, laidLooks := .later }
def NumBackCardSaid : Prop := Claim7.holds Tryd.pinned (.plain (OpenSpec.ofChange numBackSpec)) numBackCard

/-- THE TIED CARD OF 'thresherlaw04.NumDivides'. -/
def numDividesCard : Claim7 := { stood := { row := numDividesRow, standIns := [], harness := (true, "121782eb1adb96599bc028a2525905e20026ae50cba5c512d98167a57585893e"), looks := false }, kinds := [], alts := [], laidByText := true, laidKinds := [.data, .pinned], laidTests := true, laidLooks := .later }
def NumDividesCardSaid : Prop := Claim7.holds Tryd.pinned (.plain (OpenSpec.ofChange numDividesSpec)) numDividesCard

/-- THE TIED CARD OF 'thresherlaw04.NumSigns'. -/
def numSignsCard : Claim7 := { stood := { row := numSignsRow, standIns := [], harness := (true, "121782eb1adb96599bc028a2525905e20026ae50cba5c512d98167a57585893e"), looks := false }, kinds := [], alts := [], laidByText := true, laidKinds := [.data, .pinned], laidTests := true, laidLooks := .later }
def NumSignsCardSaid : Prop := Claim7.holds Tryd.pinned (.plain (OpenSpec.ofChange numSignsSpec)) numSignsCard

/-- THE TIED CARD OF 'thresherlaw04.NumPowers'. -/
def numPowersCard : Claim7 := { stood := { row := numPowersRow, standIns := [], harness := (true, "121782eb1adb96599bc028a2525905e20026ae50cba5c512d98167a57585893e"), looks := false }, kinds := [], alts := [], laidByText := true, laidKinds := [.data, .pinned], laidTests := true, laidLooks := .later }
def NumPowersCardSaid : Prop := Claim7.holds Tryd.pinned (.plain (OpenSpec.ofChange numPowersSpec)) numPowersCard

/-- THE SECOND FORM's CARD OF 'thresherlaw03.DecReads'. -/
def decReadsUptoCard : Claim7 := { stood := { row := decReadsUptoRow, standIns := [], harness := (true, "121782eb1adb96599bc028a2525905e20026ae50cba5c512d98167a57585893e"), looks := false }, kinds := [], alts := [], laidByText := true, laidKinds := [.data, .pinned], laidTests := true, laidLooks := .later }
def DecReadsUptoCardSaid : Prop := Claim7.holds Tryd.pinned (.plain (OpenSpec.upto decReadsSpec)) decReadsUptoCard

/-- THE SECOND FORM's CARD OF 'thresherlaw03.DecWrites'. -/
def decWritesUptoCard : Claim7 := { stood := { row := decWritesUptoRow, standIns := [], harness := (true, "121782eb1adb96599bc028a2525905e20026ae50cba5c512d98167a57585893e"), looks := false }, kinds := [], alts := [], laidByText := true, laidKinds := [.data, .pinned], laidTests := true, laidLooks := .later }
def DecWritesUptoCardSaid : Prop := Claim7.holds Tryd.pinned (.plain (OpenSpec.upto decWritesSpec)) decWritesUptoCard

/-- THE SECOND FORM's CARD OF 'thresherlaw03.DecRises'. -/
def decRisesUptoCard : Claim7 := { stood := { row := decRisesUptoRow, standIns := [], harness := (true, "121782eb1adb96599bc028a2525905e20026ae50cba5c512d98167a57585893e"), looks := false }, kinds := [], alts := [], laidByText := true, laidKinds := [.data, .pinned], laidTests := true, laidLooks := .later }
def DecRisesUptoCardSaid : Prop := Claim7.holds Tryd.pinned (.plain (OpenSpec.upto decRisesSpec)) decRisesUptoCard

/-- THE SECOND FORM's CARD OF 'thresherlaw03.DecShort'. -/
def decShortUptoCard : Claim7 := { stood := { row := decShortUptoRow, standIns := [], harness := (true, "121782eb1adb96599bc028a2525905e20026ae50cba5c512d98167a57585893e"), looks := false }, kinds := [], alts := [], laidByText := true, laidKinds := [.data, .pinned], laidTests := true, laidLooks := .later }
def DecShortUptoCardSaid : Prop := Claim7.holds Tryd.pinned (.plain (OpenSpec.upto decShortSpec)) decShortUptoCard

/-- THE SECOND FORM's CARD OF 'thresherlaw03.DecWhole'. -/
def decWholeUptoCard : Claim7 := { stood := { row := decWholeUptoRow, standIns := [], harness := (true, "121782eb1adb96599bc028a2525905e20026ae50cba5c512d98167a57585893e"), looks := false }, kinds := [], alts := [], laidByText := true, laidKinds := [.data, .pinned], laidTests := true, laidLooks := .later }
def DecWholeUptoCardSaid : Prop := Claim7.holds Tryd.pinned (.plain (OpenSpec.upto decWholeSpec)) decWholeUptoCard

/-- THE SECOND FORM's CARD OF 'thresherlaw03.DecBack'. -/
def decBackUptoCard : Claim7 := { stood := { row := decBackUptoRow, standIns := [], harness := (true, "121782eb1adb96599bc028a2525905e20026ae50cba5c512d98167a57585893e"), looks := false }, kinds := [], alts := [], laidByText := true, laidKinds := [.data, .pinned], laidTests := true, laidLooks := .later }
def DecBackUptoCardSaid : Prop := Claim7.holds Tryd.pinned (.plain (OpenSpec.upto decBackSpec)) decBackUptoCard

/-- THE SECOND FORM's CARD OF 'thresherlaw04.NumBack'. -/
def numBackUptoCard : Claim7 := { stood := { row := numBackUptoRow, standIns := [], harness := (true, "121782eb1adb96599bc028a2525905e20026ae50cba5c512d98167a57585893e"), looks := false }, kinds := [], alts := [], laidByText := true, laidKinds := [.data, .pinned], laidTests := true, laidLooks := .later }
def NumBackUptoCardSaid : Prop := Claim7.holds Tryd.pinned (.plain (OpenSpec.upto numBackSpec)) numBackUptoCard

/-- THE SECOND FORM's CARD OF 'thresherlaw04.NumDivides'. -/
def numDividesUptoCard : Claim7 := { stood := { row := numDividesUptoRow, standIns := [], harness := (true, "121782eb1adb96599bc028a2525905e20026ae50cba5c512d98167a57585893e"), looks := false }, kinds := [], alts := [], laidByText := true, laidKinds := [.data, .pinned], laidTests := true, laidLooks := .later }
def NumDividesUptoCardSaid : Prop := Claim7.holds Tryd.pinned (.plain (OpenSpec.upto numDividesSpec)) numDividesUptoCard

/-- THE SECOND FORM's CARD OF 'thresherlaw04.NumSigns'. -/
def numSignsUptoCard : Claim7 := { stood := { row := numSignsUptoRow, standIns := [], harness := (true, "121782eb1adb96599bc028a2525905e20026ae50cba5c512d98167a57585893e"), looks := false }, kinds := [], alts := [], laidByText := true, laidKinds := [.data, .pinned], laidTests := true, laidLooks := .later }
def NumSignsUptoCardSaid : Prop := Claim7.holds Tryd.pinned (.plain (OpenSpec.upto numSignsSpec)) numSignsUptoCard

/-- THE SECOND FORM's CARD OF 'thresherlaw04.NumPowers'. -/
def numPowersUptoCard : Claim7 := { stood := { row := numPowersUptoRow, standIns := [], harness := (true, "121782eb1adb96599bc028a2525905e20026ae50cba5c512d98167a57585893e"), looks := false }, kinds := [], alts := [], laidByText := true, laidKinds := [.data, .pinned], laidTests := true, laidLooks := .later }
def NumPowersUptoCardSaid : Prop := Claim7.holds Tryd.pinned (.plain (OpenSpec.upto numPowersSpec)) numPowersUptoCard
end Rows
end Go.Proofs.YtkpikkeblogdcaaDoor
