/-
  DERIVED. GIVEN WITH THE SEED: THE CARDS: each row of YtmhjfdnpmfhmjaaDoorRows.lean that lists a variable, with what it lists TIED to the program's text (the seventh form; the later family's looks); each row that meets fmt, with fmt's text TOLD by the authors' own Lean function (tested against real Go, not proved from fmt's source: count such statements apart). THE CARD IS WHAT COUNTS. Prove the row's statement (the work); the ties are given (YtmhjfdnpmfhmjaaDoorTie.lean); close each card by the builder's one call (the guide's Derived/Test/ToyasCard.lean, 'card_holds'). Laid BY PROGRAM, IN A SANDBOX (cutbox-door.mjs). By AI agents, Wed Nov 11 2026. No macro, syntax, notation, axiom, sorry.
-/
import Derived.Test.YtmhjfdnpmfhmjaaDoorRows
import GoSem.ClaimSeven
namespace Go.Proofs.YtmhjfdnpmfhmjaaDoor
namespace Rows

/-- THE TIED CARD OF 'thresherlaw19.SourceLoads'. -/
def sourceLoadsCard : Claim7 := { stood := { row := sourceLoadsRow, standIns := [], harness := (true, "69f98701465ba42a654ab2bce3c11c9df29ae72123ae961dba6f035f54f5ad90"), looks := true }, kinds := [], alts := [], laidByText := true, laidKinds := [.data, .pinned], laidTests := true, laidLooks := .later }
def SourceLoadsCardSaid : Prop := Claim7.holds Tryd.pinned (.plain (OpenSpec.ofChange sourceLoadsSpec)) sourceLoadsCard

/-- THE TIED CARD OF 'thresherlaw19.SourceOnce'. -/
def sourceOnceCard : Claim7 := { stood := { row := sourceOnceRow, standIns := [], harness := (true, "69f98701465ba42a654ab2bce3c11c9df29ae72123ae961dba6f035f54f5ad90"), looks := true }, kinds := [], alts := [], laidByText := true, laidKinds := [.data, .pinned], laidTests := true, laidLooks := .later }
def SourceOnceCardSaid : Prop := Claim7.holds Tryd.pinned (.plain (OpenSpec.ofChange sourceOnceSpec)) sourceOnceCard

/-- THE TIED CARD OF 'thresherlaw19.SourceLines'. -/
def sourceLinesCard : Claim7 := { stood := { row := sourceLinesRow, standIns := [], harness := (true, "69f98701465ba42a654ab2bce3c11c9df29ae72123ae961dba6f035f54f5ad90"), looks := true }, kinds := [], alts := [], laidByText := true, laidKinds := [.data, .pinned], laidTests := true, laidLooks := .later }
def SourceLinesCardSaid : Prop := Claim7.holds Tryd.pinned (.plain (OpenSpec.ofChange sourceLinesSpec)) sourceLinesCard

/-- THE TIED CARD OF 'thresherlaw19.SourcePlain'. -/
def sourcePlainCard : Claim7 := { stood := { row := sourcePlainRow, standIns := [], harness := (true, "69f98701465ba42a654ab2bce3c11c9df29ae72123ae961dba6f035f54f5ad90"), looks := true }, kinds := [], alts := [], laidByText := true, laidKinds := [.data, .pinned], laidTests := true, laidLooks := .later }
def SourcePlainCardSaid : Prop := Claim7.holds Tryd.pinned (.plain (OpenSpec.ofChange sourcePlainSpec)) sourcePlainCard

/-- THE SECOND FORM's CARD OF 'thresherlaw19.SourceLoads'. -/
def sourceLoadsUptoCard : Claim7 := { stood := { row := sourceLoadsUptoRow, standIns := [], harness := (true, "69f98701465ba42a654ab2bce3c11c9df29ae72123ae961dba6f035f54f5ad90"), looks := true }, kinds := [], alts := [], laidByText := true, laidKinds := [.data, .pinned], laidTests := true, laidLooks := .later }
def SourceLoadsUptoCardSaid : Prop := Claim7.holds Tryd.pinned (.plain (OpenSpec.upto sourceLoadsSpec)) sourceLoadsUptoCard

/-- THE SECOND FORM's CARD OF 'thresherlaw19.SourceOnce'. -/
def sourceOnceUptoCard : Claim7 := { stood := { row := sourceOnceUptoRow, standIns := [], harness := (true, "69f98701465ba42a654ab2bce3c11c9df29ae72123ae961dba6f035f54f5ad90"), looks := true }, kinds := [], alts := [], laidByText := true, laidKinds := [.data, .pinned], laidTests := true, laidLooks := .later }
def SourceOnceUptoCardSaid : Prop := Claim7.holds Tryd.pinned (.plain (OpenSpec.upto sourceOnceSpec)) sourceOnceUptoCard

/-- THE SECOND FORM's CARD OF 'thresherlaw19.SourceLines'. -/
def sourceLinesUptoCard : Claim7 := { stood := { row := sourceLinesUptoRow, standIns := [], harness := (true, "69f98701465ba42a654ab2bce3c11c9df29ae72123ae961dba6f035f54f5ad90"), looks := true }, kinds := [], alts := [], laidByText := true, laidKinds := [.data, .pinned], laidTests := true, laidLooks := .later }
def SourceLinesUptoCardSaid : Prop := Claim7.holds Tryd.pinned (.plain (OpenSpec.upto sourceLinesSpec)) sourceLinesUptoCard

/-- THE SECOND FORM's CARD OF 'thresherlaw19.SourcePlain'. -/
def sourcePlainUptoCard : Claim7 := { stood := { row := sourcePlainUptoRow, standIns := [], harness := (true, "69f98701465ba42a654ab2bce3c11c9df29ae72123ae961dba6f035f54f5ad90"), looks := true }, kinds := [], alts := [], laidByText := true, laidKinds := [.data, .pinned], laidTests := true, laidLooks := .later }
def SourcePlainUptoCardSaid : Prop := Claim7.holds Tryd.pinned (.plain (OpenSpec.upto sourcePlainSpec)) sourcePlainUptoCard
end Rows
end Go.Proofs.YtmhjfdnpmfhmjaaDoor
