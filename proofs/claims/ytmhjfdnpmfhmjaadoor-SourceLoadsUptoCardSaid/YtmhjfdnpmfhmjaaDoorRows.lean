/-
  NARROWER THAN 'FOR EVERY INPUT', by the rows' own cells (each row's printed sentence says how): SourceLoads: laid · SourceOnce: laid · SourceLines: laid · SourcePlain: laid.
  DERIVED. THE GIVEN ROWS OF THIS SEAT. 4 by the template 'for every input the law returns true; each argument reads behind the call as it read before'; 0 by the template 'total and deterministic' (their statements: YtmhjfdnpmfhmjaaDoorTotals.lean).
  GIVEN WITH THE SEED: the statements are not yours to turn. If you find one false, say at which input.
  Laid BY PROGRAM, IN A SANDBOX (cutbox-rows.mjs): the forced cells as the released guide's own fill.sh prints them over the translation b4d83f27558b3fa4… (all of the seat's roots in one cut). By AI agents, Wed Nov 11 2026. No macro, syntax, notation, axiom, sorry.
-/
import Derived.Test.YtmhjfdnpmfhmjaaDoorChecked
import GoSem.PinnedTables
import GoSem.Claim
import GoSem.ClaimJoined
import GoSem.ClaimMapViews
import Derived.JoinedTies
import Derived.KernelRfl
namespace Go.Proofs.YtmhjfdnpmfhmjaaDoor
/- THE CELL 'sum', in the pinned program and in every row, IS THE sha256 OF THE DUMP (.gsa) THAT YtmhjfdnpmfhmjaaDoorProg.lean LOADS. Nothing in Lean hashes anything: it is a label: what it is worth is what the hold of that sum in a sandbox is worth. -/
noncomputable def Tryd.pinned : Pinned := { name := "ytmhjfdnpmfhmjaadoor", sum := "b4d83f27558b3fa4d0fce0b28742887162a138bbe45cf44aa4ff618ae7e4168a", checked := Tryd.checked }
namespace Rows
def none {H : Type} : Left H := { results := [], args := [] }

/- WHAT THE LISTED PACKAGE-LEVEL VARIABLES READ AS WHEN THE CALL BEGINS. Each datum BY PROGRAM (the guide's laid-datum.mjs) off the statement by which the dump's own 'gosem.cut.vars' lays the variable. In a bare row this is a premise. The card (YtmhjfdnpmfhmjaaDoorCards.lean) ties it to the program's text. -/
def laid_unicode_utf8_acceptRanges {H : Type} : DataW H := .agg [.agg [.lit (.int .u8 128), .lit (.int .u8 191)], .agg [.lit (.int .u8 160), .lit (.int .u8 191)], .agg [.lit (.int .u8 128), .lit (.int .u8 159)], .agg [.lit (.int .u8 144), .lit (.int .u8 191)], .agg [.lit (.int .u8 128), .lit (.int .u8 143)], .agg [.lit (.int .u8 0), .lit (.int .u8 0)], .agg [.lit (.int .u8 0), .lit (.int .u8 0)], .agg [.lit (.int .u8 0), .lit (.int .u8 0)], .agg [.lit (.int .u8 0), .lit (.int .u8 0)], .agg [.lit (.int .u8 0), .lit (.int .u8 0)], .agg [.lit (.int .u8 0), .lit (.int .u8 0)], .agg [.lit (.int .u8 0), .lit (.int .u8 0)], .agg [.lit (.int .u8 0), .lit (.int .u8 0)], .agg [.lit (.int .u8 0), .lit (.int .u8 0)], .agg [.lit (.int .u8 0), .lit (.int .u8 0)], .agg [.lit (.int .u8 0), .lit (.int .u8 0)]]
/-- One of Go's own tables, pinned by name: the form's constant. -/
def laid_unicode_utf8_first : DataW Unit := Go.Pinned.utf8First

/-- 'thresherlaw19.SourceLoads': WHATEVER THE INPUT: true; the input reads as it did. -/
def sourceLoadsSpec : ChangeSpec := { name := "sourceLoads", fn := fun _ => fun
  | [d1, d2] => { results := [.lit (.bool true)], args := [d1, d2] }
  | _ => none }
def sourceLoadsRow : OpenClaim := { program := "ytmhjfdnpmfhmjaadoor", sum := "b4d83f27558b3fa4d0fce0b28742887162a138bbe45cf44aa4ff618ae7e4168a", func := "thresher/thresherlaw19.SourceLoads", spec := "sourceLoads", inPlace := ["internal/bytealg.CountString", "internal/bytealg.IndexByteString", "internal/bytealg.IndexString", "internal/abi.NoEscape", "internal/bytealg.MakeNoZero"], unfollowed := true, recurses := true, named := ["unicode/utf8.first", "unicode/utf8.acceptRanges", "internal/bytealg.MaxLen"], apart := false, laid := [("unicode/utf8.acceptRanges", laid_unicode_utf8_acceptRanges), ("unicode/utf8.first", laid_unicode_utf8_first)] }
def SourceLoadsSaid : Prop := sourceLoadsRow.holds Tryd.pinned (OpenSpec.ofChange sourceLoadsSpec)

/-- ITS FALSE NEIGHBOUR: 'it returns false'. Refute it at one input. -/
def sourceLoadsWrong : ChangeSpec := { name := "sourceLoads", fn := fun _ => fun
  | [d1, d2] => { results := [.lit (.bool false)], args := [d1, d2] }
  | _ => none }
def SourceLoadsWrongFalsely : Prop := sourceLoadsRow.holds Tryd.pinned (OpenSpec.ofChange sourceLoadsWrong)

/-- 'thresherlaw19.SourceOnce': WHATEVER THE INPUT: true; the input reads as it did. -/
def sourceOnceSpec : ChangeSpec := { name := "sourceOnce", fn := fun _ => fun
  | [d1, d2, d3] => { results := [.lit (.bool true)], args := [d1, d2, d3] }
  | _ => none }
def sourceOnceRow : OpenClaim := { program := "ytmhjfdnpmfhmjaadoor", sum := "b4d83f27558b3fa4d0fce0b28742887162a138bbe45cf44aa4ff618ae7e4168a", func := "thresher/thresherlaw19.SourceOnce", spec := "sourceOnce", inPlace := ["internal/bytealg.CountString", "internal/bytealg.IndexByteString", "internal/bytealg.IndexString", "internal/abi.NoEscape", "internal/bytealg.MakeNoZero"], unfollowed := true, recurses := true, named := ["unicode/utf8.first", "unicode/utf8.acceptRanges", "internal/bytealg.MaxLen"], apart := false, laid := [("unicode/utf8.acceptRanges", laid_unicode_utf8_acceptRanges), ("unicode/utf8.first", laid_unicode_utf8_first)] }
def SourceOnceSaid : Prop := sourceOnceRow.holds Tryd.pinned (OpenSpec.ofChange sourceOnceSpec)

/-- ITS FALSE NEIGHBOUR: 'it returns false'. Refute it at one input. -/
def sourceOnceWrong : ChangeSpec := { name := "sourceOnce", fn := fun _ => fun
  | [d1, d2, d3] => { results := [.lit (.bool false)], args := [d1, d2, d3] }
  | _ => none }
def SourceOnceWrongFalsely : Prop := sourceOnceRow.holds Tryd.pinned (OpenSpec.ofChange sourceOnceWrong)

/-- 'thresherlaw19.SourceLines': WHATEVER THE INPUT: true; the input reads as it did. -/
def sourceLinesSpec : ChangeSpec := { name := "sourceLines", fn := fun _ => fun
  | [d1, d2] => { results := [.lit (.bool true)], args := [d1, d2] }
  | _ => none }
def sourceLinesRow : OpenClaim := { program := "ytmhjfdnpmfhmjaadoor", sum := "b4d83f27558b3fa4d0fce0b28742887162a138bbe45cf44aa4ff618ae7e4168a", func := "thresher/thresherlaw19.SourceLines", spec := "sourceLines", inPlace := ["internal/bytealg.CountString", "internal/bytealg.IndexByteString", "internal/bytealg.IndexString", "internal/abi.NoEscape", "internal/bytealg.MakeNoZero"], unfollowed := true, recurses := true, named := ["unicode/utf8.first", "unicode/utf8.acceptRanges", "internal/bytealg.MaxLen"], apart := false, laid := [("unicode/utf8.acceptRanges", laid_unicode_utf8_acceptRanges), ("unicode/utf8.first", laid_unicode_utf8_first)] }
def SourceLinesSaid : Prop := sourceLinesRow.holds Tryd.pinned (OpenSpec.ofChange sourceLinesSpec)

/-- ITS FALSE NEIGHBOUR: 'it returns false'. Refute it at one input. -/
def sourceLinesWrong : ChangeSpec := { name := "sourceLines", fn := fun _ => fun
  | [d1, d2] => { results := [.lit (.bool false)], args := [d1, d2] }
  | _ => none }
def SourceLinesWrongFalsely : Prop := sourceLinesRow.holds Tryd.pinned (OpenSpec.ofChange sourceLinesWrong)

/-- 'thresherlaw19.SourcePlain': WHATEVER THE INPUT: true; the input reads as it did. -/
def sourcePlainSpec : ChangeSpec := { name := "sourcePlain", fn := fun _ => fun
  | [d1, d2] => { results := [.lit (.bool true)], args := [d1, d2] }
  | _ => none }
def sourcePlainRow : OpenClaim := { program := "ytmhjfdnpmfhmjaadoor", sum := "b4d83f27558b3fa4d0fce0b28742887162a138bbe45cf44aa4ff618ae7e4168a", func := "thresher/thresherlaw19.SourcePlain", spec := "sourcePlain", inPlace := ["internal/bytealg.CountString", "internal/bytealg.IndexByteString", "internal/bytealg.IndexString", "internal/abi.NoEscape", "internal/bytealg.MakeNoZero"], unfollowed := true, recurses := true, named := ["unicode/utf8.first", "unicode/utf8.acceptRanges", "internal/bytealg.MaxLen"], apart := false, laid := [("unicode/utf8.acceptRanges", laid_unicode_utf8_acceptRanges), ("unicode/utf8.first", laid_unicode_utf8_first)] }
def SourcePlainSaid : Prop := sourcePlainRow.holds Tryd.pinned (OpenSpec.ofChange sourcePlainSpec)

/-- ITS FALSE NEIGHBOUR: 'it returns false'. Refute it at one input. -/
def sourcePlainWrong : ChangeSpec := { name := "sourcePlain", fn := fun _ => fun
  | [d1, d2] => { results := [.lit (.bool false)], args := [d1, d2] }
  | _ => none }
def SourcePlainWrongFalsely : Prop := sourcePlainRow.holds Tryd.pinned (OpenSpec.ofChange sourcePlainWrong)

/- THE SECOND FORM. 'bulk': how many values and letters a reading holds, each counted each time it is reached (what is shared counts as often as it is met; a slice's spare places count too). A statement '..UptoSaid' is the law's where the arguments, and the package variables that the reading takes, are together of bulk at most 1048576: NARROWER than '..Said'. Prove '..Said' where nothing that the law and all that it calls make is longer than what came in: it says more and counts as full. Else prove '..UptoSaid'. A law counts once. -/
mutual
def uptoBulk {H : Type} : DataW H → Nat
  | .lit (.string bytes) => bytes.length + 1
  | .lit _ => 1
  | .nil => 1
  | .ptr d => uptoBulk d + 1
  | .slice elems spare => uptoBulkAll elems + uptoBulkAll spare + 1
  | .agg parts => uptoBulkAll parts + 1
  | .iface _ d => uptoBulk d + 1
  | .map entries => uptoBulkEntries entries + 1
  | .held _ => 1
def uptoBulkAll {H : Type} : List (DataW H) → Nat
  | [] => 0
  | d :: r => uptoBulk d + uptoBulkAll r
def uptoBulkEntries {H : Type} : List (Lit × DataW H) → Nat
  | [] => 0
  | x :: r => uptoBulkEntry x + uptoBulkEntries r
def uptoBulkEntry {H : Type} : Lit × DataW H → Nat
  | (.string bytes, d) => bytes.length + uptoBulk d + 1
  | (_, d) => uptoBulk d + 1
 end
def uptoSmall : (H : Type) → List (DataW H) → Bool := fun _ ds => decide (uptoBulkAll ds ≤ 1048576)
def OpenSpec.upto (s : _root_.Go.ChangeSpec) : _root_.Go.OpenSpec := { _root_.Go.OpenSpec.ofChange s with cond := some uptoSmall }

/-- 'thresherlaw19.SourceLoads', WHERE WHAT IT READS IS OF BULK AT MOST 1048576: true; the input reads as it did. -/
def sourceLoadsUptoRow : OpenClaim := { program := "ytmhjfdnpmfhmjaadoor", sum := "b4d83f27558b3fa4d0fce0b28742887162a138bbe45cf44aa4ff618ae7e4168a", func := "thresher/thresherlaw19.SourceLoads", spec := "sourceLoads", inPlace := ["internal/bytealg.CountString", "internal/bytealg.IndexByteString", "internal/bytealg.IndexString", "internal/abi.NoEscape", "internal/bytealg.MakeNoZero"], unfollowed := true, recurses := true, named := ["unicode/utf8.first", "unicode/utf8.acceptRanges", "internal/bytealg.MaxLen"], apart := false, laid := [("unicode/utf8.acceptRanges", laid_unicode_utf8_acceptRanges), ("unicode/utf8.first", laid_unicode_utf8_first)], narrowed := true }
def SourceLoadsUptoSaid : Prop := sourceLoadsUptoRow.holds Tryd.pinned (OpenSpec.upto sourceLoadsSpec)

/-- 'thresherlaw19.SourceOnce', WHERE WHAT IT READS IS OF BULK AT MOST 1048576: true; the input reads as it did. -/
def sourceOnceUptoRow : OpenClaim := { program := "ytmhjfdnpmfhmjaadoor", sum := "b4d83f27558b3fa4d0fce0b28742887162a138bbe45cf44aa4ff618ae7e4168a", func := "thresher/thresherlaw19.SourceOnce", spec := "sourceOnce", inPlace := ["internal/bytealg.CountString", "internal/bytealg.IndexByteString", "internal/bytealg.IndexString", "internal/abi.NoEscape", "internal/bytealg.MakeNoZero"], unfollowed := true, recurses := true, named := ["unicode/utf8.first", "unicode/utf8.acceptRanges", "internal/bytealg.MaxLen"], apart := false, laid := [("unicode/utf8.acceptRanges", laid_unicode_utf8_acceptRanges), ("unicode/utf8.first", laid_unicode_utf8_first)], narrowed := true }
def SourceOnceUptoSaid : Prop := sourceOnceUptoRow.holds Tryd.pinned (OpenSpec.upto sourceOnceSpec)

/-- 'thresherlaw19.SourceLines', WHERE WHAT IT READS IS OF BULK AT MOST 1048576: true; the input reads as it did. -/
def sourceLinesUptoRow : OpenClaim := { program := "ytmhjfdnpmfhmjaadoor", sum := "b4d83f27558b3fa4d0fce0b28742887162a138bbe45cf44aa4ff618ae7e4168a", func := "thresher/thresherlaw19.SourceLines", spec := "sourceLines", inPlace := ["internal/bytealg.CountString", "internal/bytealg.IndexByteString", "internal/bytealg.IndexString", "internal/abi.NoEscape", "internal/bytealg.MakeNoZero"], unfollowed := true, recurses := true, named := ["unicode/utf8.first", "unicode/utf8.acceptRanges", "internal/bytealg.MaxLen"], apart := false, laid := [("unicode/utf8.acceptRanges", laid_unicode_utf8_acceptRanges), ("unicode/utf8.first", laid_unicode_utf8_first)], narrowed := true }
def SourceLinesUptoSaid : Prop := sourceLinesUptoRow.holds Tryd.pinned (OpenSpec.upto sourceLinesSpec)

/-- 'thresherlaw19.SourcePlain', WHERE WHAT IT READS IS OF BULK AT MOST 1048576: true; the input reads as it did. -/
def sourcePlainUptoRow : OpenClaim := { program := "ytmhjfdnpmfhmjaadoor", sum := "b4d83f27558b3fa4d0fce0b28742887162a138bbe45cf44aa4ff618ae7e4168a", func := "thresher/thresherlaw19.SourcePlain", spec := "sourcePlain", inPlace := ["internal/bytealg.CountString", "internal/bytealg.IndexByteString", "internal/bytealg.IndexString", "internal/abi.NoEscape", "internal/bytealg.MakeNoZero"], unfollowed := true, recurses := true, named := ["unicode/utf8.first", "unicode/utf8.acceptRanges", "internal/bytealg.MaxLen"], apart := false, laid := [("unicode/utf8.acceptRanges", laid_unicode_utf8_acceptRanges), ("unicode/utf8.first", laid_unicode_utf8_first)], narrowed := true }
def SourcePlainUptoSaid : Prop := sourcePlainUptoRow.holds Tryd.pinned (OpenSpec.upto sourcePlainSpec)

end Rows
end Go.Proofs.YtmhjfdnpmfhmjaaDoor
