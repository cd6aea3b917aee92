/-
  NARROWER THAN 'FOR EVERY INPUT', by the rows' own cells (each row's printed sentence says how): FormatParses: laid · FormatTexts: laid · FormatWide: laid · FormatWhole: laid · FormatBack: laid · CellNames: laid · CellCompares: laid · CellOrders: laid · CellTexts: laid · CellInput: laid.
  DERIVED. THE GIVEN ROWS OF THIS SEAT. 10 by the template 'for every input the law returns true; each argument reads behind the call as it read before'; 0 by the template 'total and deterministic' (their statements: YtjldeckcfdeklaaGreatDoorTotals.lean).
  GIVEN WITH THE SEED: the statements are not yours to turn. If you find one false, say at which input.
  Laid BY PROGRAM, IN A SANDBOX (cutbox-rows.mjs): the forced cells as the released guide's own fill.sh prints them over the translation 9790701b57e104a7… (all of the seat's roots in one cut). By AI agents, Wed Nov 11 2026. No macro, syntax, notation, axiom, sorry.
-/
import Derived.Test.YtjldeckcfdeklaaGreatDoorChecked
import GoSem.PinnedTables
import GoSem.Claim
import GoSem.ClaimJoined
import GoSem.ClaimMapViews
import Derived.JoinedTies
import Derived.KernelRfl
namespace Go.Proofs.YtjldeckcfdeklaaGreatDoor
/- THE CELL 'sum', in the pinned program and in every row, IS THE sha256 OF THE DUMP (.gsa) THAT YtjldeckcfdeklaaGreatDoorProg.lean LOADS. Nothing in Lean hashes anything: it is a label: what it is worth is what the hold of that sum in a sandbox is worth. -/
noncomputable def Tryz.pinned : Pinned := { name := "ytjldeckcfdeklaagreatdoor", sum := "9790701b57e104a7a3d31a0f4fa419fa5cbc6510c1132b0dae5ed56a13f1f28c", checked := Tryz.checked }
namespace Rows
def none {H : Type} : Left H := { results := [], args := [] }

/- WHAT THE LISTED PACKAGE-LEVEL VARIABLES READ AS WHEN THE CALL BEGINS. Each datum BY PROGRAM (the guide's laid-datum.mjs) off the statement by which the dump's own 'gosem.cut.vars' lays the variable. In a bare row this is a premise. The card (YtjldeckcfdeklaaGreatDoorCards.lean) ties it to the program's text. -/
def laid_math_bits_deBruijn32tab {H : Type} : DataW H := .agg [.lit (.int .u8 0), .lit (.int .u8 1), .lit (.int .u8 28), .lit (.int .u8 2), .lit (.int .u8 29), .lit (.int .u8 14), .lit (.int .u8 24), .lit (.int .u8 3), .lit (.int .u8 30), .lit (.int .u8 22), .lit (.int .u8 20), .lit (.int .u8 15), .lit (.int .u8 25), .lit (.int .u8 17), .lit (.int .u8 4), .lit (.int .u8 8), .lit (.int .u8 31), .lit (.int .u8 27), .lit (.int .u8 13), .lit (.int .u8 23), .lit (.int .u8 21), .lit (.int .u8 19), .lit (.int .u8 16), .lit (.int .u8 7), .lit (.int .u8 26), .lit (.int .u8 12), .lit (.int .u8 18), .lit (.int .u8 6), .lit (.int .u8 11), .lit (.int .u8 5), .lit (.int .u8 10), .lit (.int .u8 9)]
def laid_math_bits_deBruijn64tab {H : Type} : DataW H := .agg [.lit (.int .u8 0), .lit (.int .u8 1), .lit (.int .u8 56), .lit (.int .u8 2), .lit (.int .u8 57), .lit (.int .u8 49), .lit (.int .u8 28), .lit (.int .u8 3), .lit (.int .u8 61), .lit (.int .u8 58), .lit (.int .u8 42), .lit (.int .u8 50), .lit (.int .u8 38), .lit (.int .u8 29), .lit (.int .u8 17), .lit (.int .u8 4), .lit (.int .u8 62), .lit (.int .u8 47), .lit (.int .u8 59), .lit (.int .u8 36), .lit (.int .u8 45), .lit (.int .u8 43), .lit (.int .u8 51), .lit (.int .u8 22), .lit (.int .u8 53), .lit (.int .u8 39), .lit (.int .u8 33), .lit (.int .u8 30), .lit (.int .u8 24), .lit (.int .u8 18), .lit (.int .u8 12), .lit (.int .u8 5), .lit (.int .u8 63), .lit (.int .u8 55), .lit (.int .u8 48), .lit (.int .u8 27), .lit (.int .u8 60), .lit (.int .u8 41), .lit (.int .u8 37), .lit (.int .u8 16), .lit (.int .u8 46), .lit (.int .u8 35), .lit (.int .u8 44), .lit (.int .u8 21), .lit (.int .u8 52), .lit (.int .u8 32), .lit (.int .u8 23), .lit (.int .u8 11), .lit (.int .u8 54), .lit (.int .u8 26), .lit (.int .u8 40), .lit (.int .u8 15), .lit (.int .u8 34), .lit (.int .u8 20), .lit (.int .u8 31), .lit (.int .u8 10), .lit (.int .u8 25), .lit (.int .u8 14), .lit (.int .u8 19), .lit (.int .u8 9), .lit (.int .u8 13), .lit (.int .u8 8), .lit (.int .u8 7), .lit (.int .u8 6)]
def laid_internal_strconv_uint64pow10 {H : Type} : DataW H := .agg [.lit (.int .u64 1), .lit (.int .u64 10), .lit (.int .u64 100), .lit (.int .u64 1000), .lit (.int .u64 10000), .lit (.int .u64 100000), .lit (.int .u64 1000000), .lit (.int .u64 10000000), .lit (.int .u64 100000000), .lit (.int .u64 1000000000), .lit (.int .u64 10000000000), .lit (.int .u64 100000000000), .lit (.int .u64 1000000000000), .lit (.int .u64 10000000000000), .lit (.int .u64 100000000000000), .lit (.int .u64 1000000000000000), .lit (.int .u64 10000000000000000), .lit (.int .u64 100000000000000000), .lit (.int .u64 1000000000000000000), .lit (.int .u64 10000000000000000000)]
def laid_unicode_utf8_acceptRanges {H : Type} : DataW H := .agg [.agg [.lit (.int .u8 128), .lit (.int .u8 191)], .agg [.lit (.int .u8 160), .lit (.int .u8 191)], .agg [.lit (.int .u8 128), .lit (.int .u8 159)], .agg [.lit (.int .u8 144), .lit (.int .u8 191)], .agg [.lit (.int .u8 128), .lit (.int .u8 143)], .agg [.lit (.int .u8 0), .lit (.int .u8 0)], .agg [.lit (.int .u8 0), .lit (.int .u8 0)], .agg [.lit (.int .u8 0), .lit (.int .u8 0)], .agg [.lit (.int .u8 0), .lit (.int .u8 0)], .agg [.lit (.int .u8 0), .lit (.int .u8 0)], .agg [.lit (.int .u8 0), .lit (.int .u8 0)], .agg [.lit (.int .u8 0), .lit (.int .u8 0)], .agg [.lit (.int .u8 0), .lit (.int .u8 0)], .agg [.lit (.int .u8 0), .lit (.int .u8 0)], .agg [.lit (.int .u8 0), .lit (.int .u8 0)], .agg [.lit (.int .u8 0), .lit (.int .u8 0)]]
def laid_strconv_ErrRange {H : Type} : DataW H := .iface "*errors.errorString" (.ptr (.agg [.lit (.string [118, 97, 108, 117, 101, 32, 111, 117, 116, 32, 111, 102, 32, 114, 97, 110, 103, 101])]))
def laid_strconv_ErrSyntax {H : Type} : DataW H := .iface "*errors.errorString" (.ptr (.agg [.lit (.string [105, 110, 118, 97, 108, 105, 100, 32, 115, 121, 110, 116, 97, 120])]))
/-- One of Go's own tables, pinned by name: the form's constant. -/
def laid_unicode_CaseRanges : DataW Unit := Go.Pinned.caseRanges
/-- One of Go's own tables, pinned by name: the form's constant. -/
def laid_unicode_utf8_first : DataW Unit := Go.Pinned.utf8First

/-- 'thresherlaw05.FormatParses': WHATEVER THE INPUT: true; the input reads as it did. -/
def formatParsesSpec : ChangeSpec := { name := "formatParses", fn := fun _ => fun
  | [d1, d2] => { results := [.lit (.bool true)], args := [d1, d2] }
  | _ => none }
def formatParsesRow : OpenClaim := { program := "ytjldeckcfdeklaagreatdoor", sum := "9790701b57e104a7a3d31a0f4fa419fa5cbc6510c1132b0dae5ed56a13f1f28c", func := "thresher/thresherlaw05.FormatParses", spec := "formatParses", inPlace := ["internal/bytealg.IndexByteString", "math.Float64bits", "internal/abi.NoEscape", "internal/bytealg.MakeNoZero", "math.Float64frombits", "internal/bytealg.IndexString"], unfollowed := true, recurses := true, named := ["strconv.ErrSyntax", "strconv.ErrRange", "internal/strconv.uint64pow10", "math/bits.deBruijn32tab", "math/bits.deBruijn64tab", "math/bits.overflowError", "unicode/utf8.first", "unicode/utf8.acceptRanges", "unicode.CaseRanges", "internal/bytealg.MaxLen"], apart := false, laid := [("math/bits.deBruijn32tab", laid_math_bits_deBruijn32tab), ("math/bits.deBruijn64tab", laid_math_bits_deBruijn64tab), ("internal/strconv.uint64pow10", laid_internal_strconv_uint64pow10), ("unicode/utf8.acceptRanges", laid_unicode_utf8_acceptRanges), ("strconv.ErrRange", laid_strconv_ErrRange), ("strconv.ErrSyntax", laid_strconv_ErrSyntax), ("unicode.CaseRanges", laid_unicode_CaseRanges), ("unicode/utf8.first", laid_unicode_utf8_first)] }
def FormatParsesSaid : Prop := formatParsesRow.holds Tryz.pinned (OpenSpec.ofChange formatParsesSpec)

/-- ITS FALSE NEIGHBOUR: 'it returns false'. Refute it at one input. -/
def formatParsesWrong : ChangeSpec := { name := "formatParses", fn := fun _ => fun
  | [d1, d2] => { results := [.lit (.bool false)], args := [d1, d2] }
  | _ => none }
def FormatParsesWrongFalsely : Prop := formatParsesRow.holds Tryz.pinned (OpenSpec.ofChange formatParsesWrong)

/-- 'thresherlaw05.FormatTexts': WHATEVER THE INPUT: true; the input reads as it did. -/
def formatTextsSpec : ChangeSpec := { name := "formatTexts", fn := fun _ => fun
  | [d1, d2, d3] => { results := [.lit (.bool true)], args := [d1, d2, d3] }
  | _ => none }
def formatTextsRow : OpenClaim := { program := "ytjldeckcfdeklaagreatdoor", sum := "9790701b57e104a7a3d31a0f4fa419fa5cbc6510c1132b0dae5ed56a13f1f28c", func := "thresher/thresherlaw05.FormatTexts", spec := "formatTexts", inPlace := ["internal/bytealg.IndexByteString", "math.Float64bits", "internal/abi.NoEscape", "internal/bytealg.MakeNoZero", "math.Float64frombits", "internal/bytealg.IndexString"], unfollowed := true, recurses := true, named := ["strconv.ErrSyntax", "strconv.ErrRange", "internal/strconv.uint64pow10", "math/bits.deBruijn32tab", "math/bits.deBruijn64tab", "math/bits.overflowError", "unicode/utf8.first", "unicode/utf8.acceptRanges", "unicode.CaseRanges", "internal/bytealg.MaxLen"], apart := false, laid := [("math/bits.deBruijn32tab", laid_math_bits_deBruijn32tab), ("math/bits.deBruijn64tab", laid_math_bits_deBruijn64tab), ("internal/strconv.uint64pow10", laid_internal_strconv_uint64pow10), ("unicode/utf8.acceptRanges", laid_unicode_utf8_acceptRanges), ("strconv.ErrRange", laid_strconv_ErrRange), ("strconv.ErrSyntax", laid_strconv_ErrSyntax), ("unicode.CaseRanges", laid_unicode_CaseRanges), ("unicode/utf8.first", laid_unicode_utf8_first)] }
def FormatTextsSaid : Prop := formatTextsRow.holds Tryz.pinned (OpenSpec.ofChange formatTextsSpec)

/-- ITS FALSE NEIGHBOUR: 'it returns false'. Refute it at one input. -/
def formatTextsWrong : ChangeSpec := { name := "formatTexts", fn := fun _ => fun
  | [d1, d2, d3] => { results := [.lit (.bool false)], args := [d1, d2, d3] }
  | _ => none }
def FormatTextsWrongFalsely : Prop := formatTextsRow.holds Tryz.pinned (OpenSpec.ofChange formatTextsWrong)

/-- 'thresherlaw05.FormatWide': WHATEVER THE INPUT: true; the input reads as it did. -/
def formatWideSpec : ChangeSpec := { name := "formatWide", fn := fun _ => fun
  | [d1, d2] => { results := [.lit (.bool true)], args := [d1, d2] }
  | _ => none }
def formatWideRow : OpenClaim := { program := "ytjldeckcfdeklaagreatdoor", sum := "9790701b57e104a7a3d31a0f4fa419fa5cbc6510c1132b0dae5ed56a13f1f28c", func := "thresher/thresherlaw05.FormatWide", spec := "formatWide", inPlace := ["internal/bytealg.IndexByteString", "math.Float64bits", "internal/abi.NoEscape", "internal/bytealg.MakeNoZero", "math.Float64frombits", "internal/bytealg.IndexString"], unfollowed := true, recurses := true, named := ["strconv.ErrSyntax", "strconv.ErrRange", "internal/strconv.uint64pow10", "math/bits.deBruijn32tab", "math/bits.deBruijn64tab", "math/bits.overflowError", "unicode/utf8.first", "unicode/utf8.acceptRanges", "unicode.CaseRanges", "internal/bytealg.MaxLen"], apart := false, laid := [("math/bits.deBruijn32tab", laid_math_bits_deBruijn32tab), ("math/bits.deBruijn64tab", laid_math_bits_deBruijn64tab), ("internal/strconv.uint64pow10", laid_internal_strconv_uint64pow10), ("unicode/utf8.acceptRanges", laid_unicode_utf8_acceptRanges), ("strconv.ErrRange", laid_strconv_ErrRange), ("strconv.ErrSyntax", laid_strconv_ErrSyntax), ("unicode.CaseRanges", laid_unicode_CaseRanges), ("unicode/utf8.first", laid_unicode_utf8_first)] }
def FormatWideSaid : Prop := formatWideRow.holds Tryz.pinned (OpenSpec.ofChange formatWideSpec)

/-- ITS FALSE NEIGHBOUR: 'it returns false'. Refute it at one input. -/
def formatWideWrong : ChangeSpec := { name := "formatWide", fn := fun _ => fun
  | [d1, d2] => { results := [.lit (.bool false)], args := [d1, d2] }
  | _ => none }
def FormatWideWrongFalsely : Prop := formatWideRow.holds Tryz.pinned (OpenSpec.ofChange formatWideWrong)

/-- 'thresherlaw05.FormatWhole': WHATEVER THE INPUT: true; the input reads as it did. -/
def formatWholeSpec : ChangeSpec := { name := "formatWhole", fn := fun _ => fun
  | [d1, d2] => { results := [.lit (.bool true)], args := [d1, d2] }
  | _ => none }
def formatWholeRow : OpenClaim := { program := "ytjldeckcfdeklaagreatdoor", sum := "9790701b57e104a7a3d31a0f4fa419fa5cbc6510c1132b0dae5ed56a13f1f28c", func := "thresher/thresherlaw05.FormatWhole", spec := "formatWhole", inPlace := ["internal/bytealg.IndexByteString", "math.Float64bits", "internal/abi.NoEscape", "internal/bytealg.MakeNoZero", "math.Float64frombits", "internal/bytealg.IndexString"], unfollowed := true, recurses := true, named := ["strconv.ErrSyntax", "strconv.ErrRange", "internal/strconv.uint64pow10", "math/bits.deBruijn32tab", "math/bits.deBruijn64tab", "math/bits.overflowError", "unicode/utf8.first", "unicode/utf8.acceptRanges", "unicode.CaseRanges", "internal/bytealg.MaxLen"], apart := false, laid := [("math/bits.deBruijn32tab", laid_math_bits_deBruijn32tab), ("math/bits.deBruijn64tab", laid_math_bits_deBruijn64tab), ("internal/strconv.uint64pow10", laid_internal_strconv_uint64pow10), ("unicode/utf8.acceptRanges", laid_unicode_utf8_acceptRanges), ("strconv.ErrRange", laid_strconv_ErrRange), ("strconv.ErrSyntax", laid_strconv_ErrSyntax), ("unicode.CaseRanges", laid_unicode_CaseRanges), ("unicode/utf8.first", laid_unicode_utf8_first)] }
def FormatWholeSaid : Prop := formatWholeRow.holds Tryz.pinned (OpenSpec.ofChange formatWholeSpec)

/-- ITS FALSE NEIGHBOUR: 'it returns false'. Refute it at one input. -/
def formatWholeWrong : ChangeSpec := { name := "formatWhole", fn := fun _ => fun
  | [d1, d2] => { results := [.lit (.bool false)], args := [d1, d2] }
  | _ => none }
def FormatWholeWrongFalsely : Prop := formatWholeRow.holds Tryz.pinned (OpenSpec.ofChange formatWholeWrong)

/-- 'thresherlaw05.FormatBack': WHATEVER THE INPUT: true; the input reads as it did. -/
def formatBackSpec : ChangeSpec := { name := "formatBack", fn := fun _ => fun
  | [d1, d2] => { results := [.lit (.bool true)], args := [d1, d2] }
  | _ => none }
def formatBackRow : OpenClaim := { program := "ytjldeckcfdeklaagreatdoor", sum := "9790701b57e104a7a3d31a0f4fa419fa5cbc6510c1132b0dae5ed56a13f1f28c", func := "thresher/thresherlaw05.FormatBack", spec := "formatBack", inPlace := ["internal/bytealg.IndexByteString", "math.Float64bits", "internal/abi.NoEscape", "internal/bytealg.MakeNoZero", "math.Float64frombits", "internal/bytealg.IndexString"], unfollowed := true, recurses := true, named := ["strconv.ErrSyntax", "strconv.ErrRange", "internal/strconv.uint64pow10", "math/bits.deBruijn32tab", "math/bits.deBruijn64tab", "math/bits.overflowError", "unicode/utf8.first", "unicode/utf8.acceptRanges", "unicode.CaseRanges", "internal/bytealg.MaxLen"], apart := false, laid := [("math/bits.deBruijn32tab", laid_math_bits_deBruijn32tab), ("math/bits.deBruijn64tab", laid_math_bits_deBruijn64tab), ("internal/strconv.uint64pow10", laid_internal_strconv_uint64pow10), ("unicode/utf8.acceptRanges", laid_unicode_utf8_acceptRanges), ("strconv.ErrRange", laid_strconv_ErrRange), ("strconv.ErrSyntax", laid_strconv_ErrSyntax), ("unicode.CaseRanges", laid_unicode_CaseRanges), ("unicode/utf8.first", laid_unicode_utf8_first)] }
def FormatBackSaid : Prop := formatBackRow.holds Tryz.pinned (OpenSpec.ofChange formatBackSpec)

/-- ITS FALSE NEIGHBOUR: 'it returns false'. Refute it at one input. -/
def formatBackWrong : ChangeSpec := { name := "formatBack", fn := fun _ => fun
  | [d1, d2] => { results := [.lit (.bool false)], args := [d1, d2] }
  | _ => none }
def FormatBackWrongFalsely : Prop := formatBackRow.holds Tryz.pinned (OpenSpec.ofChange formatBackWrong)

/-- 'thresherlaw06.CellNames': WHATEVER THE INPUT: true; the input reads as it did. -/
def cellNamesSpec : ChangeSpec := { name := "cellNames", fn := fun _ => fun
  | [] => { results := [.lit (.bool true)], args := [] }
  | _ => none }
def cellNamesRow : OpenClaim := { program := "ytjldeckcfdeklaagreatdoor", sum := "9790701b57e104a7a3d31a0f4fa419fa5cbc6510c1132b0dae5ed56a13f1f28c", func := "thresher/thresherlaw06.CellNames", spec := "cellNames", inPlace := ["internal/bytealg.IndexByteString", "internal/bytealg.IndexString", "math.Float64frombits", "math.Float64bits", "internal/abi.NoEscape", "internal/bytealg.MakeNoZero", "internal/bytealg.abigen_runtime_cmpstring"], unfollowed := true, recurses := true, named := ["unicode/utf8.first", "unicode/utf8.acceptRanges", "math/bits.overflowError", "strconv.ErrSyntax", "strconv.ErrRange", "internal/strconv.uint64pow10", "math/bits.deBruijn32tab", "math/bits.deBruijn64tab", "unicode.CaseRanges", "internal/bytealg.MaxLen"], apart := false, laid := [("math/bits.deBruijn32tab", laid_math_bits_deBruijn32tab), ("math/bits.deBruijn64tab", laid_math_bits_deBruijn64tab), ("internal/strconv.uint64pow10", laid_internal_strconv_uint64pow10), ("unicode/utf8.acceptRanges", laid_unicode_utf8_acceptRanges), ("strconv.ErrRange", laid_strconv_ErrRange), ("strconv.ErrSyntax", laid_strconv_ErrSyntax), ("unicode.CaseRanges", laid_unicode_CaseRanges), ("unicode/utf8.first", laid_unicode_utf8_first)] }
def CellNamesSaid : Prop := cellNamesRow.holds Tryz.pinned (OpenSpec.ofChange cellNamesSpec)

/-- ITS FALSE NEIGHBOUR: 'it returns false'. Refute it at one input. -/
def cellNamesWrong : ChangeSpec := { name := "cellNames", fn := fun _ => fun
  | [] => { results := [.lit (.bool false)], args := [] }
  | _ => none }
def CellNamesWrongFalsely : Prop := cellNamesRow.holds Tryz.pinned (OpenSpec.ofChange cellNamesWrong)

/-- 'thresherlaw06.CellCompares': WHATEVER THE INPUT: true; the input reads as it did. -/
def cellComparesSpec : ChangeSpec := { name := "cellCompares", fn := fun _ => fun
  | [d1, d2, d3] => { results := [.lit (.bool true)], args := [d1, d2, d3] }
  | _ => none }
def cellComparesRow : OpenClaim := { program := "ytjldeckcfdeklaagreatdoor", sum := "9790701b57e104a7a3d31a0f4fa419fa5cbc6510c1132b0dae5ed56a13f1f28c", func := "thresher/thresherlaw06.CellCompares", spec := "cellCompares", inPlace := ["internal/bytealg.IndexByteString", "internal/bytealg.IndexString", "math.Float64frombits", "math.Float64bits", "internal/abi.NoEscape", "internal/bytealg.MakeNoZero", "internal/bytealg.abigen_runtime_cmpstring"], unfollowed := true, recurses := true, named := ["unicode/utf8.first", "unicode/utf8.acceptRanges", "math/bits.overflowError", "strconv.ErrSyntax", "strconv.ErrRange", "internal/strconv.uint64pow10", "math/bits.deBruijn32tab", "math/bits.deBruijn64tab", "unicode.CaseRanges", "internal/bytealg.MaxLen"], apart := false, laid := [("math/bits.deBruijn32tab", laid_math_bits_deBruijn32tab), ("math/bits.deBruijn64tab", laid_math_bits_deBruijn64tab), ("internal/strconv.uint64pow10", laid_internal_strconv_uint64pow10), ("unicode/utf8.acceptRanges", laid_unicode_utf8_acceptRanges), ("strconv.ErrRange", laid_strconv_ErrRange), ("strconv.ErrSyntax", laid_strconv_ErrSyntax), ("unicode.CaseRanges", laid_unicode_CaseRanges), ("unicode/utf8.first", laid_unicode_utf8_first)] }
def CellComparesSaid : Prop := cellComparesRow.holds Tryz.pinned (OpenSpec.ofChange cellComparesSpec)

/-- ITS FALSE NEIGHBOUR: 'it returns false'. Refute it at one input. -/
def cellComparesWrong : ChangeSpec := { name := "cellCompares", fn := fun _ => fun
  | [d1, d2, d3] => { results := [.lit (.bool false)], args := [d1, d2, d3] }
  | _ => none }
def CellComparesWrongFalsely : Prop := cellComparesRow.holds Tryz.pinned (OpenSpec.ofChange cellComparesWrong)

/-- 'thresherlaw06.CellOrders': WHATEVER THE INPUT: true; the input reads as it did. -/
def cellOrdersSpec : ChangeSpec := { name := "cellOrders", fn := fun _ => fun
  | [d1, d2, d3] => { results := [.lit (.bool true)], args := [d1, d2, d3] }
  | _ => none }
def cellOrdersRow : OpenClaim := { program := "ytjldeckcfdeklaagreatdoor", sum := "9790701b57e104a7a3d31a0f4fa419fa5cbc6510c1132b0dae5ed56a13f1f28c", func := "thresher/thresherlaw06.CellOrders", spec := "cellOrders", inPlace := ["internal/bytealg.IndexByteString", "internal/bytealg.IndexString", "math.Float64frombits", "math.Float64bits", "internal/abi.NoEscape", "internal/bytealg.MakeNoZero", "internal/bytealg.abigen_runtime_cmpstring"], unfollowed := true, recurses := true, named := ["unicode/utf8.first", "unicode/utf8.acceptRanges", "math/bits.overflowError", "strconv.ErrSyntax", "strconv.ErrRange", "internal/strconv.uint64pow10", "math/bits.deBruijn32tab", "math/bits.deBruijn64tab", "unicode.CaseRanges", "internal/bytealg.MaxLen"], apart := false, laid := [("math/bits.deBruijn32tab", laid_math_bits_deBruijn32tab), ("math/bits.deBruijn64tab", laid_math_bits_deBruijn64tab), ("internal/strconv.uint64pow10", laid_internal_strconv_uint64pow10), ("unicode/utf8.acceptRanges", laid_unicode_utf8_acceptRanges), ("strconv.ErrRange", laid_strconv_ErrRange), ("strconv.ErrSyntax", laid_strconv_ErrSyntax), ("unicode.CaseRanges", laid_unicode_CaseRanges), ("unicode/utf8.first", laid_unicode_utf8_first)] }
def CellOrdersSaid : Prop := cellOrdersRow.holds Tryz.pinned (OpenSpec.ofChange cellOrdersSpec)

/-- ITS FALSE NEIGHBOUR: 'it returns false'. Refute it at one input. -/
def cellOrdersWrong : ChangeSpec := { name := "cellOrders", fn := fun _ => fun
  | [d1, d2, d3] => { results := [.lit (.bool false)], args := [d1, d2, d3] }
  | _ => none }
def CellOrdersWrongFalsely : Prop := cellOrdersRow.holds Tryz.pinned (OpenSpec.ofChange cellOrdersWrong)

/-- 'thresherlaw06.CellTexts': WHATEVER THE INPUT: true; the input reads as it did. -/
def cellTextsSpec : ChangeSpec := { name := "cellTexts", fn := fun _ => fun
  | [d1, d2, d3] => { results := [.lit (.bool true)], args := [d1, d2, d3] }
  | _ => none }
def cellTextsRow : OpenClaim := { program := "ytjldeckcfdeklaagreatdoor", sum := "9790701b57e104a7a3d31a0f4fa419fa5cbc6510c1132b0dae5ed56a13f1f28c", func := "thresher/thresherlaw06.CellTexts", spec := "cellTexts", inPlace := ["internal/bytealg.IndexByteString", "internal/bytealg.IndexString", "math.Float64frombits", "math.Float64bits", "internal/abi.NoEscape", "internal/bytealg.MakeNoZero", "internal/bytealg.abigen_runtime_cmpstring"], unfollowed := true, recurses := true, named := ["unicode/utf8.first", "unicode/utf8.acceptRanges", "math/bits.overflowError", "strconv.ErrSyntax", "strconv.ErrRange", "internal/strconv.uint64pow10", "math/bits.deBruijn32tab", "math/bits.deBruijn64tab", "unicode.CaseRanges", "internal/bytealg.MaxLen"], apart := false, laid := [("math/bits.deBruijn32tab", laid_math_bits_deBruijn32tab), ("math/bits.deBruijn64tab", laid_math_bits_deBruijn64tab), ("internal/strconv.uint64pow10", laid_internal_strconv_uint64pow10), ("unicode/utf8.acceptRanges", laid_unicode_utf8_acceptRanges), ("strconv.ErrRange", laid_strconv_ErrRange), ("strconv.ErrSyntax", laid_strconv_ErrSyntax), ("unicode.CaseRanges", laid_unicode_CaseRanges), ("unicode/utf8.first", laid_unicode_utf8_first)] }
def CellTextsSaid : Prop := cellTextsRow.holds Tryz.pinned (OpenSpec.ofChange cellTextsSpec)

/-- ITS FALSE NEIGHBOUR: 'it returns false'. Refute it at one input. -/
def cellTextsWrong : ChangeSpec := { name := "cellTexts", fn := fun _ => fun
  | [d1, d2, d3] => { results := [.lit (.bool false)], args := [d1, d2, d3] }
  | _ => none }
def CellTextsWrongFalsely : Prop := cellTextsRow.holds Tryz.pinned (OpenSpec.ofChange cellTextsWrong)

/-- 'thresherlaw06.CellInput': WHATEVER THE INPUT: true; the input reads as it did. -/
def cellInputSpec : ChangeSpec := { name := "cellInput", fn := fun _ => fun
  | [d] => { results := [.lit (.bool true)], args := [d] }
  | _ => none }
def cellInputRow : OpenClaim := { program := "ytjldeckcfdeklaagreatdoor", sum := "9790701b57e104a7a3d31a0f4fa419fa5cbc6510c1132b0dae5ed56a13f1f28c", func := "thresher/thresherlaw06.CellInput", spec := "cellInput", inPlace := ["internal/bytealg.IndexByteString", "internal/bytealg.IndexString", "math.Float64frombits", "math.Float64bits", "internal/abi.NoEscape", "internal/bytealg.MakeNoZero", "internal/bytealg.abigen_runtime_cmpstring"], unfollowed := true, recurses := true, named := ["unicode/utf8.first", "unicode/utf8.acceptRanges", "math/bits.overflowError", "strconv.ErrSyntax", "strconv.ErrRange", "internal/strconv.uint64pow10", "math/bits.deBruijn32tab", "math/bits.deBruijn64tab", "unicode.CaseRanges", "internal/bytealg.MaxLen"], apart := false, laid := [("math/bits.deBruijn32tab", laid_math_bits_deBruijn32tab), ("math/bits.deBruijn64tab", laid_math_bits_deBruijn64tab), ("internal/strconv.uint64pow10", laid_internal_strconv_uint64pow10), ("unicode/utf8.acceptRanges", laid_unicode_utf8_acceptRanges), ("strconv.ErrRange", laid_strconv_ErrRange), ("strconv.ErrSyntax", laid_strconv_ErrSyntax), ("unicode.CaseRanges", laid_unicode_CaseRanges), ("unicode/utf8.first", laid_unicode_utf8_first)] }
def CellInputSaid : Prop := cellInputRow.holds Tryz.pinned (OpenSpec.ofChange cellInputSpec)

/-- ITS FALSE NEIGHBOUR: 'it returns false'. Refute it at one input. -/
def cellInputWrong : ChangeSpec := { name := "cellInput", fn := fun _ => fun
  | [d] => { results := [.lit (.bool false)], args := [d] }
  | _ => none }
def CellInputWrongFalsely : Prop := cellInputRow.holds Tryz.pinned (OpenSpec.ofChange cellInputWrong)

/- THE SECOND FORM. 'bulk': how many values and letters a reading holds, each counted each time it is reached (what is shared counts as often as it is met; a slice's spare places count too). A statement '..UptoSaid' is the law's where the arguments, and the package variables that the reading takes, are together of bulk at most 1048576: NARROWER than '..Said'. Prove '..Said' where nothing that the law and all that it calls make is longer than what came in: it says more and counts as full. Else prove '..UptoSaid'. A law counts once. -/
mutual
def uptoBulk {H : Type} : DataW H → Nat
  | .lit (.string bytes) => bytes.length + 1
  | .lit _ => 1
  | .nil => 1
  | .ptr d => uptoBulk d + 1
  | .slice elems spare => uptoBulkAll elems + uptoBulkAll spare + 1
  | .agg parts => uptoBulkAll parts + 1
  | .iface _ d => uptoBulk d + 1
  | .map entries => uptoBulkEntries entries + 1
  | .held _ => 1
def uptoBulkAll {H : Type} : List (DataW H) → Nat
  | [] => 0
  | d :: r => uptoBulk d + uptoBulkAll r
def uptoBulkEntries {H : Type} : List (Lit × DataW H) → Nat
  | [] => 0
  | x :: r => uptoBulkEntry x + uptoBulkEntries r
def uptoBulkEntry {H : Type} : Lit × DataW H → Nat
  | (.string bytes, d) => bytes.length + uptoBulk d + 1
  | (_, d) => uptoBulk d + 1
 end
def uptoSmall : (H : Type) → List (DataW H) → Bool := fun _ ds => decide (uptoBulkAll ds ≤ 1048576)
def OpenSpec.upto (s : _root_.Go.ChangeSpec) : _root_.Go.OpenSpec := { _root_.Go.OpenSpec.ofChange s with cond := some uptoSmall }

/-- 'thresherlaw05.FormatParses', WHERE WHAT IT READS IS OF BULK AT MOST 1048576: true; the input reads as it did. -/
def formatParsesUptoRow : OpenClaim := { program := "ytjldeckcfdeklaagreatdoor", sum := "9790701b57e104a7a3d31a0f4fa419fa5cbc6510c1132b0dae5ed56a13f1f28c", func := "thresher/thresherlaw05.FormatParses", spec := "formatParses", inPlace := ["internal/bytealg.IndexByteString", "math.Float64bits", "internal/abi.NoEscape", "internal/bytealg.MakeNoZero", "math.Float64frombits", "internal/bytealg.IndexString"], unfollowed := true, recurses := true, named := ["strconv.ErrSyntax", "strconv.ErrRange", "internal/strconv.uint64pow10", "math/bits.deBruijn32tab", "math/bits.deBruijn64tab", "math/bits.overflowError", "unicode/utf8.first", "unicode/utf8.acceptRanges", "unicode.CaseRanges", "internal/bytealg.MaxLen"], apart := false, laid := [("math/bits.deBruijn32tab", laid_math_bits_deBruijn32tab), ("math/bits.deBruijn64tab", laid_math_bits_deBruijn64tab), ("internal/strconv.uint64pow10", laid_internal_strconv_uint64pow10), ("unicode/utf8.acceptRanges", laid_unicode_utf8_acceptRanges), ("strconv.ErrRange", laid_strconv_ErrRange), ("strconv.ErrSyntax", laid_strconv_ErrSyntax), ("unicode.CaseRanges", laid_unicode_CaseRanges), ("unicode/utf8.first", laid_unicode_utf8_first)], narrowed := true }
def FormatParsesUptoSaid : Prop := formatParsesUptoRow.holds Tryz.pinned (OpenSpec.upto formatParsesSpec)

/-- 'thresherlaw05.FormatTexts', WHERE WHAT IT READS IS OF BULK AT MOST 1048576: true; the input reads as it did. -/
def formatTextsUptoRow : OpenClaim := { program := "ytjldeckcfdeklaagreatdoor", sum := "9790701b57e104a7a3d31a0f4fa419fa5cbc6510c1132b0dae5ed56a13f1f28c", func := "thresher/thresherlaw05.FormatTexts", spec := "formatTexts", inPlace := ["internal/bytealg.IndexByteString", "math.Float64bits", "internal/abi.NoEscape", "internal/bytealg.MakeNoZero", "math.Float64frombits", "internal/bytealg.IndexString"], unfollowed := true, recurses := true, named := ["strconv.ErrSyntax", "strconv.ErrRange", "internal/strconv.uint64pow10", "math/bits.deBruijn32tab", "math/bits.deBruijn64tab", "math/bits.overflowError", "unicode/utf8.first", "unicode/utf8.acceptRanges", "unicode.CaseRanges", "internal/bytealg.MaxLen"], apart := false, laid := [("math/bits.deBruijn32tab", laid_math_bits_deBruijn32tab), ("math/bits.deBruijn64tab", laid_math_bits_deBruijn64tab), ("internal/strconv.uint64pow10", laid_internal_strconv_uint64pow10), ("unicode/utf8.acceptRanges", laid_unicode_utf8_acceptRanges), ("strconv.ErrRange", laid_strconv_ErrRange), ("strconv.ErrSyntax", laid_strconv_ErrSyntax), ("unicode.CaseRanges", laid_unicode_CaseRanges), ("unicode/utf8.first", laid_unicode_utf8_first)], narrowed := true }
def FormatTextsUptoSaid : Prop := formatTextsUptoRow.holds Tryz.pinned (OpenSpec.upto formatTextsSpec)

/-- 'thresherlaw05.FormatWide', WHERE WHAT IT READS IS OF BULK AT MOST 1048576: true; the input reads as it did. -/
def formatWideUptoRow : OpenClaim := { program := "ytjldeckcfdeklaagreatdoor", sum := "9790701b57e104a7a3d31a0f4fa419fa5cbc6510c1132b0dae5ed56a13f1f28c", func := "thresher/thresherlaw05.FormatWide", spec := "formatWide", inPlace := ["internal/bytealg.IndexByteString", "math.Float64bits", "internal/abi.NoEscape", "internal/bytealg.MakeNoZero", "math.Float64frombits", "internal/bytealg.IndexString"], unfollowed := true, recurses := true, named := ["strconv.ErrSyntax", "strconv.ErrRange", "internal/strconv.uint64pow10", "math/bits.deBruijn32tab", "math/bits.deBruijn64tab", "math/bits.overflowError", "unicode/utf8.first", "unicode/utf8.acceptRanges", "unicode.CaseRanges", "internal/bytealg.MaxLen"], apart := false, laid := [("math/bits.deBruijn32tab", laid_math_bits_deBruijn32tab), ("math/bits.deBruijn64tab", laid_math_bits_deBruijn64tab), ("internal/strconv.uint64pow10", laid_internal_strconv_uint64pow10), ("unicode/utf8.acceptRanges", laid_unicode_utf8_acceptRanges), ("strconv.ErrRange", laid_strconv_ErrRange), ("strconv.ErrSyntax", laid_strconv_ErrSyntax), ("unicode.CaseRanges", laid_unicode_CaseRanges), ("unicode/utf8.first", laid_unicode_utf8_first)], narrowed := true }
def FormatWideUptoSaid : Prop := formatWideUptoRow.holds Tryz.pinned (OpenSpec.upto formatWideSpec)

/-- 'thresherlaw05.FormatWhole', WHERE WHAT IT READS IS OF BULK AT MOST 1048576: true; the input reads as it did. -/
def formatWholeUptoRow : OpenClaim := { program := "ytjldeckcfdeklaagreatdoor", sum := "9790701b57e104a7a3d31a0f4fa419fa5cbc6510c1132b0dae5ed56a13f1f28c", func := "thresher/thresherlaw05.FormatWhole", spec := "formatWhole", inPlace := ["internal/bytealg.IndexByteString", "math.Float64bits", "internal/abi.NoEscape", "internal/bytealg.MakeNoZero", "math.Float64frombits", "internal/bytealg.IndexString"], unfollowed := true, recurses := true, named := ["strconv.ErrSyntax", "strconv.ErrRange", "internal/strconv.uint64pow10", "math/bits.deBruijn32tab", "math/bits.deBruijn64tab", "math/bits.overflowError", "unicode/utf8.first", "unicode/utf8.acceptRanges", "unicode.CaseRanges", "internal/bytealg.MaxLen"], apart := false, laid := [("math/bits.deBruijn32tab", laid_math_bits_deBruijn32tab), ("math/bits.deBruijn64tab", laid_math_bits_deBruijn64tab), ("internal/strconv.uint64pow10", laid_internal_strconv_uint64pow10), ("unicode/utf8.acceptRanges", laid_unicode_utf8_acceptRanges), ("strconv.ErrRange", laid_strconv_ErrRange), ("strconv.ErrSyntax", laid_strconv_ErrSyntax), ("unicode.CaseRanges", laid_unicode_CaseRanges), ("unicode/utf8.first", laid_unicode_utf8_first)], narrowed := true }
def FormatWholeUptoSaid : Prop := formatWholeUptoRow.holds Tryz.pinned (OpenSpec.upto formatWholeSpec)

/-- 'thresherlaw05.FormatBack', WHERE WHAT IT READS IS OF BULK AT MOST 1048576: true; the input reads as it did. -/
def formatBackUptoRow : OpenClaim := { program := "ytjldeckcfdeklaagreatdoor", sum := "9790701b57e104a7a3d31a0f4fa419fa5cbc6510c1132b0dae5ed56a13f1f28c", func := "thresher/thresherlaw05.FormatBack", spec := "formatBack", inPlace := ["internal/bytealg.IndexByteString", "math.Float64bits", "internal/abi.NoEscape", "internal/bytealg.MakeNoZero", "math.Float64frombits", "internal/bytealg.IndexString"], unfollowed := true, recurses := true, named := ["strconv.ErrSyntax", "strconv.ErrRange", "internal/strconv.uint64pow10", "math/bits.deBruijn32tab", "math/bits.deBruijn64tab", "math/bits.overflowError", "unicode/utf8.first", "unicode/utf8.acceptRanges", "unicode.CaseRanges", "internal/bytealg.MaxLen"], apart := false, laid := [("math/bits.deBruijn32tab", laid_math_bits_deBruijn32tab), ("math/bits.deBruijn64tab", laid_math_bits_deBruijn64tab), ("internal/strconv.uint64pow10", laid_internal_strconv_uint64pow10), ("unicode/utf8.acceptRanges", laid_unicode_utf8_acceptRanges), ("strconv.ErrRange", laid_strconv_ErrRange), ("strconv.ErrSyntax", laid_strconv_ErrSyntax), ("unicode.CaseRanges", laid_unicode_CaseRanges), ("unicode/utf8.first", laid_unicode_utf8_first)], narrowed := true }
def FormatBackUptoSaid : Prop := formatBackUptoRow.holds Tryz.pinned (OpenSpec.upto formatBackSpec)

/-- 'thresherlaw06.CellNames', WHERE WHAT IT READS IS OF BULK AT MOST 1048576: true; the input reads as it did. -/
def cellNamesUptoRow : OpenClaim := { program := "ytjldeckcfdeklaagreatdoor", sum := "9790701b57e104a7a3d31a0f4fa419fa5cbc6510c1132b0dae5ed56a13f1f28c", func := "thresher/thresherlaw06.CellNames", spec := "cellNames", inPlace := ["internal/bytealg.IndexByteString", "internal/bytealg.IndexString", "math.Float64frombits", "math.Float64bits", "internal/abi.NoEscape", "internal/bytealg.MakeNoZero", "internal/bytealg.abigen_runtime_cmpstring"], unfollowed := true, recurses := true, named := ["unicode/utf8.first", "unicode/utf8.acceptRanges", "math/bits.overflowError", "strconv.ErrSyntax", "strconv.ErrRange", "internal/strconv.uint64pow10", "math/bits.deBruijn32tab", "math/bits.deBruijn64tab", "unicode.CaseRanges", "internal/bytealg.MaxLen"], apart := false, laid := [("math/bits.deBruijn32tab", laid_math_bits_deBruijn32tab), ("math/bits.deBruijn64tab", laid_math_bits_deBruijn64tab), ("internal/strconv.uint64pow10", laid_internal_strconv_uint64pow10), ("unicode/utf8.acceptRanges", laid_unicode_utf8_acceptRanges), ("strconv.ErrRange", laid_strconv_ErrRange), ("strconv.ErrSyntax", laid_strconv_ErrSyntax), ("unicode.CaseRanges", laid_unicode_CaseRanges), ("unicode/utf8.first", laid_unicode_utf8_first)], narrowed := true }
def CellNamesUptoSaid : Prop := cellNamesUptoRow.holds Tryz.pinned (OpenSpec.upto cellNamesSpec)

/-- 'thresherlaw06.CellCompares', WHERE WHAT IT READS IS OF BULK AT MOST 1048576: true; the input reads as it did. -/
def cellComparesUptoRow : OpenClaim := { program := "ytjldeckcfdeklaagreatdoor", sum := "9790701b57e104a7a3d31a0f4fa419fa5cbc6510c1132b0dae5ed56a13f1f28c", func := "thresher/thresherlaw06.CellCompares", spec := "cellCompares", inPlace := ["internal/bytealg.IndexByteString", "internal/bytealg.IndexString", "math.Float64frombits", "math.Float64bits", "internal/abi.NoEscape", "internal/bytealg.MakeNoZero", "internal/bytealg.abigen_runtime_cmpstring"], unfollowed := true, recurses := true, named := ["unicode/utf8.first", "unicode/utf8.acceptRanges", "math/bits.overflowError", "strconv.ErrSyntax", "strconv.ErrRange", "internal/strconv.uint64pow10", "math/bits.deBruijn32tab", "math/bits.deBruijn64tab", "unicode.CaseRanges", "internal/bytealg.MaxLen"], apart := false, laid := [("math/bits.deBruijn32tab", laid_math_bits_deBruijn32tab), ("math/bits.deBruijn64tab", laid_math_bits_deBruijn64tab), ("internal/strconv.uint64pow10", laid_internal_strconv_uint64pow10), ("unicode/utf8.acceptRanges", laid_unicode_utf8_acceptRanges), ("strconv.ErrRange", laid_strconv_ErrRange), ("strconv.ErrSyntax", laid_strconv_ErrSyntax), ("unicode.CaseRanges", laid_unicode_CaseRanges), ("unicode/utf8.first", laid_unicode_utf8_first)], narrowed := true }
def CellComparesUptoSaid : Prop := cellComparesUptoRow.holds Tryz.pinned (OpenSpec.upto cellComparesSpec)

/-- 'thresherlaw06.CellOrders', WHERE WHAT IT READS IS OF BULK AT MOST 1048576: true; the input reads as it did. -/
def cellOrdersUptoRow : OpenClaim := { program := "ytjldeckcfdeklaagreatdoor", sum := "9790701b57e104a7a3d31a0f4fa419fa5cbc6510c1132b0dae5ed56a13f1f28c", func := "thresher/thresherlaw06.CellOrders", spec := "cellOrders", inPlace := ["internal/bytealg.IndexByteString", "internal/bytealg.IndexString", "math.Float64frombits", "math.Float64bits", "internal/abi.NoEscape", "internal/bytealg.MakeNoZero", "internal/bytealg.abigen_runtime_cmpstring"], unfollowed := true, recurses := true, named := ["unicode/utf8.first", "unicode/utf8.acceptRanges", "math/bits.overflowError", "strconv.ErrSyntax", "strconv.ErrRange", "internal/strconv.uint64pow10", "math/bits.deBruijn32tab", "math/bits.deBruijn64tab", "unicode.CaseRanges", "internal/bytealg.MaxLen"], apart := false, laid := [("math/bits.deBruijn32tab", laid_math_bits_deBruijn32tab), ("math/bits.deBruijn64tab", laid_math_bits_deBruijn64tab), ("internal/strconv.uint64pow10", laid_internal_strconv_uint64pow10), ("unicode/utf8.acceptRanges", laid_unicode_utf8_acceptRanges), ("strconv.ErrRange", laid_strconv_ErrRange), ("strconv.ErrSyntax", laid_strconv_ErrSyntax), ("unicode.CaseRanges", laid_unicode_CaseRanges), ("unicode/utf8.first", laid_unicode_utf8_first)], narrowed := true }
def CellOrdersUptoSaid : Prop := cellOrdersUptoRow.holds Tryz.pinned (OpenSpec.upto cellOrdersSpec)

/-- 'thresherlaw06.CellTexts', WHERE WHAT IT READS IS OF BULK AT MOST 1048576: true; the input reads as it did. -/
def cellTextsUptoRow : OpenClaim := { program := "ytjldeckcfdeklaagreatdoor", sum := "9790701b57e104a7a3d31a0f4fa419fa5cbc6510c1132b0dae5ed56a13f1f28c", func := "thresher/thresherlaw06.CellTexts", spec := "cellTexts", inPlace := ["internal/bytealg.IndexByteString", "internal/bytealg.IndexString", "math.Float64frombits", "math.Float64bits", "internal/abi.NoEscape", "internal/bytealg.MakeNoZero", "internal/bytealg.abigen_runtime_cmpstring"], unfollowed := true, recurses := true, named := ["unicode/utf8.first", "unicode/utf8.acceptRanges", "math/bits.overflowError", "strconv.ErrSyntax", "strconv.ErrRange", "internal/strconv.uint64pow10", "math/bits.deBruijn32tab", "math/bits.deBruijn64tab", "unicode.CaseRanges", "internal/bytealg.MaxLen"], apart := false, laid := [("math/bits.deBruijn32tab", laid_math_bits_deBruijn32tab), ("math/bits.deBruijn64tab", laid_math_bits_deBruijn64tab), ("internal/strconv.uint64pow10", laid_internal_strconv_uint64pow10), ("unicode/utf8.acceptRanges", laid_unicode_utf8_acceptRanges), ("strconv.ErrRange", laid_strconv_ErrRange), ("strconv.ErrSyntax", laid_strconv_ErrSyntax), ("unicode.CaseRanges", laid_unicode_CaseRanges), ("unicode/utf8.first", laid_unicode_utf8_first)], narrowed := true }
def CellTextsUptoSaid : Prop := cellTextsUptoRow.holds Tryz.pinned (OpenSpec.upto cellTextsSpec)

/-- 'thresherlaw06.CellInput', WHERE WHAT IT READS IS OF BULK AT MOST 1048576: true; the input reads as it did. -/
def cellInputUptoRow : OpenClaim := { program := "ytjldeckcfdeklaagreatdoor", sum := "9790701b57e104a7a3d31a0f4fa419fa5cbc6510c1132b0dae5ed56a13f1f28c", func := "thresher/thresherlaw06.CellInput", spec := "cellInput", inPlace := ["internal/bytealg.IndexByteString", "internal/bytealg.IndexString", "math.Float64frombits", "math.Float64bits", "internal/abi.NoEscape", "internal/bytealg.MakeNoZero", "internal/bytealg.abigen_runtime_cmpstring"], unfollowed := true, recurses := true, named := ["unicode/utf8.first", "unicode/utf8.acceptRanges", "math/bits.overflowError", "strconv.ErrSyntax", "strconv.ErrRange", "internal/strconv.uint64pow10", "math/bits.deBruijn32tab", "math/bits.deBruijn64tab", "unicode.CaseRanges", "internal/bytealg.MaxLen"], apart := false, laid := [("math/bits.deBruijn32tab", laid_math_bits_deBruijn32tab), ("math/bits.deBruijn64tab", laid_math_bits_deBruijn64tab), ("internal/strconv.uint64pow10", laid_internal_strconv_uint64pow10), ("unicode/utf8.acceptRanges", laid_unicode_utf8_acceptRanges), ("strconv.ErrRange", laid_strconv_ErrRange), ("strconv.ErrSyntax", laid_strconv_ErrSyntax), ("unicode.CaseRanges", laid_unicode_CaseRanges), ("unicode/utf8.first", laid_unicode_utf8_first)], narrowed := true }
def CellInputUptoSaid : Prop := cellInputUptoRow.holds Tryz.pinned (OpenSpec.upto cellInputSpec)

end Rows
end Go.Proofs.YtjldeckcfdeklaaGreatDoor
