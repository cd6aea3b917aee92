/- The world of the witnesses: the settled one, with the seven listed tables; and the tables' facts out of what a row lists. -/
import Derived.Test.YtcipmfjefmjacaaGreatDoorCards
import Derived.Test.YtcipmfjefmjacaaGreatDoorTie
import Derived.Test.YtcipmfjefmjacaaGreatDoorC3
import Derived.WalkKit
import Derived.ProofKit
import Derived.OpenShut
import Derived.ShutString
import Derived.Deep.DeepHandedRow
import Derived.Deep.DeepLaidRun
import Derived.LaidSub
import Derived.Deep.DeepWitnessRowRef
import Derived.Lib.LaidU8
namespace Go.Proofs.YtcipmfjefmjacaaGreatDoor
open Go.ChangeShapes Go.WideShapes Go.ChangeAt Go.RowKit Go.Lib

theorem own : ownKnob Tryz.prog.godebug = none := by kernel_rfl
/-- the numbers of a datum, one behind the other -/
def flatU (d : DataW Unit) : List Value := match d with
  | .agg l => l.flatMap fun x => match x with
    | .lit (.int k z) => [.int k z]
    | .agg m => m.filterMap fun y => match y with
      | .lit (.int k z) => some (.int k z)
      | _ => none
    | _ => []
  | _ => []
def rowsU (d : DataW Unit) : List Value := match d with
  | .ptr (.agg [.slice l _, _, _]) => flatU (.agg l)
  | _ => []
def putCells (c : Array Value) : Obj → Obj
  | .cells _ t frozen => .cells c t frozen
  | o => o
/-- the two blocks that unicode.White_Space leads to -/
noncomputable def whiteBlocks : Array Obj := #[.cells (rowsU Rows.laid_unicode_White_Space).toArray 122, .cells #[.slice (some ⟨16, 0, none⟩) 7 7, .slice none 0 0, .int .i64 2] 119]
noncomputable def laidWorld (os : Os) : World :=
  { World.holding Tryz.prog os ⟨whiteBlocks, #[], []⟩ with
    heap := (((((((World.holding Tryz.prog os ⟨whiteBlocks, #[], []⟩).heap.modify 3 (putCells (flatU Rows.laid_unicode_utf8_acceptRanges).toArray)).modify 2 (putCells (flatU Rows.laid_unicode_utf8_first).toArray)).modify 0 (putCells (flatU Rows.laid_strings_asciiSpace).toArray)).modify 6 (putCells (flatU Rows.laid_internal_strconv_uint64pow10).toArray)).modify 8 (putCells (flatU Rows.laid_math_bits_deBruijn32tab).toArray)).modify 9 (putCells (flatU Rows.laid_math_bits_deBruijn64tab).toArray)).modify 1 (putCells #[.pointer (some ⟨17, 0, none⟩)]) }
theorem wf_u64 {n : Int} (h : (Lit.int .u64 n).wf = true) : 0 ≤ n ∧ n < 18446744073709551616 := by
  have h2 : (decide (IntKind.u64.min ≤ n) && decide (n ≤ IntKind.u64.max)) = true := h
  rw [Bool.and_eq_true, decide_eq_true_eq, decide_eq_true_eq, show IntKind.u64.min = 0 by decide, show IntKind.u64.max = 18446744073709551615 by decide] at h2
  omega
theorem wf_i64 {n : Int} (h : (Lit.int .i64 n).wf = true) : -9223372036854775808 ≤ n ∧ n ≤ 9223372036854775807 := by
  have h2 : (decide (IntKind.i64.min ≤ n) && decide (n ≤ IntKind.i64.max)) = true := h
  rw [Bool.and_eq_true, decide_eq_true_eq, decide_eq_true_eq, show IntKind.i64.min = -9223372036854775808 by decide, show IntKind.i64.max = 9223372036854775807 by decide] at h2
  omega

theorem tabIs_of_reads {W : World} {name : String} {k : IntKind} {zs : List Int} {g : Nat} {t e : TypeId} {n : Nat}
    (hg : Tryz.prog.globalNamed name = some g) (hty : (Tryz.prog.globals[g]?).map (·.type) = some t) (ht : Tryz.prog.underlying t = some (.array n e)) (he : Tryz.prog.underlying e = some (.int k)) (hce : Tryz.prog.cellsOf e = 1) (hct : Tryz.prog.cellsOf t = n)
    (h : Lib.VarReads Tryz.prog W name (Lib.tabData k zs)) : Lib.TabIs Tryz.prog W name k zs := by
  obtain ⟨g', t', cs, fuel, p, hg', ht', hvar, hd⟩ := h
  obtain rfl := Option.some.inj (hg.symm.trans hg')
  obtain rfl := Option.some.inj (hty.symm.trans ht')
  unfold Lib.TabIs
  rw [hvar, ← Lib.cells_of_tab ht he hce hct hd]
/-- what the laws of package cal list -/
def calLaid : List (String × DataW Unit) := Rows.calAgesRow.laid
theorem tabs_of {W : World} (hL : laidMetH Tryz.prog calLaid W) (hS : W.ShapedOpen Tryz.prog) : Tabs W := by
  have h := (laidMetH_iff.1 hL).1
  have hr : ∀ (n : String) (d : DataW Unit), (n, d) ∈ calLaid → d.handleName?.isNone = true → Lib.VarReads Tryz.prog W n d := fun n d hm hn => Lib.laidMet.reads h (List.mem_filter.2 ⟨hm, hn⟩)
  have e1 : Rows.laid_internal_strconv_uint64pow10 = (Lib.tabData .u64 Lib.pow10Tab : DataW Unit) := by kernel_rfl
  have e2 : Rows.laid_strings_asciiSpace = (Lib.tabData .u8 Lib.asciiSpaceTab : DataW Unit) := by kernel_rfl
  have e3 : Rows.laid_unicode_utf8_first = firstData := by kernel_rfl
  have e4 : Rows.laid_unicode_utf8_acceptRanges = acceptData := by kernel_rfl
  have r1 := hr "internal/strconv.uint64pow10" Rows.laid_internal_strconv_uint64pow10 (.tail _ (.tail _ (.head _))) (by kernel_rfl)
  have r2 := hr "strings.asciiSpace" Rows.laid_strings_asciiSpace (.tail _ (.tail _ (.tail _ (.tail _ (.tail _ (.head _)))))) (by kernel_rfl)
  have r3 := hr "unicode/utf8.first" Rows.laid_unicode_utf8_first (.tail _ (.tail _ (.tail _ (.tail _ (.tail _ (.tail _ (.head _))))))) (by kernel_rfl)
  have r4 := hr "unicode/utf8.acceptRanges" Rows.laid_unicode_utf8_acceptRanges (.tail _ (.tail _ (.tail _ (.head _)))) (by kernel_rfl)
  rw [e1] at r1
  rw [e2] at r2
  rw [e3] at r3
  rw [e4] at r4
  refine ⟨?_, ?_, ?_, ?_⟩
  · exact tabIs_of_reads (g := 6) (t := 176) (e := 146) (n := 20) (by kernel_rfl) (by kernel_rfl) (by kernel_rfl) (by kernel_rfl) (by kernel_rfl) (by kernel_rfl) r1
  · exact tabIs_of_reads (g := 0) (t := 75) (e := 5) (n := 256) (by kernel_rfl) (by kernel_rfl) (by kernel_rfl) (by kernel_rfl) (by kernel_rfl) (by kernel_rfl) r2
  · exact utf8Tabs_of_reads Tryz.lays260 ⟨by kernel_rfl, by kernel_rfl, by kernel_rfl, by kernel_rfl, by kernel_rfl, by kernel_rfl, by kernel_rfl⟩ r3 r4
  · exact Tryz.laysM146.s1_3 W hS
end Go.Proofs.YtcipmfjefmjacaaGreatDoor
