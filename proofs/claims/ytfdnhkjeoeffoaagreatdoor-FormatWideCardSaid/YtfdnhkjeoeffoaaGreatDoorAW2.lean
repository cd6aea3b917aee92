/- What the rows' listed tables say of all that the walks want. -/
import Derived.Test.YtfdnhkjeoeffoaaGreatDoorAW1
import Derived.Test.YtfdnhkjeoeffoaaGreatDoorM5
import Derived.Test.YtfdnhkjeoeffoaaGreatDoorM6
import Derived.Test.YtfdnhkjeoeffoaaGreatDoorZ1
namespace Go.Proofs.YtfdnhkjeoeffoaaGreatDoor
open Go.ChangeShapes Go.WideShapes Go.ChangeAt Go.RowKit Go.Lib

theorem tabIs_of_reads {W : World} {name : String} {k : IntKind} {zs : List Int} {g : Nat} {t e : TypeId} {n : Nat}
    (hg : Tryz.prog.globalNamed name = some g) (hty : (Tryz.prog.globals[g]?).map (·.type) = some t) (ht : Tryz.prog.underlying t = some (.array n e)) (he : Tryz.prog.underlying e = some (.int k)) (hce : Tryz.prog.cellsOf e = 1) (hct : Tryz.prog.cellsOf t = n)
    (h : Lib.VarReads Tryz.prog W name (Lib.tabData k zs)) : Lib.TabIs Tryz.prog W name k zs := by
  obtain ⟨g', t', cs, fuel, p, hg', ht', hvar, hd⟩ := h
  obtain rfl := Option.some.inj (hg.symm.trans hg')
  obtain rfl := Option.some.inj (hty.symm.trans ht')
  unfold Lib.TabIs
  rw [hvar, ← Lib.cells_of_tab ht he hce hct hd]
structure Tabs5 (W : World) : Prop where
  err : ErrOk W
  pow : PowOk W
  utf : U8Ok W
theorem tabs5_of {W : World} (hL : laidMetH Tryz.prog seatLaid W) (hS : W.ShapedOpen Tryz.prog) : Tabs5 W := by
  have h := (laidMetH_iff.1 hL).1
  have hr : ∀ (n : String) (d : DataW Unit), (n, d) ∈ seatLaid → d.handleName?.isNone = true → Lib.VarReads Tryz.prog W n d := fun n d hm hn => Lib.laidMet.reads h (List.mem_filter.2 ⟨hm, hn⟩)
  have e1 : Rows.laid_internal_strconv_uint64pow10 = (Lib.tabData .u64 Lib.pow10Tab : DataW Unit) := by kernel_rfl
  have e3 : Rows.laid_unicode_utf8_first = firstData := by kernel_rfl
  have e4 : Rows.laid_unicode_utf8_acceptRanges = acceptData := by kernel_rfl
  have r1 := hr "internal/strconv.uint64pow10" Rows.laid_internal_strconv_uint64pow10 (.tail _ (.tail _ (.head _))) (by kernel_rfl)
  have r3 := hr "unicode/utf8.first" Rows.laid_unicode_utf8_first (.tail _ (.tail _ (.tail _ (.tail _ (.tail _ (.tail _ (.tail _ (.head _)))))))) (by kernel_rfl)
  have r4 := hr "unicode/utf8.acceptRanges" Rows.laid_unicode_utf8_acceptRanges (.tail _ (.tail _ (.tail _ (.head _)))) (by kernel_rfl)
  rw [e1] at r1
  rw [e3] at r3
  rw [e4] at r4
  refine ⟨tabs_of hL hS, ?_, ?_⟩
  · exact tabIs_of_reads (g := 8) (t := 352) (e := 22) (n := 20) (by kernel_rfl) (by kernel_rfl) (by kernel_rfl) (by kernel_rfl) (by kernel_rfl) (by kernel_rfl) r1
  · exact utf8Tabs_of_reads Tryz.lays260 ⟨by kernel_rfl, by kernel_rfl, by kernel_rfl, by kernel_rfl, by kernel_rfl, by kernel_rfl, by kernel_rfl⟩ r3 r4
end Go.Proofs.YtfdnhkjeoeffoaaGreatDoor
