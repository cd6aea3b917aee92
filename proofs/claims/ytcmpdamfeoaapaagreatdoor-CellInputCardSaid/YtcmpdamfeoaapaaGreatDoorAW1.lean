/- What the rows' listed tables say of strconv.ErrSyntax. -/
import Derived.Test.YtcmpdamfeoaapaaGreatDoorAW0
import Derived.Test.YtcmpdamfeoaapaaGreatDoorP3
import Derived.Stop.LaidErr
namespace Go.Proofs.YtcmpdamfeoaapaaGreatDoor
open Go.ChangeShapes Go.WideShapes Go.ChangeAt Go.RowKit Go.Lib

theorem starE : "*" ++ "errors.errorString" = "*errors.errorString" := by decide
theorem rowE (u : TypeId) (h : Tryz.prog.typeName? 3 u = some "*errors.errorString") : u = 280 :=
  typeName_ptr_named (nm := "errors.errorString") (by rw [starE]; kernel_rfl) (by kernel_rfl) (by decide) u (by rw [starE]; exact h)
/-- what the laws of this seat list -/
def seatLaid : List (String × DataW Unit) := Rows.printfWritesRow.laid
theorem tabs_of {W : World} (hL : laidMetH Tryz.prog seatLaid W) (hS : W.ShapedOpen Tryz.prog) : ErrOk W := by
  have h := (laidMetH_iff.1 hL).1
  rw [show (seatLaid.filter fun x => x.2.handleName?.isNone) = seatLaid from by kernel_rfl] at h
  have h5 := laidMet.tail (laidMet.tail (laidMet.tail (laidMet.tail (laidMet.tail h))))
  obtain ⟨a0, s0, hv0, -, -, -⟩ := laid_sentinel h5 (g := 6) (ti := 110) (tp := 280) (te := 282) (ts := 9) (by kernel_rfl) (by kernel_rfl) Tryz.underlying110 rowE Tryz.underlying280 Tryz.underlying282 rfl rfl Tryz.underlying9 (by kernel_rfl) (by kernel_rfl)
  exact ⟨_, by have h0 := World.var?_cell (show Tryz.prog.globalNamed "strconv.ErrSyntax" = some 6 from by kernel_rfl) hv0 0; simpa using h0, .inr ⟨_, _, rfl⟩⟩
end Go.Proofs.YtcmpdamfeoaapaaGreatDoor
