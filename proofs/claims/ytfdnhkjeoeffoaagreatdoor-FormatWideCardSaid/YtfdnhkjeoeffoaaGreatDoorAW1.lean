/- What the rows' listed tables say of strconv.ErrSyntax. -/
import Derived.Test.YtfdnhkjeoeffoaaGreatDoorAW0
import Derived.Test.YtfdnhkjeoeffoaaGreatDoorM4
import Derived.Stop.LaidErr
import Derived.Test.YtfdnhkjeoeffoaaGreatDoorZ1
namespace Go.Proofs.YtfdnhkjeoeffoaaGreatDoor
open Go.ChangeShapes Go.WideShapes Go.ChangeAt Go.RowKit Go.Lib

theorem starE : "*" ++ "errors.errorString" = "*errors.errorString" := by decide
theorem rowE (u : TypeId) (h : Tryz.prog.typeName? 3 u = some "*errors.errorString") : u = 345 :=
  typeName_ptr_named (nm := "errors.errorString") (by rw [starE]; kernel_rfl) (by kernel_rfl) (by decide) u (by rw [starE]; exact h)
/-- what the laws of this seat list -/
def seatLaid : List (String × DataW Unit) := Rows.assocLoopsRow.laid
theorem tabs_of {W : World} (hL : laidMetH Tryz.prog seatLaid W) (hS : W.ShapedOpen Tryz.prog) : ErrOk W := by
  have h := (laidMetH_iff.1 hL).1
  rw [show (seatLaid.filter fun x => x.2.handleName?.isNone) = seatLaid from by kernel_rfl] at h
  have h5 := laidMet.tail (laidMet.tail (laidMet.tail (laidMet.tail (laidMet.tail h))))
  obtain ⟨a0, s0, hv0, -, -, -⟩ := laid_sentinel h5 (g := 6) (ti := 126) (tp := 345) (te := 347) (ts := 9) (by kernel_rfl) (by kernel_rfl) Tryz.underlying126 rowE Tryz.underlying345 Tryz.underlying347 rfl rfl Tryz.underlying9 (by kernel_rfl) (by kernel_rfl)
  exact ⟨_, by have h0 := World.var?_cell (show Tryz.prog.globalNamed "strconv.ErrSyntax" = some 6 from by kernel_rfl) hv0 0; simpa using h0, .inr ⟨_, _, rfl⟩⟩
end Go.Proofs.YtfdnhkjeoeffoaaGreatDoor
