/- Plain: sums and products that are floats are reckoned exactly. -/
import Derived.Test.YtfdnhkjeoeffoaaGreatDoorK9
namespace Go.Proofs.YtfdnhkjeoeffoaaGreatDoor
open Go
set_option linter.unusedVariables false

theorem vl_none : vl 0 = 0 := by unfold vl mof; simp
/-- a natural as a float -/
def ofN (n : Nat) : Nat := FloatKind.f64.nearest (n : Int)
theorem ofN_fin {n : Nat} (h : n < 9007199254740992) : ofN n < 9218868437227405312 ∧ vl (ofN n) = n * kk := whole_bits h
end Go.Proofs.YtfdnhkjeoeffoaaGreatDoor
