/- Plain: what is written with a width, and without. -/
import Derived.Test.YtfdnhkjeoeffoaaGreatDoorM12
namespace Go.Proofs.YtfdnhkjeoeffoaaGreatDoor
open Go.RowKit
set_option linter.unusedVariables false

def upI (u : Bool) (l : List UInt8) : List UInt8 := if u then Lib.toUpperA l else l
theorem padL_zero (m z : Bool) (h s : List UInt8) : padL m z 0 h s = h ++ s := by
  have e : ((0 : Int) - h.length - s.length).toNat = 0 := by omega
  unfold padL
  rw [e]
  split
  · simp
  · split <;> simp
end Go.Proofs.YtfdnhkjeoeffoaaGreatDoor
