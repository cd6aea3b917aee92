/- PrintfTexts, walked. -/
import Derived.Test.YtfdnhkjeoeffoaaGreatDoorM11
import Derived.Test.YtfdnhkjeoeffoaaGreatDoorZ3D
set_option linter.unusedVariables false
set_option linter.unusedSimpArgs false
namespace Go.Proofs.YtfdnhkjeoeffoaaGreatDoor
open Go.RowKit
set_option linter.unusedVariables false

theorem flat_app (a b : ByteArray) : (a ++ b).data.toList = a.data.toList ++ b.data.toList := by simp
end Go.Proofs.YtfdnhkjeoeffoaaGreatDoor
