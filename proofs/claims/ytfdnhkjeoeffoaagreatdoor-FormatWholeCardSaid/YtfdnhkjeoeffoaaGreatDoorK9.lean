/- Plain: a natural as a float is the nearest one. -/
import Derived.Test.YtfdnhkjeoeffoaaGreatDoorK8
namespace Go.Proofs.YtfdnhkjeoeffoaaGreatDoor
open Go
set_option linter.unusedVariables false

end Go.Proofs.YtfdnhkjeoeffoaaGreatDoor
