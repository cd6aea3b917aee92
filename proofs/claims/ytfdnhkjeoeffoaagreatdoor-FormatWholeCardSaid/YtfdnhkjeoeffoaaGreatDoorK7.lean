/- Package num: build. -/
import Derived.Test.YtfdnhkjeoeffoaaGreatDoorM5
namespace Go.Proofs.YtfdnhkjeoeffoaaGreatDoor
open Go.RowKit
set_option linter.unusedVariables false

end Go.Proofs.YtfdnhkjeoeffoaaGreatDoor
