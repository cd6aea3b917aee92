/- The contract of slices.Reverse at bytes, laid at this dump. -/
import Derived.Ground.SlgnProg
import Derived.Shelf.SlicesE.Reverse
import Derived.Test.YtkaelmbgfcehhaaDoorProg
namespace Go.Proofs
open Go.Shelf
end Go.Proofs
