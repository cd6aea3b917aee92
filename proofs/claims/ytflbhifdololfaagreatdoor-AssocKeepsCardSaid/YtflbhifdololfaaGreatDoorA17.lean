/- AssocKeeps, walked: for the card. -/
import Derived.Test.YtflbhifdololfaaGreatDoorA15
import Derived.Test.YtflbhifdololfaaGreatDoorFD4
namespace Go.Proofs.YtflbhifdololfaaGreatDoor
open Go.RowKit
set_option linter.unusedVariables false
theorem keeps_w {v1 v2 : Value} (K V : List ByteArray) (gone : ByteArray) (W : World) (h1 : RowS W v1 K) (m1 : K.length ≤ maxLen) (h2 : RowS W v2 V) (m2 : V.length ≤ maxLen) (_ : gone.size ≤ 140737488351232) :
    Calls Tryz.prog 11 #[v1, v2, .string gone] W fun e w' => e = .returned (.bool true) ∧ Below W.heap.size W w' := keeps_any sorts_any gone h1 h2 m1 m2
end Go.Proofs.YtflbhifdololfaaGreatDoor
