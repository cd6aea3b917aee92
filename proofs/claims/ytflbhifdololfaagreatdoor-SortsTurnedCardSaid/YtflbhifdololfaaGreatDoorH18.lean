/- SortsTurned, walked: for the card. -/
import Derived.Test.YtflbhifdololfaaGreatDoorH17
import Derived.Test.YtflbhifdololfaaGreatDoorFD5
namespace Go.Proofs.YtflbhifdololfaaGreatDoor
open Go.RowKit
set_option linter.unusedVariables false
theorem turned_w (L : List En) (t : Bool) {a : Option Addr} {n c : Nat} (W : World) (hL : ItemsR W a n L) (hn : n ≤ maxLen) (hOk : ∀ e ∈ L, e.Ok) : Calls Tryz.prog 8 #[.slice a n c, .bool t] W fun e w' => e = .returned (.bool true) ∧ Below W.heap.size W w' :=
  turned_any t hL hn hOk
end Go.Proofs.YtflbhifdololfaaGreatDoor
