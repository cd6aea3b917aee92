/- FormatBack, walked. -/
import Derived.Test.YtjldeckcfdeklaaGreatDoorW11
namespace Go.Proofs.YtjldeckcfdeklaaGreatDoor
open Go.RowKit
set_option linter.unusedVariables false

theorem back5_law (b : Nat) (m p bl al z : Bool) (wd pr : Int) (vb : Nat) (w : World) (hT : Tabs5 w) (hb : b < 18446744073709551616) (hvb : vb < 256) :
    Calls Tryz.prog 7 #[.int .u64 (b : Nat), .agg (specA m p bl al z wd pr vb)] w fun e w' => e = .returned (.bool true) ∧ Below w.heap.size w w' :=
  back5_any b m p bl al z wd pr vb w hT hb fun wc _ _ hf => back_read m p bl al z wc hb hf
end Go.Proofs.YtjldeckcfdeklaaGreatDoor
