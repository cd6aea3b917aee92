/- Package nat: Text of 0; Div as a whole. -/
import Derived.Test.YtcipmfjefmjacaaGreatDoorN13
namespace Go.Proofs.YtcipmfjefmjacaaGreatDoor
open Go.RowKit
set_option linter.unusedVariables false

theorem Div_any (va vb : Value) (x y : Nat) (w : World) (hx : NatV w va x) (hy : NatV w vb y) (hX : (limbs x).length ≤ 256) (hY : (limbs y).length ≤ 256) (hy0 : 0 < y) :
    Calls Tryz.prog 105 #[va, vb] w fun e w' => ∃ q r, e = .returned (.tuple #[q, r, .int .i64 0]) ∧ NatV w' q (x / y) ∧ NatV w' r (x % y) ∧ Below w.heap.size w w' := by
  have h1 : (limbs y).length ≠ 0 := fun h => by
    have := limbs_eq_nil.1 (List.eq_nil_of_length_eq_zero h); omega
  rcases Nat.lt_or_ge 1 (limbs y).length with h | h
  · exact Div_long va vb x y w hx hy hX hY h
  · exact Div_small va vb x y w hx hy hX (by omega)
end Go.Proofs.YtcipmfjefmjacaaGreatDoor
