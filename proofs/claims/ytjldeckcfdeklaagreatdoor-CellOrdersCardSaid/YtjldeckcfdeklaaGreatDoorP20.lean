/- The law's made. -/
import Derived.Test.YtjldeckcfdeklaaGreatDoorP19
import Derived.Test.YtjldeckcfdeklaaGreatDoorP10
namespace Go.Proofs.YtjldeckcfdeklaaGreatDoor
open Go.RowKit
set_option linter.unusedVariables false

/-- a value as the law's numbers say it -/
def oneA (k : Int) (x : Nat) (s : ByteArray) : Array Value := #[.int .i64 k, .int .u64 (x : Int), .string s]
set_option maxHeartbeats 8000000 in
set_option maxRecDepth 1000000 in
theorem made_any (k : Int) (x : Nat) (s : ByteArray) (w : World) (hx : x < 18446744073709551616) : Calls Tryz.prog 26 #[.agg (oneA k x s)] w fun e w' => e = .returned (.agg (cellA k x s)) ∧ Below w.heap.size w w' := by
  unfold oneA cellA
  go_enter Tryz.func26, Tryz.ntmps26
  go_wp2_with fail
  go_region
  go_wp2_with fail
  exact bodyPost_ret (v := .agg #[.int .i64 k, .float .f64 x, .string s]) (by simp [results, Tryz.results26, go_sem]) rfl ⟨rfl, (((Below.refl _ _).alloc (Nat.le_refl _) _).alloc (by simp) _).drew⟩
end Go.Proofs.YtjldeckcfdeklaaGreatDoor
