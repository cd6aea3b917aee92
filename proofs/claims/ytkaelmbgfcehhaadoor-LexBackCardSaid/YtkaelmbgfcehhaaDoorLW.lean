/- The world of the witnesses: the settled one, the two listed tables of unicode/utf8 holding what the rows list. -/
import Derived.Test.YtkaelmbgfcehhaaDoorCards
import Derived.Test.YtkaelmbgfcehhaaDoorTie
import Derived.WalkKit
import Derived.ProofKit
import Derived.OpenShut
import Derived.ShutString
import Derived.Deep.DeepHandedRow
import Derived.Deep.DeepLaidRun
set_option linter.unusedVariables false
set_option linter.unusedSimpArgs false
namespace Go.Proofs.YtkaelmbgfcehhaaDoor
open Go.ChangeShapes Go.WideShapes Go.ChangeAt Go.RowKit

theorem own : ownKnob Tryd.prog.godebug = none := by kernel_rfl
/-- the numbers of a datum, one behind the other -/
def flatU (d : DataW Unit) : List Value := match d with
  | .agg l => l.flatMap fun x => match x with
    | .lit (.int k z) => [.int k z]
    | .agg m => m.filterMap fun y => match y with
      | .lit (.int k z) => some (.int k z)
      | _ => none
    | _ => []
  | _ => []
def putCells (c : Array Value) : Obj → Obj
  | .cells _ t frozen => .cells c t frozen
  | o => o
noncomputable def laidWorld (os : Os) : World :=
  { World.holding Tryd.prog os ⟨#[], #[], []⟩ with
    heap := ((World.holding Tryd.prog os ⟨#[], #[], []⟩).heap.modify 3 (putCells (flatU Rows.laid_unicode_utf8_acceptRanges).toArray)).modify 2 (putCells (flatU Rows.laid_unicode_utf8_first).toArray) }
theorem wf_u64 {n : Int} (h : (Lit.int .u64 n).wf = true) : 0 ≤ n ∧ n < 18446744073709551616 := by
  have h2 : (decide (IntKind.u64.min ≤ n) && decide (n ≤ IntKind.u64.max)) = true := h
  rw [Bool.and_eq_true, decide_eq_true_eq, decide_eq_true_eq, show IntKind.u64.min = 0 by decide, show IntKind.u64.max = 18446744073709551615 by decide] at h2
  omega
theorem wf_i64 {n : Int} (h : (Lit.int .i64 n).wf = true) : -9223372036854775808 ≤ n ∧ n ≤ 9223372036854775807 := by
  have h2 : (decide (IntKind.i64.min ≤ n) && decide (n ≤ IntKind.i64.max)) = true := h
  rw [Bool.and_eq_true, decide_eq_true_eq, decide_eq_true_eq, show IntKind.i64.min = -9223372036854775808 by decide, show IntKind.i64.max = 9223372036854775807 by decide] at h2
  omega
end Go.Proofs.YtkaelmbgfcehhaaDoor
