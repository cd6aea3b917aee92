/- Package cal: At. -/
import Derived.Test.YtcipmfjefmjacaaGreatDoorC2
import Derived.Deep.RegionHeld3
namespace Go.Proofs.YtcipmfjefmjacaaGreatDoor
open Go.RowKit
set_option linter.unusedVariables false

@[go_sem] theorem run_six0 (a0 a1 a2 a3 a4 a5 : Int) (w : World) : (Instr.index 46 (.agg #[.int .i64 a0, .int .i64 a1, .int .i64 a2, .int .i64 a3, .int .i64 a4, .int .i64 a5]) (.int .i64 0)).run Tryz.prog w = .ok (.int .i64 a0) w := by kernel_rfl
@[go_sem] theorem run_six1 (a0 a1 a2 a3 a4 a5 : Int) (w : World) : (Instr.index 46 (.agg #[.int .i64 a0, .int .i64 a1, .int .i64 a2, .int .i64 a3, .int .i64 a4, .int .i64 a5]) (.int .i64 1)).run Tryz.prog w = .ok (.int .i64 a1) w := by kernel_rfl
@[go_sem] theorem run_six2 (a0 a1 a2 a3 a4 a5 : Int) (w : World) : (Instr.index 46 (.agg #[.int .i64 a0, .int .i64 a1, .int .i64 a2, .int .i64 a3, .int .i64 a4, .int .i64 a5]) (.int .i64 2)).run Tryz.prog w = .ok (.int .i64 a2) w := by kernel_rfl
@[go_sem] theorem run_six3 (a0 a1 a2 a3 a4 a5 : Int) (w : World) : (Instr.index 46 (.agg #[.int .i64 a0, .int .i64 a1, .int .i64 a2, .int .i64 a3, .int .i64 a4, .int .i64 a5]) (.int .i64 3)).run Tryz.prog w = .ok (.int .i64 a3) w := by kernel_rfl
@[go_sem] theorem run_six4 (a0 a1 a2 a3 a4 a5 : Int) (w : World) : (Instr.index 46 (.agg #[.int .i64 a0, .int .i64 a1, .int .i64 a2, .int .i64 a3, .int .i64 a4, .int .i64 a5]) (.int .i64 4)).run Tryz.prog w = .ok (.int .i64 a4) w := by kernel_rfl
@[go_sem] theorem run_six5 (a0 a1 a2 a3 a4 a5 : Int) (w : World) : (Instr.index 46 (.agg #[.int .i64 a0, .int .i64 a1, .int .i64 a2, .int .i64 a3, .int .i64 a4, .int .i64 a5]) (.int .i64 5)).run Tryz.prog w = .ok (.int .i64 a5) w := by kernel_rfl
/-- the time of a date -/
def atL (y mo da h mi s : Int) : Int := (beginL y mo + da - 1) * 86400 + h * 3600 + mi * 60 + s

set_option maxRecDepth 100000 in
set_option maxHeartbeats 4000000 in
theorem At_ok (y mo da h mi s wk yd : Int) (w : World) (hy1 : -1000000 ≤ y) (hy2 : y ≤ 1000000) (hmo1 : -1000000 ≤ mo) (hmo2 : mo ≤ 1000000) (hda1 : -1000000 ≤ da) (hda2 : da ≤ 1000000) (hh1 : -1000000 ≤ h) (hh2 : h ≤ 1000000) (hmi1 : -1000000 ≤ mi) (hmi2 : mi ≤ 1000000) (hs1 : -1000000 ≤ s) (hs2 : s ≤ 1000000)
    (ht1 : -62135596800 ≤ atL y mo da h mi s) (ht2 : atL y mo da h mi s ≤ 253402300799) :
    Calls Tryz.prog 12 #[dateV y mo da h mi s wk yd] w fun e w' => e = .returned (.tuple #[.int .i64 (atL y mo da h mi s), .int .i64 0]) ∧ Below w.heap.size w w' := by
  have B1 := Lib.hid (fun W => begin_any y mo W (by omega) (by omega) (by omega) (by omega))
  have hA : Hid (atL y mo da h mi s = (beginL y mo + da - 1) * 86400 + h * 3600 + mi * 60 + s) := rfl
  have b1 : -1000000000 ≤ beginL y mo := by unfold beginL daysL; omega
  have b2 : beginL y mo ≤ 1000000000 := by unfold beginL daysL; omega
  unfold atL at ht1 ht2
  generalize beginL y mo = bg at *
  generalize atL y mo da h mi s = A at *
  have hd : dateV y mo da h mi s wk yd = .agg #[.int .i64 y, .int .i64 mo, .int .i64 da, .int .i64 h, .int .i64 mi, .int .i64 s, .int .i64 wk, .int .i64 yd] := rfl
  rw [hd]
  clear hd
  go_enter Tryz.func12, Tryz.ntmps12
  go_wp2_with fail
  refine wp_loop_rounds 7 ?_
  rw [rounds_succ]
  go_wp2_with fail
  rw [rounds_succ]
  go_wp2_with fail
  rw [rounds_succ]
  go_wp2_with fail
  rw [rounds_succ]
  go_wp2_with fail
  rw [rounds_succ]
  go_wp2_with fail
  rw [rounds_succ]
  go_wp2_with fail
  rw [rounds_succ]
  go_wp2_with fail
  obtain ⟨W1, hW1⟩ : ∃ W1, W1 = w.alloc (.cells #[.int .i64 y, .int .i64 mo, .int .i64 da, .int .i64 h, .int .i64 mi, .int .i64 s, .int .i64 wk, .int .i64 yd] 23) := ⟨_, rfl⟩
  rw [← hW1]
  have b3 : W1.cell? ⟨w.heap.size, 0, none⟩ = some (.int .i64 y) := by rw [hW1, World.cell?_alloc_new]; rfl
  have b4 : W1.cell? ⟨w.heap.size, 1, none⟩ = some (.int .i64 mo) := by rw [hW1, World.cell?_alloc_new]; rfl
  have b5 : W1.cell? ⟨w.heap.size, 2, none⟩ = some (.int .i64 da) := by rw [hW1, World.cell?_alloc_new]; rfl
  have b6 : W1.cell? ⟨w.heap.size, 3, none⟩ = some (.int .i64 h) := by rw [hW1, World.cell?_alloc_new]; rfl
  have b7 : W1.cell? ⟨w.heap.size, 4, none⟩ = some (.int .i64 mi) := by rw [hW1, World.cell?_alloc_new]; rfl
  have b8 : W1.cell? ⟨w.heap.size, 5, none⟩ = some (.int .i64 s) := by rw [hW1, World.cell?_alloc_new]; rfl
  have HBW : Hid (Below w.heap.size w W1) := by show Below _ _ _; rw [hW1]; exact (Below.refl _ _).alloc (Nat.le_refl _) _
  clear hW1
  go_region_held3 (fun w' => w'.cell? ⟨w.heap.size, 0, none⟩ = some (.int .i64 y) ∧ w'.cell? ⟨w.heap.size, 1, none⟩ = some (.int .i64 mo) ∧ w'.cell? ⟨w.heap.size, 2, none⟩ = some (.int .i64 da) ∧ w'.cell? ⟨w.heap.size, 3, none⟩ = some (.int .i64 h) ∧ w'.cell? ⟨w.heap.size, 4, none⟩ = some (.int .i64 mi) ∧ w'.cell? ⟨w.heap.size, 5, none⟩ = some (.int .i64 s))
    (exact ⟨b3, b4, b5, b6, b7, b8⟩)
    (first | (go_at_call 19; refine (B1.out _).mono ?_; rintro e _ ⟨rfl, rfl⟩))
  have w1 : IntKind.i64.wrap (bg + da) = bg + da := by rw [IntKind.wrap_i64]; omega
  have w2 : IntKind.i64.wrap (bg + da - 1) = bg + da - 1 := by rw [IntKind.wrap_i64]; omega
  have w3 : IntKind.i64.wrap ((bg + da - 1) * 86400) = (bg + da - 1) * 86400 := by rw [IntKind.wrap_i64]; omega
  have w4 : IntKind.i64.wrap (h * 3600) = h * 3600 := by rw [IntKind.wrap_i64]; omega
  have w5 : IntKind.i64.wrap (mi * 60) = mi * 60 := by rw [IntKind.wrap_i64]; omega
  have w6 : IntKind.i64.wrap ((bg + da - 1) * 86400 + h * 3600) = (bg + da - 1) * 86400 + h * 3600 := by rw [IntKind.wrap_i64]; omega
  have w7 : IntKind.i64.wrap ((bg + da - 1) * 86400 + h * 3600 + mi * 60) = (bg + da - 1) * 86400 + h * 3600 + mi * 60 := by rw [IntKind.wrap_i64]; omega
  have w8 : IntKind.i64.wrap ((bg + da - 1) * 86400 + h * 3600 + mi * 60 + s) = (bg + da - 1) * 86400 + h * 3600 + mi * 60 + s := by rw [IntKind.wrap_i64]; omega
  rw [w1, w2, w3, w4, w5, w6, w7, w8]
  clear w1 w2 w3 w4 w5 w6 w7 w8
  go_wp2_with fail
  go_ret2
  refine ⟨by rw [hA.out]; rfl, ?_⟩
  repeat (first | exact HBW.out | refine Below.drew ?_)
end Go.Proofs.YtcipmfjefmjacaaGreatDoor
