/- Package cal: At of any date. -/
import Derived.Test.YtcipmfjefmjacaaGreatDoorC17
namespace Go.Proofs.YtcipmfjefmjacaaGreatDoor
open Go.RowKit
set_option linter.unusedVariables false

/-- is a number of a date within its bounds? -/
def okN (v : Int) : Prop := -1000000 ≤ v ∧ v ≤ 1000000
/-- are all six? -/
def okSix (y mo da h mi s : Int) : Prop := okN y ∧ okN mo ∧ okN da ∧ okN h ∧ okN mi ∧ okN s
theorem not_ok {v : Int} (h : ¬ okN v) : v < -1000000 ∨ 1000000 < v := by unfold okN at h; omega

set_option maxRecDepth 100000 in
set_option maxHeartbeats 8000000 in
theorem At_out (y mo da h mi s wk yd : Int) (w : World) (hno : ¬ okSix y mo da h mi s) :
    Calls Tryz.prog 12 #[dateV y mo da h mi s wk yd] w fun e w' => e = .returned (.tuple #[.int .i64 0, .int .i64 1]) ∧ Below w.heap.size w w' := by
  have HNo := Lib.hid hno
  have hd : dateV y mo da h mi s wk yd = .agg #[.int .i64 y, .int .i64 mo, .int .i64 da, .int .i64 h, .int .i64 mi, .int .i64 s, .int .i64 wk, .int .i64 yd] := rfl
  rw [hd]
  clear hd hno
  go_enter Tryz.func12, Tryz.ntmps12
  go_wp2_with fail
  refine wp_loop_rounds 7 ?_
  rw [rounds_succ]
  by_cases c0 : okN y
  rotate_left
  · rcases not_ok c0 with q | q
    · clear c0
      go_wp2_with fail
      go_ret2
      exact ⟨rfl, (Below.refl _ _).alloc (Nat.le_refl _) _⟩
    · have q2 : -1000000 ≤ y := by omega
      clear c0
      go_wp2_with fail
      go_ret2
      exact ⟨rfl, (Below.refl _ _).alloc (Nat.le_refl _) _⟩
  obtain ⟨l0, u0⟩ := c0
  go_wp2_with fail
  rw [rounds_succ]
  by_cases c1 : okN mo
  rotate_left
  · rcases not_ok c1 with q | q
    · clear c1
      go_wp2_with fail
      go_ret2
      exact ⟨rfl, (Below.refl _ _).alloc (Nat.le_refl _) _⟩
    · have q2 : -1000000 ≤ mo := by omega
      clear c1
      go_wp2_with fail
      go_ret2
      exact ⟨rfl, (Below.refl _ _).alloc (Nat.le_refl _) _⟩
  obtain ⟨l1, u1⟩ := c1
  go_wp2_with fail
  rw [rounds_succ]
  by_cases c2 : okN da
  rotate_left
  · rcases not_ok c2 with q | q
    · clear c2
      go_wp2_with fail
      go_ret2
      exact ⟨rfl, (Below.refl _ _).alloc (Nat.le_refl _) _⟩
    · have q2 : -1000000 ≤ da := by omega
      clear c2
      go_wp2_with fail
      go_ret2
      exact ⟨rfl, (Below.refl _ _).alloc (Nat.le_refl _) _⟩
  obtain ⟨l2, u2⟩ := c2
  go_wp2_with fail
  rw [rounds_succ]
  by_cases c3 : okN h
  rotate_left
  · rcases not_ok c3 with q | q
    · clear c3
      go_wp2_with fail
      go_ret2
      exact ⟨rfl, (Below.refl _ _).alloc (Nat.le_refl _) _⟩
    · have q2 : -1000000 ≤ h := by omega
      clear c3
      go_wp2_with fail
      go_ret2
      exact ⟨rfl, (Below.refl _ _).alloc (Nat.le_refl _) _⟩
  obtain ⟨l3, u3⟩ := c3
  go_wp2_with fail
  rw [rounds_succ]
  by_cases c4 : okN mi
  rotate_left
  · rcases not_ok c4 with q | q
    · clear c4
      go_wp2_with fail
      go_ret2
      exact ⟨rfl, (Below.refl _ _).alloc (Nat.le_refl _) _⟩
    · have q2 : -1000000 ≤ mi := by omega
      clear c4
      go_wp2_with fail
      go_ret2
      exact ⟨rfl, (Below.refl _ _).alloc (Nat.le_refl _) _⟩
  obtain ⟨l4, u4⟩ := c4
  go_wp2_with fail
  rw [rounds_succ]
  by_cases c5 : okN s
  rotate_left
  · rcases not_ok c5 with q | q
    · clear c5
      go_wp2_with fail
      go_ret2
      exact ⟨rfl, (Below.refl _ _).alloc (Nat.le_refl _) _⟩
    · have q2 : -1000000 ≤ s := by omega
      clear c5
      go_wp2_with fail
      go_ret2
      exact ⟨rfl, (Below.refl _ _).alloc (Nat.le_refl _) _⟩
  obtain ⟨l5, u5⟩ := c5
  go_wp2_with fail
  exact absurd ⟨⟨l0, u0⟩, ⟨l1, u1⟩, ⟨l2, u2⟩, ⟨l3, u3⟩, ⟨l4, u4⟩, ⟨l5, u5⟩⟩ HNo.out

set_option maxRecDepth 100000 in
set_option maxHeartbeats 4000000 in
theorem At_late (y mo da h mi s wk yd : Int) (w : World) (hy1 : -1000000 ≤ y) (hy2 : y ≤ 1000000) (hmo1 : -1000000 ≤ mo) (hmo2 : mo ≤ 1000000) (hda1 : -1000000 ≤ da) (hda2 : da ≤ 1000000) (hh1 : -1000000 ≤ h) (hh2 : h ≤ 1000000) (hmi1 : -1000000 ≤ mi) (hmi2 : mi ≤ 1000000) (hs1 : -1000000 ≤ s) (hs2 : s ≤ 1000000)
    (ht : atL y mo da h mi s < -62135596800 ∨ 253402300799 < atL y mo da h mi s) :
    Calls Tryz.prog 12 #[dateV y mo da h mi s wk yd] w fun e w' => e = .returned (.tuple #[.int .i64 0, .int .i64 1]) ∧ Below w.heap.size w w' := by
  have B1 := Lib.hid (fun W => begin_any y mo W (by omega) (by omega) (by omega) (by omega))
  have hA : Hid (atL y mo da h mi s = (beginL y mo + da - 1) * 86400 + h * 3600 + mi * 60 + s) := rfl
  have b1 : -1000000000 ≤ beginL y mo := by unfold beginL daysL; omega
  have b2 : beginL y mo ≤ 1000000000 := by unfold beginL daysL; omega
  unfold atL at ht
  generalize beginL y mo = bg at *
  clear hA
  have hd : dateV y mo da h mi s wk yd = .agg #[.int .i64 y, .int .i64 mo, .int .i64 da, .int .i64 h, .int .i64 mi, .int .i64 s, .int .i64 wk, .int .i64 yd] := rfl
  rw [hd]
  clear hd
  go_enter Tryz.func12, Tryz.ntmps12
  go_wp2_with fail
  refine wp_loop_rounds 7 ?_
  rw [rounds_succ]
  go_wp2_with fail
  rw [rounds_succ]
  go_wp2_with fail
  rw [rounds_succ]
  go_wp2_with fail
  rw [rounds_succ]
  go_wp2_with fail
  rw [rounds_succ]
  go_wp2_with fail
  rw [rounds_succ]
  go_wp2_with fail
  rw [rounds_succ]
  go_wp2_with fail
  obtain ⟨W1, hW1⟩ : ∃ W1, W1 = w.alloc (.cells #[.int .i64 y, .int .i64 mo, .int .i64 da, .int .i64 h, .int .i64 mi, .int .i64 s, .int .i64 wk, .int .i64 yd] 23) := ⟨_, rfl⟩
  rw [← hW1]
  have b3 : W1.cell? ⟨w.heap.size, 0, none⟩ = some (.int .i64 y) := by rw [hW1, World.cell?_alloc_new]; rfl
  have b4 : W1.cell? ⟨w.heap.size, 1, none⟩ = some (.int .i64 mo) := by rw [hW1, World.cell?_alloc_new]; rfl
  have b5 : W1.cell? ⟨w.heap.size, 2, none⟩ = some (.int .i64 da) := by rw [hW1, World.cell?_alloc_new]; rfl
  have b6 : W1.cell? ⟨w.heap.size, 3, none⟩ = some (.int .i64 h) := by rw [hW1, World.cell?_alloc_new]; rfl
  have b7 : W1.cell? ⟨w.heap.size, 4, none⟩ = some (.int .i64 mi) := by rw [hW1, World.cell?_alloc_new]; rfl
  have b8 : W1.cell? ⟨w.heap.size, 5, none⟩ = some (.int .i64 s) := by rw [hW1, World.cell?_alloc_new]; rfl
  have HBW : Hid (Below w.heap.size w W1) := by show Below _ _ _; rw [hW1]; exact (Below.refl _ _).alloc (Nat.le_refl _) _
  clear hW1
  go_region_held3 (fun w' => w'.cell? ⟨w.heap.size, 0, none⟩ = some (.int .i64 y) ∧ w'.cell? ⟨w.heap.size, 1, none⟩ = some (.int .i64 mo) ∧ w'.cell? ⟨w.heap.size, 2, none⟩ = some (.int .i64 da) ∧ w'.cell? ⟨w.heap.size, 3, none⟩ = some (.int .i64 h) ∧ w'.cell? ⟨w.heap.size, 4, none⟩ = some (.int .i64 mi) ∧ w'.cell? ⟨w.heap.size, 5, none⟩ = some (.int .i64 s))
    (exact ⟨b3, b4, b5, b6, b7, b8⟩)
    (first | (go_at_call 19; refine (B1.out _).mono ?_; rintro e _ ⟨rfl, rfl⟩))
  have w1 : IntKind.i64.wrap (bg + da) = bg + da := by rw [IntKind.wrap_i64]; omega
  have w2 : IntKind.i64.wrap (bg + da - 1) = bg + da - 1 := by rw [IntKind.wrap_i64]; omega
  have w3 : IntKind.i64.wrap ((bg + da - 1) * 86400) = (bg + da - 1) * 86400 := by rw [IntKind.wrap_i64]; omega
  have w4 : IntKind.i64.wrap (h * 3600) = h * 3600 := by rw [IntKind.wrap_i64]; omega
  have w5 : IntKind.i64.wrap (mi * 60) = mi * 60 := by rw [IntKind.wrap_i64]; omega
  have w6 : IntKind.i64.wrap ((bg + da - 1) * 86400 + h * 3600) = (bg + da - 1) * 86400 + h * 3600 := by rw [IntKind.wrap_i64]; omega
  have w7 : IntKind.i64.wrap ((bg + da - 1) * 86400 + h * 3600 + mi * 60) = (bg + da - 1) * 86400 + h * 3600 + mi * 60 := by rw [IntKind.wrap_i64]; omega
  have w8 : IntKind.i64.wrap ((bg + da - 1) * 86400 + h * 3600 + mi * 60 + s) = (bg + da - 1) * 86400 + h * 3600 + mi * 60 + s := by rw [IntKind.wrap_i64]; omega
  rw [w1, w2, w3, w4, w5, w6, w7, w8]
  clear w1 w2 w3 w4 w5 w6 w7 w8
  rcases ht with ht | ht
  · go_wp2_with fail
    go_ret2
    refine ⟨rfl, ?_⟩
    repeat (first | exact HBW.out | refine Below.drew ?_)
  · have ht3 : -62135596800 ≤ (bg + da - 1) * 86400 + h * 3600 + mi * 60 + s := by omega
    go_wp2_with fail
    go_ret2
    refine ⟨rfl, ?_⟩
    repeat (first | exact HBW.out | refine Below.drew ?_)
end Go.Proofs.YtcipmfjefmjacaaGreatDoor
