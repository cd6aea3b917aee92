/- Package cal: div, days, begin. -/
import Derived.Test.YtcipmfjefmjacaaGreatDoorG1
import Derived.StillTailTactics
import Derived.BigRegion
namespace Go.Proofs.YtcipmfjefmjacaaGreatDoor
open Go.RowKit
set_option linter.unusedVariables false

theorem floor_of {a b : Int} (hb : 0 < b) : (if a.tmod b < 0 then a.tdiv b - 1 else a.tdiv b) = a / b ∧ (if a.tmod b < 0 then a.tmod b + b else a.tmod b) = a % b := by
  have h1 := Int.tmod_add_mul_tdiv a b
  have h2 : a.tmod b < b := Int.tmod_lt_of_pos a hb
  have h3 : -b < a.tmod b := by
    have h4 : (a.tmod b).natAbs < b.natAbs := by
      rw [Int.natAbs_tmod]; exact Nat.mod_lt _ (by omega)
    omega
  generalize a.tmod b = r at *
  generalize a.tdiv b = q at *
  by_cases hr : r < 0
  · rw [if_pos hr, if_pos hr]
    have := (Int.ediv_emod_unique (a := a) (r := r + b) (q := q - 1) hb).2 ⟨by rw [Int.mul_sub, Int.mul_one]; omega, by omega, by omega⟩
    exact ⟨this.1.symm, this.2.symm⟩
  · rw [if_neg hr, if_neg hr]
    have := (Int.ediv_emod_unique (a := a) (r := r) (q := q) hb).2 ⟨h1, by omega, by omega⟩
    exact ⟨this.1.symm, this.2.symm⟩

set_option maxRecDepth 100000 in
set_option maxHeartbeats 2000000 in
theorem div_any (a b : Int) (w : World) (hb : 0 < b) (ha1 : -4000000000000000000 ≤ a) (ha2 : a ≤ 4000000000000000000) (hb2 : b ≤ 1000000) :
    Calls Tryz.prog 18 #[.int .i64 a, .int .i64 b] w fun e w' => e = .returned (.tuple #[.int .i64 (a / b), .int .i64 (a % b)]) ∧ w' = w.drew := by
  obtain ⟨f1, f2⟩ := floor_of (a := a) hb
  have h2 : a.tmod b < b := Int.tmod_lt_of_pos a hb
  have h3 : -b < a.tmod b := by
    have h4 : (a.tmod b).natAbs < b.natAbs := by
      rw [Int.natAbs_tmod]; exact Nat.mod_lt _ (by omega)
    omega
  have h5 : (a.tdiv b).natAbs ≤ a.natAbs := by rw [Int.natAbs_tdiv]; exact Nat.div_le_self _ _
  obtain ⟨q, hq⟩ : ∃ q, a.tdiv b = q := ⟨_, rfl⟩
  obtain ⟨r, hr⟩ : ∃ r, a.tmod b = r := ⟨_, rfl⟩
  rw [hq, hr] at f1
  rw [hr] at f2
  rw [hq] at h5
  rw [hr] at h2 h3
  have F1 := Lib.hid f1
  have F2 := Lib.hid f2
  have q1 : -4000000000000000000 ≤ q := by omega
  have q2 : q ≤ 4000000000000000000 := by omega
  have hb0 : b ≠ 0 := by omega
  clear f1 f2 h5
  go_enter Tryz.func18, Tryz.ntmps18
  go_wp2_with fail
  go_region
  rcases Int.lt_or_le r 0 with hr0 | hr0
  · go_wp2_with fail
    go_ret2
    have e1 := F1.out
    have e2 := F2.out
    rw [if_pos hr0] at e1 e2
    exact ⟨by rw [e1, e2]; rfl, rfl⟩
  · go_wp2_with fail
    go_ret2
    have e1 := F1.out
    have e2 := F2.out
    rw [if_neg (by omega)] at e1 e2
    exact ⟨by rw [e1, e2]; rfl, rfl⟩

/-- the days from the first of March of the year 0 to a month's first -/
def daysL (y m : Int) : Int := 365 * y + y / 4 - y / 100 + y / 400 + (153 * m + 2) / 5
/-- the days from 1970-01-01 to a month's first day -/
def beginL (y m : Int) : Int := daysL (y + (m - 3) / 12) ((m - 3) % 12) - 719468

set_option maxRecDepth 100000 in
set_option maxHeartbeats 2000000 in
theorem days_any (y m : Int) (w : World) (hy1 : -10000000000 ≤ y) (hy2 : y ≤ 10000000000) (hm1 : 0 ≤ m) (hm2 : m ≤ 11) :
    Calls Tryz.prog 31 #[.int .i64 y, .int .i64 m] w fun e w' => e = .returned (.int .i64 (daysL y m)) ∧ w' = w.drew.drew.drew := by
  have D1 := Lib.hid (fun W => div_any y 4 W (by decide) (by omega) (by omega) (by decide))
  have D2 := Lib.hid (fun W => div_any y 100 W (by decide) (by omega) (by omega) (by decide))
  have D3 := Lib.hid (fun W => div_any y 400 W (by decide) (by omega) (by omega) (by decide))
  have hD : Hid (daysL y m = 365 * y + y / 4 - y / 100 + y / 400 + (153 * m + 2) / 5) := rfl
  obtain ⟨q1, h1⟩ : ∃ q, q = y / 4 := ⟨_, rfl⟩
  obtain ⟨q2, h2⟩ : ∃ q, q = y / 100 := ⟨_, rfl⟩
  obtain ⟨q3, h3⟩ : ∃ q, q = y / 400 := ⟨_, rfl⟩
  obtain ⟨q4, h4⟩ : ∃ q, q = (153 * m + 2) / 5 := ⟨_, rfl⟩
  have b1 : -10000000000 ≤ q1 ∧ q1 ≤ 10000000000 := by omega
  have b2 : -10000000000 ≤ q2 ∧ q2 ≤ 10000000000 := by omega
  have b3 : -10000000000 ≤ q3 ∧ q3 ≤ 10000000000 := by omega
  have b4 : 0 ≤ q4 ∧ q4 ≤ 1000 := by omega
  have e4 : (153 * m + 2).tdiv 5 = q4 := by rw [Int.tdiv_eq_ediv_of_nonneg (by omega), h4]
  rw [← h1, ← h2, ← h3, ← h4] at hD
  rw [← h1] at D1
  rw [← h2] at D2
  rw [← h3] at D3
  obtain ⟨b11, b12⟩ := b1
  obtain ⟨b21, b22⟩ := b2
  obtain ⟨b31, b32⟩ := b3
  obtain ⟨b41, b42⟩ := b4
  have H4 : Hid (q4 = (153 * m + 2) / 5) := h4
  clear h1 h2 h3 h4
  go_enter Tryz.func31, Tryz.ntmps31
  go_wp2_with fail
  refine (D1.out _).mono ?_
  rintro e _ ⟨rfl, rfl⟩
  go_wp2_with fail
  refine (D2.out _).mono ?_
  rintro e _ ⟨rfl, rfl⟩
  go_wp2_with fail
  refine (D3.out _).mono ?_
  rintro e _ ⟨rfl, rfl⟩
  go_wp2_with fail
  go_ret
  refine ⟨?_, rfl⟩
  rw [hD.out]
  rfl

set_option maxRecDepth 100000 in
set_option maxHeartbeats 2000000 in
theorem begin_any (y m : Int) (w : World) (hy1 : -1000000000 ≤ y) (hy2 : y ≤ 1000000000) (hm1 : -1000000000 ≤ m) (hm2 : m ≤ 1000000000) :
    Calls Tryz.prog 19 #[.int .i64 y, .int .i64 m] w fun e w' => e = .returned (.int .i64 (beginL y m)) ∧ w' = w.drew.drew.drew.drew := by
  have D1 := Lib.hid (fun W => div_any (m - 3) 12 W (by decide) (by omega) (by omega) (by decide))
  have D2 := Lib.hid (fun W => days_any (y + (m - 3) / 12) ((m - 3) % 12) W (by omega) (by omega) (by omega) (by omega))
  have hB : Hid (beginL y m = daysL (y + (m - 3) / 12) ((m - 3) % 12) - 719468) := rfl
  obtain ⟨q1, h1⟩ : ∃ q, q = (m - 3) / 12 := ⟨_, rfl⟩
  obtain ⟨q2, h2⟩ : ∃ q, q = (m - 3) % 12 := ⟨_, rfl⟩
  have b1 : -1000000000 ≤ q1 := by omega
  have b2 : q1 ≤ 1000000000 := by omega
  have b3 : 0 ≤ q2 := by omega
  have b4 : q2 ≤ 11 := by omega
  rw [← h1, ← h2] at hB D1 D2
  have b5 : -1000000000000 ≤ daysL (y + q1) q2 := by unfold daysL; omega
  have b6 : daysL (y + q1) q2 ≤ 1000000000000 := by unfold daysL; omega
  generalize daysL (y + q1) q2 = d at *
  clear h1 h2
  go_enter Tryz.func19, Tryz.ntmps19
  go_wp2_with fail
  refine (D1.out _).mono ?_
  rintro e _ ⟨rfl, rfl⟩
  go_wp2_with fail
  refine (D2.out _).mono ?_
  rintro e _ ⟨rfl, rfl⟩
  go_wp2_with fail
  go_ret
  refine ⟨?_, rfl⟩
  rw [hB.out]
  rfl
end Go.Proofs.YtcipmfjefmjacaaGreatDoor
