/- Package ref13: leap, length, year: the differences of begin. -/
import Derived.Test.YtcipmfjefmjacaaGreatDoorC11
namespace Go.Proofs.YtcipmfjefmjacaaGreatDoor
open Go.RowKit
set_option linter.unusedVariables false

/-- has a year 366 days? -/
def leapL (y : Int) : Bool := decide (y % 4 = 0 ∧ (y % 100 ≠ 0 ∨ y % 400 = 0))
theorem tmod_zero (y k : Int) : (y.tmod k == 0) = decide (y % k = 0) := by
  by_cases h : y % k = 0
  · have h2 : y.tmod k = 0 := Int.tmod_eq_zero_of_dvd (Int.dvd_of_emod_eq_zero h)
    rw [decide_eq_true h, h2]; rfl
  · have h2 : y.tmod k ≠ 0 := fun h3 => h (Int.emod_eq_zero_of_dvd (Int.dvd_of_tmod_eq_zero h3))
    rw [decide_eq_false h, beq_eq_false_iff_ne.2 h2]
theorem leap_any (y : Int) (w : World) : Calls Tryz.prog 32 #[.int .i64 y] w fun e w' => e = .returned (.bool (leapL y)) ∧ w = w' := by
  have h4 := tmod_zero y 4
  have h100 := tmod_zero y 100
  have h400 := tmod_zero y 400
  obtain ⟨a, ha⟩ : ∃ a, a = y.tmod 4 := ⟨_, rfl⟩
  obtain ⟨b, hb⟩ : ∃ b, b = y.tmod 100 := ⟨_, rfl⟩
  obtain ⟨c, hc⟩ : ∃ c, c = y.tmod 400 := ⟨_, rfl⟩
  have ea : y.tmod 4 = a := ha.symm
  have eb : y.tmod 100 = b := hb.symm
  have ec : y.tmod 400 = c := hc.symm
  rw [ea] at h4
  rw [eb] at h100
  rw [ec] at h400
  have hL : Hid (leapL y = (decide (y % 4 = 0) && (!(decide (y % 100 = 0)) || decide (y % 400 = 0)))) := by
    show _ = _
    unfold leapL
    by_cases q1 : y % 4 = 0 <;> by_cases q2 : y % 100 = 0 <;> by_cases q3 : y % 400 = 0 <;> simp [q1, q2, q3]
  rw [← h4, ← h100, ← h400] at hL
  clear ha hb hc h4 h100 h400
  generalize leapL y = L at *
  go_enter Tryz.func32, Tryz.ntmps32
  rcases q1 : (a == 0) with _ | _
  · have hL2 := hL.out
    rw [q1] at hL2
    simp only [Bool.false_and] at hL2
    subst hL2
    clear hL
    go_wp2_with fail
    go_ret
    exact ⟨rfl, rfl⟩
  · rcases q2 : (b == 0) with _ | _
    · have hL2 := hL.out
      rw [q1, q2] at hL2
      simp only [Bool.true_and, Bool.not_false, Bool.true_or] at hL2
      subst hL2
      clear hL
      have q2' : (b != 0) = true := by unfold bne; rw [q2]; rfl
      go_wp2_with fail
      go_ret
      exact ⟨rfl, rfl⟩
    · have hL2 := hL.out
      rw [q1, q2] at hL2
      simp only [Bool.true_and, Bool.not_true, Bool.false_or] at hL2
      have q2' : (b != 0) = false := by unfold bne; rw [q2]; rfl
      have HL2 := Lib.hid hL2
      clear hL hL2
      go_wp2_with fail
      go_ret
      exact ⟨by rw [HL2.out]; rfl, rfl⟩

/-- the days of a year, and of a month -/
def yearL (y : Int) : Int := if leapL y = true then 366 else 365
def lenL (y m : Int) : Int := if m = 2 then (if leapL y = true then 29 else 28) else if m = 4 ∨ m = 6 ∨ m = 9 ∨ m = 11 then 30 else 31
theorem yearL_eq (y : Int) : beginL (y + 1) 1 - beginL y 1 = yearL y := by
  unfold yearL leapL beginL daysL
  by_cases h : y % 4 = 0 ∧ (y % 100 ≠ 0 ∨ y % 400 = 0)
  · rw [decide_eq_true h, if_pos rfl]; omega
  · rw [decide_eq_false h, if_neg (by decide)]; omega
theorem feb (y : Int) : beginL y 3 - beginL y 2 = if leapL y = true then 29 else 28 := by
  unfold leapL beginL daysL
  by_cases h : y % 4 = 0 ∧ (y % 100 ≠ 0 ∨ y % 400 = 0)
  · rw [decide_eq_true h, if_pos rfl]; omega
  · rw [decide_eq_false h, if_neg (by decide)]; omega
theorem lenL_eq {y m : Int} (h1 : 1 ≤ m) (h2 : m ≤ 11) : beginL y (m + 1) - beginL y m = lenL y m := by
  have hm : m = 1 ∨ m = 2 ∨ m = 3 ∨ m = 4 ∨ m = 5 ∨ m = 6 ∨ m = 7 ∨ m = 8 ∨ m = 9 ∨ m = 10 ∨ m = 11 := by omega
  by_cases h3 : m = 2
  · subst h3
    unfold lenL
    rw [if_pos rfl]
    exact feb y
  · unfold lenL
    rw [if_neg h3]
    by_cases h4 : m = 4 ∨ m = 6 ∨ m = 9 ∨ m = 11
    · rw [if_pos h4]
      unfold beginL daysL
      rcases h4 with rfl | rfl | rfl | rfl <;> omega
    · rw [if_neg h4]
      have hm2 : m = 1 ∨ m = 3 ∨ m = 5 ∨ m = 7 ∨ m = 8 ∨ m = 10 := by omega
      unfold beginL daysL
      rcases hm2 with rfl | rfl | rfl | rfl | rfl | rfl <;> omega
theorem year_any (y : Int) (w : World) : Calls Tryz.prog 20 #[.int .i64 y] w fun e w' => e = .returned (.int .i64 (yearL y)) ∧ w = w' := by
  have HL := Lib.hid (leap_any y w)
  have hY : Hid (yearL y = if leapL y = true then 366 else 365) := rfl
  generalize yearL y = Y at *
  rcases hl : leapL y with _ | _
  · rw [hl] at HL hY
    go_enter Tryz.func20, Tryz.ntmps20
    go_wp2_with fail
    refine HL.out.mono ?_
    rintro e _ ⟨rfl, rfl⟩
    go_wp2_with fail
    go_ret
    exact ⟨by rw [hY.out]; rfl, rfl⟩
  · rw [hl] at HL hY
    go_enter Tryz.func20, Tryz.ntmps20
    go_wp2_with fail
    refine HL.out.mono ?_
    rintro e _ ⟨rfl, rfl⟩
    go_wp2_with fail
    go_ret
    exact ⟨by rw [hY.out]; rfl, rfl⟩
theorem length_any (y m : Int) (w : World) : Calls Tryz.prog 21 #[.int .i64 y, .int .i64 m] w fun e w' => e = .returned (.int .i64 (lenL y m)) ∧ w = w' := by
  have HL := Lib.hid (leap_any y w)
  have hY : Hid (lenL y m = if m = 2 then (if leapL y = true then 29 else 28) else if m = 4 ∨ m = 6 ∨ m = 9 ∨ m = 11 then 30 else 31) := rfl
  generalize lenL y m = Y at *
  by_cases h2 : m = 2
  · subst h2
    rcases hl : leapL y with _ | _
    · rw [hl] at HL hY
      go_enter Tryz.func21, Tryz.ntmps21
      go_wp2_with fail
      refine HL.out.mono ?_
      rintro e _ ⟨rfl, rfl⟩
      go_wp2_with fail
      go_ret
      exact ⟨by rw [hY.out]; rfl, rfl⟩
    · rw [hl] at HL hY
      go_enter Tryz.func21, Tryz.ntmps21
      go_wp2_with fail
      refine HL.out.mono ?_
      rintro e _ ⟨rfl, rfl⟩
      go_wp2_with fail
      go_ret
      exact ⟨by rw [hY.out]; rfl, rfl⟩
  · have n2 : (m == 2) = false := beq_eq_false_iff_ne.2 h2
    by_cases h4 : m = 4
    · subst h4
      go_enter Tryz.func21, Tryz.ntmps21
      go_wp2_with fail
      go_ret
      exact ⟨by rw [hY.out]; rfl, rfl⟩
    by_cases h6 : m = 6
    · subst h6
      go_enter Tryz.func21, Tryz.ntmps21
      go_wp2_with fail
      go_ret
      exact ⟨by rw [hY.out]; rfl, rfl⟩
    by_cases h9 : m = 9
    · subst h9
      go_enter Tryz.func21, Tryz.ntmps21
      go_wp2_with fail
      go_ret
      exact ⟨by rw [hY.out]; rfl, rfl⟩
    by_cases h11 : m = 11
    · subst h11
      go_enter Tryz.func21, Tryz.ntmps21
      go_wp2_with fail
      go_ret
      exact ⟨by rw [hY.out]; rfl, rfl⟩
    have n4 : (m == 4) = false := beq_eq_false_iff_ne.2 h4
    have n6 : (m == 6) = false := beq_eq_false_iff_ne.2 h6
    have n9 : (m == 9) = false := beq_eq_false_iff_ne.2 h9
    have n11 : (m == 11) = false := beq_eq_false_iff_ne.2 h11
    have hY2 : Hid (Y = 31) := by show _ = _; rw [hY.out, if_neg h2, if_neg (by omega)]
    clear h2 h4 h6 h9 h11 hY
    go_enter Tryz.func21, Tryz.ntmps21
    go_wp2_with fail
    go_ret
    exact ⟨by rw [hY2.out]; rfl, rfl⟩
end Go.Proofs.YtcipmfjefmjacaaGreatDoor
