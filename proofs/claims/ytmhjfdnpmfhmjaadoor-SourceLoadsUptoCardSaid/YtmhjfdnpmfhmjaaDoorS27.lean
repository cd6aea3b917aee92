/- thresherref19.letter. -/
import Derived.Test.YtmhjfdnpmfhmjaaDoorS23
namespace Go.Proofs.YtmhjfdnpmfhmjaaDoor
open Go.RowKit
set_option linter.unusedVariables false

def letterB (c : Nat) : Bool := decide (c = 95) || (decide (48 ≤ c) && decide (c ≤ 57)) || (decide (97 ≤ c) && decide (c ≤ 122)) || (decide (65 ≤ c) && decide (c ≤ 90))
set_option maxHeartbeats 4000000 in
set_option maxRecDepth 100000 in
theorem letter_any (c : Nat) (w : World) (hc : c < 256) :
    Calls Tryd.prog 33 #[.int .u8 (c : Int)] w fun e w' => e = .returned (.bool (letterB c)) ∧ w' = w := by
  have hcI : (c : Int) < 256 := by omega
  have hR : letterB c = letterB c := rfl
  go_enter Tryd.func33, Tryd.ntmps33
  by_cases h1 : c = 95
  · subst h1
    go_wp2_with fail
    go_ret
    exact ⟨rfl, rfl⟩
  have e0 : ((c : Int) == 95) = false := beq_eq_false_iff_ne.2 (by omega)
  by_cases h2 : 48 ≤ c
  · by_cases h3 : c ≤ 57
    · skip
      have a1 : decide ((48 : Int) ≤ (c : Int)) = true := decide_eq_true (by omega)
      have a2 : decide ((c : Int) ≤ 57) = true := decide_eq_true (by omega)
      have hr : letterB c = true := by simp [letterB]; omega
      rw [hr]
      clear hr hR hc hcI h1 h2 h3
      go_wp2_with fail
      go_ret
      refine ⟨?_, rfl⟩
      simp
    · by_cases h4 : 97 ≤ c
      · by_cases h5 : c ≤ 122
        · skip
          have a1 : decide ((48 : Int) ≤ (c : Int)) = true := decide_eq_true (by omega)
          have a2 : decide ((c : Int) ≤ 57) = false := decide_eq_false (by omega)
          have a3 : decide ((97 : Int) ≤ (c : Int)) = true := decide_eq_true (by omega)
          have a4 : decide ((c : Int) ≤ 122) = true := decide_eq_true (by omega)
          have hr : letterB c = true := by simp [letterB]; omega
          rw [hr]
          clear hr hR hc hcI h1 h2 h3 h4 h5
          go_wp2_with fail
          go_ret
          refine ⟨?_, rfl⟩
          simp
        · skip
          have a1 : decide ((48 : Int) ≤ (c : Int)) = true := decide_eq_true (by omega)
          have a2 : decide ((c : Int) ≤ 57) = false := decide_eq_false (by omega)
          have a3 : decide ((97 : Int) ≤ (c : Int)) = true := decide_eq_true (by omega)
          have a4 : decide ((c : Int) ≤ 122) = false := decide_eq_false (by omega)
          have a5 : decide ((65 : Int) ≤ (c : Int)) = true := decide_eq_true (by omega)
          have a6 : decide ((c : Int) ≤ 90) = false := decide_eq_false (by omega)
          have hr : letterB c = false := by simp [letterB]; omega
          rw [hr]
          clear hr hR hc hcI h1 h2 h3 h4 h5
          go_wp2_with fail
          go_ret
          refine ⟨?_, rfl⟩
          simp
      · by_cases h5 : 65 ≤ c
        · by_cases h6 : c ≤ 90
          · skip
            have a1 : decide ((48 : Int) ≤ (c : Int)) = true := decide_eq_true (by omega)
            have a2 : decide ((c : Int) ≤ 57) = false := decide_eq_false (by omega)
            have a3 : decide ((97 : Int) ≤ (c : Int)) = false := decide_eq_false (by omega)
            have a5 : decide ((65 : Int) ≤ (c : Int)) = true := decide_eq_true (by omega)
            have a6 : decide ((c : Int) ≤ 90) = true := decide_eq_true (by omega)
            have hr : letterB c = true := by simp [letterB]; omega
            rw [hr]
            clear hr hR hc hcI h1 h2 h3 h4 h5 h6
            go_wp2_with fail
            go_ret
            refine ⟨?_, rfl⟩
            simp
          · skip
            have a1 : decide ((48 : Int) ≤ (c : Int)) = true := decide_eq_true (by omega)
            have a2 : decide ((c : Int) ≤ 57) = false := decide_eq_false (by omega)
            have a3 : decide ((97 : Int) ≤ (c : Int)) = false := decide_eq_false (by omega)
            have a5 : decide ((65 : Int) ≤ (c : Int)) = true := decide_eq_true (by omega)
            have a6 : decide ((c : Int) ≤ 90) = false := decide_eq_false (by omega)
            have hr : letterB c = false := by simp [letterB]; omega
            rw [hr]
            clear hr hR hc hcI h1 h2 h3 h4 h5 h6
            go_wp2_with fail
            go_ret
            refine ⟨?_, rfl⟩
            simp
        · skip
          have a1 : decide ((48 : Int) ≤ (c : Int)) = true := decide_eq_true (by omega)
          have a2 : decide ((c : Int) ≤ 57) = false := decide_eq_false (by omega)
          have a3 : decide ((97 : Int) ≤ (c : Int)) = false := decide_eq_false (by omega)
          have a5 : decide ((65 : Int) ≤ (c : Int)) = false := decide_eq_false (by omega)
          have hr : letterB c = false := by simp [letterB]; omega
          rw [hr]
          clear hr hR hc hcI h1 h2 h3 h4 h5
          go_wp2_with fail
          go_ret
          refine ⟨?_, rfl⟩
          simp
  · skip
    have a1 : decide ((48 : Int) ≤ (c : Int)) = false := decide_eq_false (by omega)
    have a3 : decide ((97 : Int) ≤ (c : Int)) = false := decide_eq_false (by omega)
    have a5 : decide ((65 : Int) ≤ (c : Int)) = false := decide_eq_false (by omega)
    have hr : letterB c = false := by simp [letterB]; omega
    rw [hr]
    clear hr hR hc hcI h1 h2
    go_wp2_with fail
    go_ret
    refine ⟨?_, rfl⟩
    simp
end Go.Proofs.YtmhjfdnpmfhmjaaDoor
