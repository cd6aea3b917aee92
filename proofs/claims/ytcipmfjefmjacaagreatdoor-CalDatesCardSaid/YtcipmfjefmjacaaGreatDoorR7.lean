/- Plain: the floats themselves, and numbers near to them. -/
import Derived.Test.YtcipmfjefmjacaaGreatDoorR6
namespace Go.Proofs.YtcipmfjefmjacaaGreatDoor
/-- the float's steps -/
def jof (b : Nat) : Nat := b / 2 ^ 52 - 1
/-- the float's whole number of steps -/
def mof (b : Nat) : Nat := if b / 2 ^ 52 = 0 then b else b % 2 ^ 52 + 2 ^ 52
theorem bits_parts (b : Nat) : b = jof b * 2 ^ 52 + mof b := by unfold jof mof; split <;> omega
theorem mof_lt (b : Nat) : mof b < 2 ^ 53 := by unfold mof; split <;> omega
theorem mof_ge (b : Nat) : jof b = 0 ∨ 2 ^ 52 ≤ mof b := by unfold jof mof; split <;> omega
theorem rnd_close {X G m : Nat} (h1 : 2 * X < 2 * (m * G) + G) (h2 : 2 * (m * G) < 2 * X + G) : rnd X G = m := by
  have hG : 0 < G := by
    rcases Nat.eq_zero_or_pos G with h | h
    · subst h; simp at h1
    · exact h
  have hs := rnd_spec (x := X) hG
  generalize rnd X G = r at hs
  have e1 : (2 * r + 1) * G = 2 * (r * G) + G := by rw [Nat.succ_mul, Nat.mul_assoc]
  have e2 : 2 * r * G = 2 * (r * G) := Nat.mul_assoc _ _ _
  rw [e1, e2] at hs
  rcases Nat.lt_trichotomy r m with h | h | h
  · have h3 : (r + 1) * G ≤ m * G := Nat.mul_le_mul_right _ h
    rw [Nat.succ_mul] at h3
    omega
  · exact h
  · have h3 : (m + 1) * G ≤ r * G := Nat.mul_le_mul_right _ h
    rw [Nat.succ_mul] at h3
    omega
theorem nb_exact {X y b : Nat} (hy : 0 < y) (h : X = mof b * (2 ^ jof b * y)) (hb : b ≤ 9218868437227405312) : Step X y (jof b) ∧ nb X y (jof b) = b := by
  have hG : 0 < 2 ^ jof b * y := Nat.mul_pos (pow2_pos _) hy
  have hr : rnd X (2 ^ jof b * y) = mof b := rnd_close (by omega) (by omega)
  refine ⟨⟨?_, ?_⟩, ?_⟩
  · rw [h]; exact Nat.mul_lt_mul_of_pos_right (mof_lt b) hG
  · rcases mof_ge b with h0 | h0
    · exact .inl h0
    · exact .inr (by rw [h]; exact Nat.mul_le_mul_right _ h0)
  · unfold nb
    rw [hr, ← bits_parts]
    omega
/-- a number so near to a float that seventeen digits tell it is rounded to it -/
theorem nb_close {X y b j : Nat} (hy : 0 < y) (hb : b ≤ 9218868437227405312) (hs : Step X y j)
    (h1 : 20000000000000000 * X ≤ 20000000000000000 * (mof b * (2 ^ jof b * y)) + X)
    (h2 : 20000000000000000 * (mof b * (2 ^ jof b * y)) ≤ 20000000000000000 * X + X) : nb X y j = b := by
  have hm := mof_lt b
  have hG : 0 < 2 ^ jof b * y := Nat.mul_pos (pow2_pos _) hy
  have hP : mof b * (2 ^ jof b * y) ≤ (2 ^ 53 - 1) * (2 ^ jof b * y) := Nat.mul_le_mul_right _ (by omega)
  have hbp := bits_parts b
  by_cases hc : jof b = 0 ∨ 2 ^ 52 * (2 ^ jof b * y) ≤ X
  · have hS : Step X y (jof b) := ⟨by omega, hc⟩
    rw [step_same hy hy hs hS rfl]
    unfold nb
    rw [rnd_close (m := mof b) (by omega) (by omega), ← hbp]
    omega
  · have hj : jof b ≠ 0 := fun h => hc (.inl h)
    have hX : X < 2 ^ 52 * (2 ^ jof b * y) := Nat.lt_of_not_le fun h => hc (.inr h)
    have hmg : 2 ^ 52 ≤ mof b := by rcases mof_ge b with h | h; exact absurd h hj; exact h
    have hm2 : mof b = 2 ^ 52 := by
      rcases Nat.lt_or_ge (2 ^ 52) (mof b) with h | h
      · exfalso
        have h3 : (2 ^ 52 + 1) * (2 ^ jof b * y) ≤ mof b * (2 ^ jof b * y) := Nat.mul_le_mul_right _ h
        omega
      · omega
    obtain ⟨j', hj'⟩ : ∃ j', jof b = j' + 1 := ⟨jof b - 1, by omega⟩
    rw [hm2] at h1 h2 hP
    have e : 2 ^ jof b * y = 2 * (2 ^ j' * y) := by rw [hj', Nat.pow_succ 2 j', Nat.mul_comm (2 ^ j') 2, Nat.mul_assoc]
    rw [e] at h1 h2 hX hG
    have hS : Step X y j' := ⟨by omega, .inr (by omega)⟩
    rw [step_same hy hy hs hS rfl]
    unfold nb
    rw [rnd_close (m := 2 ^ 53) (by omega) (by omega)]
    rw [hj', hm2] at hbp
    omega
end Go.Proofs.YtcipmfjefmjacaaGreatDoor
