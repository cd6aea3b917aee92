/- Plain: a power at which too few digits are asked is small. -/
import Derived.Test.YtkpikkeblogdcaaDoorR4
namespace Go.Proofs.YtkpikkeblogdcaaDoor
/-- a power at which p + 1 digits are not enough is small -/
theorem sci_high {A B p : Nat} {x : Int} {H : Nat} (hB : 0 < B) (hA : A < 10 ^ H * B) (h : 10 ^ (p + 1) ≤ ratN A B (p - x)) : x < H := by
  rcases Int.lt_or_le x H with hx | hx
  · exact hx
  · exfalso
    have hlt : ¬ GeT A B (p - x) (10 ^ p) := by
      unfold GeT
      rw [Nat.not_le]
      have h1 : A * 10 ^ ((p : Int) - x).toNat < 10 ^ H * B * 10 ^ ((p : Int) - x).toNat := Nat.mul_lt_mul_of_pos_right hA (Nat.pow_pos (by decide))
      have h2 : 10 ^ H * B * 10 ^ ((p : Int) - x).toNat ≤ 10 ^ p * (10 ^ (-((p : Int) - x)).toNat * B) := by
        have e1 : 10 ^ H * B * 10 ^ ((p : Int) - x).toNat = 10 ^ (H + ((p : Int) - x).toNat) * B := by rw [Nat.pow_add, Nat.mul_right_comm]
        have e2 : 10 ^ p * (10 ^ (-((p : Int) - x)).toNat * B) = 10 ^ (p + (-((p : Int) - x)).toNat) * B := by rw [Nat.pow_add, Nat.mul_assoc]
        rw [e1, e2]
        exact Nat.mul_le_mul_right _ (Nat.pow_le_pow_right (by decide) (by omega))
      omega
    have h3 := ratN_le hB hlt
    have h4 : (10 : Nat) ^ p < 10 ^ (p + 1) := Nat.pow_lt_pow_right (by decide) (by omega)
    omega
theorem ten309 {i : Nat} (h : 0 < i) : (2 : Nat) ^ (83 * i + 29) < 10 ^ (25 * i + 9) * 1 := by
  rw [Nat.pow_add 2, Nat.pow_add 10, Nat.pow_mul 2, Nat.pow_mul 10, Nat.mul_one]
  exact Nat.mul_lt_mul_of_lt_of_lt (Nat.pow_lt_pow_left (by decide) (by omega)) (by decide)
theorem fin_lt {m j i : Nat} (k : Nat) (hm : m < 2 ^ 53) (hj : 53 + j ≤ 83 * i + 29) (hi : 0 < i) : m * 2 ^ j < 10 ^ (25 * i + 9) * 2 ^ k := by
  have h1 : m * 2 ^ j ≤ 2 ^ 53 * 2 ^ j := Nat.mul_le_mul_right _ (Nat.le_of_lt hm)
  rw [← Nat.pow_add] at h1
  have h2 := p2_le hj
  have h3 : 10 ^ (25 * i + 9) * 1 ≤ 10 ^ (25 * i + 9) * 2 ^ k := Nat.mul_le_mul_left _ (Nat.pow_pos (by decide))
  exact Nat.lt_of_le_of_lt h1 (Nat.lt_of_le_of_lt h2 (Nat.lt_of_lt_of_le (ten309 hi) h3))
theorem exp0_bounds {t : Int} (h1 : -1074 ≤ t) (h2 : t ≤ 1023) : -325 ≤ exp0 t ∧ exp0 t ≤ 306 := by
  unfold exp0
  rcases Int.lt_or_le t 0 with h | h
  · have e : (t * 30103).tdiv 100000 = -((-t * 30103).tdiv 100000) := by rw [← Int.neg_tdiv]; congr 1; omega
    rw [e, Int.tdiv_eq_ediv_of_nonneg (by omega)]
    omega
  · rw [Int.tdiv_eq_ediv_of_nonneg (by omega)]
    omega
theorem nbits_pos {m : Nat} (h : 0 < m) : 2 ^ (nbits m - 1) ≤ m ∧ 0 < nbits m := by
  have h2 : nbits m ≠ 0 := fun h3 => by have := nbits_le.1 (Nat.le_of_eq h3); simp at this; omega
  refine ⟨?_, by omega⟩
  rcases Nat.lt_or_ge m (2 ^ (nbits m - 1)) with h1 | h1
  · have := nbits_le.2 h1; omega
  · exact h1
end Go.Proofs.YtkpikkeblogdcaaDoor
