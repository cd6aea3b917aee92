/- Plain: the nearest whole number to a fraction. -/
import Derived.Test.YtcipmfjefmjacaaGreatDoorD3
namespace Go.Proofs.YtcipmfjefmjacaaGreatDoor

theorem rnd_spec {x y : Nat} (hy : 0 < y) : 2 * x ≤ (2 * rnd x y + 1) * y ∧ 2 * rnd x y * y ≤ 2 * x + y := by
  have h := Nat.div_add_mod x y
  have hm := Nat.mod_lt x hy
  unfold rnd
  generalize x / y = q at *
  generalize x % y = r at *
  have e1 : (2 * (q + 1) + 1) * y = 2 * (y * q) + 3 * y := by rw [Nat.add_mul, Nat.mul_assoc, Nat.add_mul, Nat.mul_comm q y]; omega
  have e2 : 2 * (q + 1) * y = 2 * (y * q) + 2 * y := by rw [Nat.mul_assoc, Nat.add_mul, Nat.mul_comm q y]; omega
  have e3 : (2 * q + 1) * y = 2 * (y * q) + y := by rw [Nat.add_mul, Nat.mul_assoc, Nat.mul_comm q y]; omega
  have e4 : 2 * q * y = 2 * (y * q) := by rw [Nat.mul_assoc, Nat.mul_comm q y]
  split
  · rw [e1, e2]; omega
  · rw [e3, e4]; omega
theorem rnd_ge {x y n : Nat} (hy : 0 < y) (h : n * y ≤ x) : n ≤ rnd x y := by
  have h1 : n ≤ x / y := (Nat.le_div_iff_mul_le hy).2 h
  unfold rnd; split <;> omega
theorem rnd_le_of {x y n : Nat} (hy : 0 < y) (h : x ≤ n * y) : rnd x y ≤ n := by
  rcases Nat.lt_or_ge n (rnd x y) with h1 | h1
  · exfalso
    have h2 := (rnd_spec (x := x) hy).2
    have h3 : 2 * (n + 1) * y ≤ 2 * rnd x y * y := Nat.mul_le_mul_right _ (Nat.mul_le_mul_left _ h1)
    have e : 2 * (n + 1) * y = 2 * (n * y) + 2 * y := by rw [Nat.mul_assoc, Nat.add_mul]; omega
    omega
  · exact h1

theorem rnd_scale (c x y : Nat) (hc : 0 < c) : rnd (c * x) (c * y) = rnd x y := by
  unfold rnd
  rw [Nat.mul_div_mul_left _ _ hc, Nat.mul_mod_mul_left]
  have e : 2 * (c * (x % y)) = c * (2 * (x % y)) := by ac_rfl
  rw [e]
  have h1 : c * y < c * (2 * (x % y)) ↔ y < 2 * (x % y) := Nat.mul_lt_mul_left hc
  have h2 : c * (2 * (x % y)) = c * y ↔ 2 * (x % y) = y := Nat.mul_right_inj (by omega)
  simp only [h1, h2]
theorem rnd_same {x y x' y' : Nat} (hy : 0 < y) (hy' : 0 < y') (h : x * y' = x' * y) : rnd x y = rnd x' y' := by
  rw [← rnd_scale y' x y hy', ← rnd_scale y x' y' hy, Nat.mul_comm y' x, h, Nat.mul_comm x' y, Nat.mul_comm y' y]
theorem rnd_mono {x y x' y' : Nat} (hy : 0 < y) (hy' : 0 < y') (h : x * y' ≤ x' * y) : rnd x y ≤ rnd x' y' := by
  rcases Nat.lt_or_ge (rnd x' y') (rnd x y) with hlt | hge
  · exfalso
    have h1 := (rnd_spec (x := x) hy).2
    have h2 := (rnd_spec (x := x') hy').1
    -- multiply both by the other's denominator
    have h3 : 2 * rnd x y * y * y' ≤ (2 * x + y) * y' := Nat.mul_le_mul_right _ h1
    have h4 : 2 * x' * y ≤ (2 * rnd x' y' + 1) * y' * y := Nat.mul_le_mul_right _ h2
    have h5 : (2 * rnd x' y' + 2) * (y * y') ≤ 2 * rnd x y * (y * y') := Nat.mul_le_mul_right _ (by omega)
    have e3 : 2 * rnd x y * y * y' = 2 * rnd x y * (y * y') := by rw [Nat.mul_assoc]
    have e4 : (2 * rnd x' y' + 1) * y' * y = (2 * rnd x' y' + 1) * (y * y') := by rw [Nat.mul_assoc, Nat.mul_comm y' y]
    have e5 : (2 * x + y) * y' = 2 * (x * y') + y * y' := by rw [Nat.add_mul, Nat.mul_assoc]
    have e6 : 2 * x' * y = 2 * (x' * y) := Nat.mul_assoc _ _ _
    have e7 : (2 * rnd x' y' + 2) * (y * y') = (2 * rnd x' y' + 1) * (y * y') + y * y' := by rw [← Nat.succ_mul]
    have heq : x * y' = x' * y := by omega
    have := rnd_same hy hy' heq
    omega
  · exact hge
end Go.Proofs.YtcipmfjefmjacaaGreatDoor
