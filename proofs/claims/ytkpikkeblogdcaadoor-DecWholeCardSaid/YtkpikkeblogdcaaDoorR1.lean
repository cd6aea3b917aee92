/- Plain: a fraction times a power of ten. -/
import Derived.Test.YtkpikkeblogdcaaDoorR0
namespace Go.Proofs.YtkpikkeblogdcaaDoor

/-- A/B times 10^k is at least n -/
def GeT (A B : Nat) (k : Int) (n : Nat) : Prop := n * (10 ^ (-k).toNat * B) ≤ A * 10 ^ k.toNat
theorem GeT_step (A B : Nat) (k : Int) (n : Nat) : GeT A B (k + 1) (10 * n) ↔ GeT A B k n := by
  unfold GeT
  rcases (by omega : k < 0 ∨ 0 ≤ k) with h | h
  · have e1 : (k + 1).toNat = 0 := by omega
    have e2 : k.toNat = 0 := by omega
    have e3 : (-k).toNat = (-(k + 1)).toNat + 1 := by omega
    rw [e1, e2, e3, Nat.pow_succ]
    rw [show 10 * n * (10 ^ (-(k + 1)).toNat * B) = n * (10 ^ (-(k + 1)).toNat * 10 * B) by ac_rfl]
  · have e1 : (-(k + 1)).toNat = 0 := by omega
    have e2 : (-k).toNat = 0 := by omega
    have e3 : (k + 1).toNat = k.toNat + 1 := by omega
    rw [e1, e2, e3, Nat.pow_succ, show 10 * n * (10 ^ 0 * B) = 10 * (n * (10 ^ 0 * B)) by ac_rfl, show A * (10 ^ k.toNat * 10) = 10 * (A * 10 ^ k.toNat) by ac_rfl]
    exact Nat.mul_le_mul_left_iff (by decide)

def ratN (A B : Nat) (k : Int) : Nat := rnd (A * 10 ^ k.toNat) (10 ^ (-k).toNat * B)
theorem rat_pos {B : Nat} (hB : 0 < B) (k : Int) : 0 < 10 ^ (-k).toNat * B := Nat.mul_pos (Nat.pow_pos (by decide)) hB
theorem ratN_ge {A B n : Nat} {k : Int} (hB : 0 < B) (h : GeT A B k n) : n ≤ ratN A B k := rnd_ge (rat_pos hB k) h
theorem ratN_le {A B n : Nat} {k : Int} (hB : 0 < B) (h : ¬ GeT A B k n) : ratN A B k ≤ n := rnd_le_of (rat_pos hB k) (by unfold GeT at h; omega)
theorem rat_cross (A B : Nat) (k : Int) : A * 10 ^ (k + 1).toNat * (10 ^ (-k).toNat * B) = 10 * (A * 10 ^ k.toNat) * (10 ^ (-(k + 1)).toNat * B) := by
  rcases (by omega : k < 0 ∨ 0 ≤ k) with h | h
  · have e1 : (k + 1).toNat = 0 := by omega
    have e2 : k.toNat = 0 := by omega
    have e3 : (-k).toNat = (-(k + 1)).toNat + 1 := by omega
    rw [e1, e2, e3, Nat.pow_succ]; ac_rfl
  · have e1 : (-(k + 1)).toNat = 0 := by omega
    have e2 : (-k).toNat = 0 := by omega
    have e3 : (k + 1).toNat = k.toNat + 1 := by omega
    rw [e1, e2, e3, Nat.pow_succ]; ac_rfl
/-- what is rounded up to ten times n is, with one digit less, n -/
theorem ratN_carry {A B n : Nat} {k : Int} (hB : 0 < B) (h1 : ¬ GeT A B (k + 1) (10 * n)) (h2 : ratN A B (k + 1) = 10 * n) : ratN A B k = n := by
  have h3 : ¬ GeT A B k n := fun h => h1 ((GeT_step A B k n).2 h)
  have h4 := ratN_le hB h3
  rcases Nat.lt_or_ge (ratN A B k) n with hlt | hge
  · exfalso
    have s1 := (rnd_spec (x := A * 10 ^ (k + 1).toNat) (rat_pos hB (k + 1))).2
    have s2 := (rnd_spec (x := A * 10 ^ k.toNat) (rat_pos hB k)).1
    have hc := rat_cross A B k
    have hy := rat_pos hB k
    have hy' := rat_pos hB (k + 1)
    change 2 * ratN A B (k + 1) * _ ≤ _ at s1
    change _ ≤ (2 * ratN A B k + 1) * _ at s2
    rw [h2] at s1
    generalize ratN A B k = q at *
    generalize A * 10 ^ (k + 1).toNat = x at *
    generalize A * 10 ^ k.toNat = x' at *
    generalize 10 ^ (-k).toNat * B = y' at *
    generalize 10 ^ (-(k + 1)).toNat * B = y at *
    have t1 : 2 * (10 * n) * y * y' ≤ (2 * x + y) * y' := Nat.mul_le_mul_right _ s1
    have t2 : 2 * x' * (10 * y) ≤ (2 * q + 1) * y' * (10 * y) := Nat.mul_le_mul_right _ s2
    have t3 : (2 * q + 2) * (10 * (y * y')) ≤ 2 * n * (10 * (y * y')) := Nat.mul_le_mul_right _ (by omega)
    have hP : 0 < y * y' := Nat.mul_pos hy' hy
    have a1 : 2 * (10 * n) * y * y' = 2 * n * (10 * (y * y')) := by ac_rfl
    have a2 : (2 * x + y) * y' = 2 * (x * y') + y * y' := by rw [Nat.add_mul, Nat.mul_assoc]
    have a3 : 2 * x' * (10 * y) = 2 * (10 * x' * y) := by ac_rfl
    have a4 : (2 * q + 1) * y' * (10 * y) = (2 * q + 1) * (10 * (y * y')) := by ac_rfl
    have a5 : (2 * q + 2) * (10 * (y * y')) = (2 * q + 1) * (10 * (y * y')) + 10 * (y * y') := by rw [← Nat.succ_mul]
    omega
  · omega
end Go.Proofs.YtkpikkeblogdcaaDoor
