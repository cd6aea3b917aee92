/- Plain: how the model reads a float's bits, and compares them. -/
import Derived.Test.YtkpikkeblogdcaaDoorR8
import GoSem.Core.Float
namespace Go.Proofs.YtkpikkeblogdcaaDoor
open Go

/-- the float in steps of the least one -/
def vl (b : Nat) : Nat := mof b * 2 ^ jof b
theorem vl_lt {x y : Nat} (h : x < y) : vl x < vl y := by
  unfold vl
  have hx := bits_parts x
  have hy := bits_parts y
  have h1 := mof_lt x
  have h2 := mof_lt y
  have h3 := mof_ge x
  have h4 := mof_ge y
  rcases Nat.lt_trichotomy (jof x) (jof y) with hj | hj | hj
  · have h5 : 2 ^ 52 ≤ mof y := by rcases h4 with h | h; omega; exact h
    calc mof x * 2 ^ jof x < 2 ^ 53 * 2 ^ jof x := Nat.mul_lt_mul_of_pos_right h1 (pow2_pos _)
      _ = 2 ^ 52 * 2 ^ (jof x + 1) := by rw [two53, Nat.pow_succ 2 (jof x), Nat.mul_assoc, Nat.mul_comm 2]
      _ ≤ 2 ^ 52 * 2 ^ jof y := Nat.mul_le_mul_left _ (Nat.pow_le_pow_right (by decide) hj)
      _ ≤ mof y * 2 ^ jof y := Nat.mul_le_mul_right _ h5
  · rw [hj]
    exact Nat.mul_lt_mul_of_pos_right (by rw [hj] at hx; omega) (pow2_pos _)
  · exfalso
    have h5 : (jof y + 1) * 2 ^ 52 ≤ jof x * 2 ^ 52 := Nat.mul_le_mul_right _ hj
    rw [Nat.add_mul] at h5
    have h6 : 2 ^ 52 ≤ mof x := by rcases h3 with h | h; omega; exact h
    have h7 : (2 : Nat) ^ 53 = 2 ^ 52 + 2 ^ 52 := by decide
    omega
theorem vl_le {x y : Nat} (h : x ≤ y) : vl x ≤ vl y := by
  rcases Nat.eq_or_lt_of_le h with rfl | h
  · exact Nat.le_refl _
  · exact Nat.le_of_lt (vl_lt h)
theorem read_inf : FloatKind.f64.format.read 9218868437227405312 = .infinity false := by decide
theorem read_fin {b : Nat} (h : b < 9218868437227405312) : FloatKind.f64.format.read b = .number false (mof b) ((jof b : Int) - 1074) := by
  have e1 : FloatKind.f64.format.signWeight = 9223372036854775808 := by decide
  have e2 : FloatKind.f64.format.binade = 4503599627370496 := by decide
  have e3 : FloatKind.f64.format.infRung = 9218868437227405312 := by decide
  have e4 : FloatKind.f64.format.leastPlace = -1074 := by decide
  have e5 : (b / 9223372036854775808 % 2 == 1) = false := by rw [Nat.div_eq_of_lt (by omega)]; rfl
  have e6 : b % 9223372036854775808 = b := Nat.mod_eq_of_lt (by omega)
  unfold Ieee.Format.read
  simp only [e1, e2, e3, e4, e5, e6]
  have e7 : (2 : Nat) ^ 52 = 4503599627370496 := by decide
  unfold mof jof
  rw [e7]
  by_cases hs : b < 4503599627370496
  · rw [if_pos hs, if_pos (by omega)]
    congr 1
    rw [Nat.div_eq_of_lt hs]
    rfl
  · rw [if_neg hs, if_pos h, if_neg (by omega)]
    congr 1
    all_goals omega
theorem order_fin {x y : Nat} (hx : x < 9218868437227405312) (hy : y < 9218868437227405312) : FloatKind.f64.format.order x y = some (compare x y) := by
  unfold Ieee.Format.order
  rw [read_fin hx, read_fin hy]
  unfold Ieee.Datum.order
  simp only
  congr 1
  obtain ⟨c, hc⟩ : ∃ c, c = min (jof x) (jof y) := ⟨_, rfl⟩
  have e1 : ((jof x : Int) - 1074 - min ((jof x : Int) - 1074) ((jof y : Int) - 1074)).toNat = jof x - c := by omega
  have e2 : ((jof y : Int) - 1074 - min ((jof x : Int) - 1074) ((jof y : Int) - 1074)).toNat = jof y - c := by omega
  rw [e1, e2]
  unfold Ieee.signed
  simp only [Bool.false_eq_true, if_false]
  rw [Nat.shiftLeft_eq, Nat.shiftLeft_eq]
  have h1 : mof x * 2 ^ (jof x - c) * 2 ^ c = vl x := by unfold vl; rw [Nat.mul_assoc, ← Nat.pow_add, Nat.sub_add_cancel (by omega)]
  have h2 : mof y * 2 ^ (jof y - c) * 2 ^ c = vl y := by unfold vl; rw [Nat.mul_assoc, ← Nat.pow_add, Nat.sub_add_cancel (by omega)]
  have hp := pow2_pos c
  generalize mof x * 2 ^ (jof x - c) = a at *
  generalize mof y * 2 ^ (jof y - c) = b at *
  rcases Nat.lt_trichotomy x y with h | h | h
  · have h3 := vl_lt h
    rw [← h1, ← h2] at h3
    have h4 := Nat.lt_of_mul_lt_mul_right h3
    rw [Int.compare_eq_lt.2 (by omega), Nat.compare_eq_lt.2 h]
  · subst h
    have h4 : a = b := Nat.eq_of_mul_eq_mul_right hp (h1.trans h2.symm)
    subst h4
    rw [Int.compare_eq_eq.2 rfl, Nat.compare_eq_eq.2 rfl]
  · have h3 := vl_lt h
    rw [← h1, ← h2] at h3
    have h4 := Nat.lt_of_mul_lt_mul_right h3
    rw [Int.compare_eq_gt.2 (by omega), Nat.compare_eq_gt.2 h]
/-- floats that are not negative, and no NaN, are compared as their bits -/
theorem order_pos {x y : Nat} (hx : x ≤ 9218868437227405312) (hy : y ≤ 9218868437227405312) : FloatKind.f64.format.order x y = some (compare x y) := by
  rcases Nat.eq_or_lt_of_le hx with h1 | h1 <;> rcases Nat.eq_or_lt_of_le hy with h2 | h2
  · subst h1 h2; decide
  · subst h1
    unfold Ieee.Format.order
    rw [read_inf, read_fin h2, Nat.compare_eq_gt.2 h2]
    rfl
  · subst h2
    unfold Ieee.Format.order
    rw [read_inf, read_fin h1, Nat.compare_eq_lt.2 h1]
    rfl
  · exact order_fin h1 h2
theorem order_lt {x y : Nat} (hx : x ≤ 9218868437227405312) (hy : y ≤ 9218868437227405312) (h : x < y) : FloatKind.f64.format.order x y = some .lt := by rw [order_pos hx hy, Nat.compare_eq_lt.2 h]
theorem order_gt {x y : Nat} (hx : x ≤ 9218868437227405312) (hy : y ≤ 9218868437227405312) (h : y < x) : FloatKind.f64.format.order x y = some .gt := by rw [order_pos hx hy, Nat.compare_eq_gt.2 h]
theorem order_eq {x : Nat} (hx : x ≤ 9218868437227405312) : FloatKind.f64.format.order x x = some .eq := by rw [order_pos hx hx, Nat.compare_eq_eq.2 rfl]
end Go.Proofs.YtkpikkeblogdcaaDoor
