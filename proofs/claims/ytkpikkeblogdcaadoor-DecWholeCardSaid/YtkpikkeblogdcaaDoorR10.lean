/- Plain: seventeen digits tell a float; digits of a float near it. -/
import Derived.Test.YtkpikkeblogdcaaDoorL3
namespace Go.Proofs.YtkpikkeblogdcaaDoor
open Go

theorem mant_mof {b : Nat} (h : b < 9218868437227405312) : mant b = mof b ∧ (expo b + 1074).toNat = jof b ∧ -1074 ≤ expo b := by
  have e6 : b % 9223372036854775808 = b := Nat.mod_eq_of_lt (by omega)
  have e7 : (2 : Nat) ^ 52 = 4503599627370496 := by decide
  have hx := expo_bounds (b := b)
  refine ⟨?_, ?_, hx.1⟩
  · unfold mant mof
    rw [e6, e7, if_neg (by omega)]
    by_cases h1 : b / 4503599627370496 = 0
    · rw [if_pos h1, if_pos h1]; omega
    · rw [if_neg h1, if_neg h1]
  · unfold expo jof
    rw [e6, e7, if_neg (by omega)]
    by_cases h1 : b / 4503599627370496 = 0
    · rw [if_pos h1, h1]; rfl
    · rw [if_neg h1]; omega
theorem fin_lt_inf {b : Nat} (hb : b < 9223372036854775808) : fin b = true ↔ b < 9218868437227405312 := by
  unfold fin
  rw [Nat.mod_eq_of_lt hb]
  simp
  omega
/-- the float as the fraction that the digits are rounded from -/
def numP (b : Nat) (k : Int) : Nat := mant b * 10 ^ k.toNat * 2 ^ (expo b).toNat
def denQ (b : Nat) (k : Int) : Nat := 10 ^ (-k).toNat * 2 ^ (-(expo b)).toNat
theorem denQ_pos (b : Nat) (k : Int) : 0 < denQ b k := Nat.mul_pos (Nat.pow_pos (by decide)) (pow2_pos _)
theorem scaledN_spec (b : Nat) (k : Int) : 2 * numP b k ≤ (2 * scaledN b k + 1) * denQ b k ∧ 2 * scaledN b k * denQ b k ≤ 2 * numP b k + denQ b k := rnd_spec (denQ_pos b k)
/-- the float's value, and the digits' value, over one denominator -/
theorem value_P {b : Nat} (h : b < 9218868437227405312) (k : Int) : mof b * (2 ^ jof b * 10 ^ k.toNat) * 2 ^ (-(expo b)).toNat = numP b k * kk := by
  obtain ⟨h1, h2, h3⟩ := mant_mof h
  have h4 := pow2_int h3
  rw [h2] at h4
  unfold numP
  rw [h1]
  calc mof b * (2 ^ jof b * 10 ^ k.toNat) * 2 ^ (-(expo b)).toNat = mof b * 10 ^ k.toNat * (2 ^ (-(expo b)).toNat * 2 ^ jof b) := by ac_rfl
    _ = mof b * 10 ^ k.toNat * 2 ^ (expo b).toNat * kk := by rw [h4]; generalize kk = K; ac_rfl
theorem value_Q (b N : Nat) (k : Int) : N * 10 ^ (-k).toNat * kk * 2 ^ (-(expo b)).toNat = N * denQ b k * kk := by
  unfold denQ
  generalize kk = K
  ac_rfl
theorem lin_back {N P Q : Nat} (hN : 10000000000000000 * Q ≤ N * Q) (h1 : 2 * P ≤ 2 * (N * Q) + Q) (h2 : 2 * (N * Q) ≤ 2 * P + Q) :
    20000000000000000 * (N * Q) ≤ 20000000000000000 * P + N * Q ∧ 20000000000000000 * P ≤ 20000000000000000 * (N * Q) + N * Q := by omega
theorem near_back {b : Nat} {k : Int} (h : b < 9218868437227405312) (hN : 10 ^ 16 ≤ scaledN b k) : near (scaledN b k * 10 ^ (-k).toNat) (10 ^ k.toNat) = b := by
  obtain ⟨s1, s2⟩ := scaledN_spec b k
  have hQ := denQ_pos b k
  have hNQ : 10 ^ 16 * denQ b k ≤ scaledN b k * denQ b k := Nat.mul_le_mul_right _ hN
  rw [show (10 : Nat) ^ 16 = 10000000000000000 by decide] at hNQ
  have e1 : (2 * scaledN b k + 1) * denQ b k = 2 * (scaledN b k * denQ b k) + denQ b k := by rw [Nat.succ_mul, Nat.mul_assoc]
  have e2 : 2 * scaledN b k * denQ b k = 2 * (scaledN b k * denQ b k) := Nat.mul_assoc _ _ _
  rw [e1] at s1
  rw [e2] at s2
  obtain ⟨l1, l2⟩ := lin_back hNQ s1 s2
  have hT : 0 < 2 ^ (-(expo b)).toNat := pow2_pos _
  have v1 := value_P h k
  have v2 := value_Q b (scaledN b k) k
  refine near_close (Nat.pow_pos (by decide)) (Nat.le_of_lt h) ?_ ?_
  · refine Nat.le_of_mul_le_mul_right ?_ hT
    have m1 := Nat.mul_le_mul_right kk l1
    rw [Nat.add_mul, Nat.mul_assoc 20000000000000000, Nat.mul_assoc 20000000000000000] at m1
    rw [Nat.add_mul, Nat.mul_assoc, v2, Nat.mul_assoc 20000000000000000 (mof b * _), v1]
    generalize kk = K at *
    exact m1
  · refine Nat.le_of_mul_le_mul_right ?_ hT
    have m2 := Nat.mul_le_mul_right kk l2
    rw [Nat.add_mul, Nat.mul_assoc, Nat.mul_assoc] at m2
    rw [Nat.add_mul, Nat.mul_assoc 20000000000000000 (mof b * _), v1, Nat.mul_assoc 20000000000000000, v2]
    generalize kk = K at *
    exact m2
theorem readB_back {b : Nat} {x : Int} {l : List UInt8} (h : b < 9218868437227405312) (hs : SciAt b 16 x) (hx1 : -325 ≤ x) (hx2 : x ≤ 309) (hc : Canon l (scaledN b ((16 : Nat) - x))) (hl : l.length = 17) : readB l (x - 16) = b := by
  have hN := hs.ge
  have hpos : 0 < scaledN b ((16 : Nat) - x) := Nat.lt_of_lt_of_le (Nat.pow_pos (by decide)) hN
  have hb := bare_pos_text hc hpos
  have hbl : (bare l).length = 17 := by rw [hb, hl]
  rw [readB_near (by omega) (by omega) (by omega) (by omega) (by omega), hb, hc.val]
  have e1 : (x - 16).toNat = (-((16 : Nat) - x : Int)).toNat := by omega
  have e2 : (-(x - 16)).toNat = ((16 : Nat) - x : Int).toNat := by omega
  rw [e1, e2]
  exact near_back h hN
end Go.Proofs.YtkpikkeblogdcaaDoor
