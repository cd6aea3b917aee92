/- Plain: what Read answers is the nearest float, within the document's bounds too; its search's question. -/
import Derived.Test.YtcmpdamfeoaapaaGreatDoorR13
import Derived.Test.YtcmpdamfeoaapaaGreatDoorM5
import Derived.Test.YtcmpdamfeoaapaaGreatDoorM1
import Derived.Test.YtcmpdamfeoaapaaGreatDoorR14
namespace Go.Proofs.YtcmpdamfeoaapaaGreatDoor
open Go
def q1024 : Nat := 1024
def q1075 : Nat := 1075
def q310 : Nat := 310
def q331 : Nat := 331
theorem big_pow : Nat.ble (2 ^ q1024) (10 ^ q310) = true := by kernel_rfl
theorem small_pow : Nat.ble (2 ^ q1075) (10 ^ q331) = true := by kernel_rfl
theorem two_sum {a b c d : Nat} (h : a + b = c + d) : 2 ^ a * 2 ^ b = 2 ^ c * 2 ^ d := by rw [← Nat.pow_add, ← Nat.pow_add, h]
theorem kk_eq : kk = 2 ^ bias := rfl
theorem q1024_eq : q1024 + bias = 52 + jof 9218868437227405312 := by decide
theorem pw_kk : 2 ^ q1024 * kk = 2 ^ 52 * 2 ^ jof 9218868437227405312 := by
  have h := two_sum q1024_eq
  rw [← kk_eq] at h
  exact h
theorem pw_kk2_gen {a B : Nat} (h : a = B + 1) : 2 ^ a = 2 * 2 ^ B := by rw [h, Nat.pow_succ, Nat.mul_comm]
theorem q1075_eq : q1075 = bias + 1 := by decide
theorem pw_kk2 : 2 ^ q1075 = 2 * kk := by
  have h := pw_kk2_gen q1075_eq
  rw [← kk_eq] at h
  exact h
theorem near_inf {x y : Nat} (hy : 0 < y) (h : 2 ^ q1024 * y ≤ x) : near x y = 9218868437227405312 := by
  have h1 : near (2 ^ q1024) 1 = 9218868437227405312 := by
    refine near_exact (by decide) ?_ (Nat.le_refl _)
    rw [show mof 9218868437227405312 = 2 ^ 52 by decide, Nat.mul_one]
    exact pw_kk
  refine Nat.le_antisymm (near_le _ _) ?_
  rw [← h1]
  exact near_mono (by decide) hy (by rw [Nat.mul_one]; exact h)
theorem near_small {x y : Nat} (h : 2 * (x * kk) ≤ y) (hy : 0 < y) : near x y = 0 := by
  have hlt : x * kk < y ∨ x * kk = 0 := by omega
  have hq : x * kk / y = 0 := Nat.div_eq_of_lt (by omega)
  have hm : x * kk % y = x * kk := Nat.mod_eq_of_lt (by omega)
  unfold near nb stepOf
  rw [hq, show nbits 0 - 53 = 0 by decide, Nat.pow_zero, Nat.one_mul]
  unfold rnd
  rw [hq, hm, if_neg (by omega)]
  rfl
theorem readB_nearest {l : List UInt8} {x : Int} (hd : Digits l) (hne : bare l ≠ []) (hl : l.length ≤ 1024) (hx1 : -1500 ≤ x) (hx2 : x ≤ 400) :
    readB l x = near (digVal l * 10 ^ x.toNat) (10 ^ (-x).toNat) := by
  have hbl := bare_length l
  have hbd := bare_digits hd
  have hv := digVal_bare l
  have hlt := digVal_lt hbd
  have hhead : ∃ c r, bare l = c :: r ∧ c ≠ 48 := by
    cases h : bare l with
    | nil => exact absurd h hne
    | cons c r =>
      refine ⟨c, r, rfl, fun hc => ?_⟩
      have := dw_head (· == 48) l c r h
      rw [hc] at this; simp at this
  have hlo := digVal_low hbd hhead
  have hpos : 0 < (bare l).length := List.length_pos_iff.2 hne
  rw [hv] at hlt hlo
  unfold readB
  rw [if_neg (by omega)]
  by_cases h1 : 2000 < x ∨ 310 < ((bare l).length : Int) + x
  · rw [if_pos h1]
    refine (near_inf (Nat.pow_pos (by decide)) ?_).symm
    have hb := Nat.le_of_ble_eq_true big_pow
    refine Nat.le_trans (Nat.mul_le_mul_right _ hb) ?_
    refine Nat.le_trans ?_ (Nat.mul_le_mul_right _ hlo)
    rw [← Nat.pow_add, ← Nat.pow_add]
    have hq : q310 = 310 := rfl
    exact Nat.pow_le_pow_right (by decide) (by rw [hq]; omega)
  · rw [if_neg h1]
    by_cases h2 : ((bare l).length : Int) + x < -330
    · rw [if_pos h2]
      refine (near_small ?_ (Nat.pow_pos (by decide))).symm
      have hb := Nat.le_of_ble_eq_true small_pow
      have e : 2 * (digVal l * 10 ^ x.toNat * kk) = digVal l * 10 ^ x.toNat * 2 ^ q1075 := by
        rw [pw_kk2]; generalize kk = K; ac_rfl
      rw [e]
      refine Nat.le_trans (Nat.mul_le_mul_left _ hb) ?_
      refine Nat.le_trans (Nat.mul_le_mul_right _ (Nat.mul_le_mul_right _ (Nat.le_of_lt hlt))) ?_
      rw [← Nat.pow_add, ← Nat.pow_add]
      have hq : q331 = 331 := rfl
      exact Nat.pow_le_pow_right (by decide) (by rw [hq]; omega)
    · rw [if_neg h2, hv]
theorem readB_small {l : List UInt8} {x : Int} (hl : l.length ≤ 1024) (hx : x < -1500) : readB l x = 0 := by
  have hbl := bare_length l
  unfold readB
  split
  · rfl
  · rw [if_neg (by omega), if_pos (by omega)]
theorem readB_big {l : List UInt8} {x : Int} (hne : bare l ≠ []) (hx : 400 < x) : readB l x = 9218868437227405312 := by
  have hpos : 0 < (bare l).length := List.length_pos_iff.2 hne
  unfold readB
  rw [if_neg (by omega), if_pos]
  by_cases h : 2000 < x
  · exact .inl h
  · exact .inr (by
      have h2 : 0 < ((bare l).length : Int) := by omega
      omega)
/-- the search's question -/
theorem cmp_mid {D b : Nat} {x : Int} (hb : b < 9218868437227405312) :
    cmpN (D * (10 ^ x.toNat * 2 ^ (-(expo b - 1)).toNat)) ((mant b * 2 + 1) * (10 ^ (-x).toNat * 2 ^ (expo b - 1).toNat)) = cmpN (2 * (D * 10 ^ x.toNat * kk)) (gm b * 10 ^ (-x).toNat) := by
  obtain ⟨m1, m2, m3⟩ := mant_mof hb
  have e0 : 2 * kk = 2 ^ (bias + 1) := by rw [kk_eq, Nat.pow_succ, Nat.mul_comm]
  have hbias : (bias : Int) = 1074 := rfl
  have e1 : (2 : Nat) ^ (bias + 1) * 2 ^ (expo b - 1).toNat = 2 ^ jof b * 2 ^ (-(expo b - 1)).toNat := by
    rw [← Nat.pow_add, ← Nat.pow_add]
    exact congrArg (2 ^ ·) (by omega)
  have a1 : D * (10 ^ x.toNat * 2 ^ (-(expo b - 1)).toNat) * 2 ^ (bias + 1) = 2 * (D * 10 ^ x.toNat * kk) * 2 ^ (-(expo b - 1)).toNat := by
    rw [← e0]; generalize kk = K; ac_rfl
  have a2 : (mant b * 2 + 1) * (10 ^ (-x).toNat * 2 ^ (expo b - 1).toNat) * 2 ^ (bias + 1) = gm b * 10 ^ (-x).toNat * 2 ^ (-(expo b - 1)).toNat := by
    unfold gm
    rw [m1, Nat.mul_comm 2 (mof b)]
    generalize 2 ^ (bias + 1) = c at *
    generalize 2 ^ (expo b - 1).toNat = d at *
    calc (mof b * 2 + 1) * (10 ^ (-x).toNat * d) * c = (mof b * 2 + 1) * 10 ^ (-x).toNat * (c * d) := by ac_rfl
      _ = (mof b * 2 + 1) * 2 ^ jof b * 10 ^ (-x).toNat * 2 ^ (-(expo b - 1)).toNat := by rw [e1]; ac_rfl
  have c1 : 0 < 2 ^ (bias + 1) := pow2_pos _
  have c2 : 0 < 2 ^ (-(expo b - 1)).toNat := pow2_pos _
  generalize 2 ^ (bias + 1) = c at *
  generalize 2 ^ (-(expo b - 1)).toNat = f at *
  generalize (mant b * 2 + 1) * (10 ^ (-x).toNat * 2 ^ (expo b - 1).toNat) = R at *
  generalize D * (10 ^ x.toNat * f) = L at *
  generalize 2 * (D * 10 ^ x.toNat * kk) = L' at *
  generalize gm b * 10 ^ (-x).toNat = R' at *
  have i1 : L < R ↔ L' < R' := by rw [← Nat.mul_lt_mul_right c1, a1, a2, Nat.mul_lt_mul_right c2]
  have i2 : L = R ↔ L' = R' := by
    constructor
    · intro h; subst h; rw [a1] at a2; exact Nat.eq_of_mul_eq_mul_right c2 a2
    · intro h; subst h; rw [← a2] at a1; exact Nat.eq_of_mul_eq_mul_right c1 a1
  unfold cmpN
  by_cases h1 : L < R
  · rw [if_pos h1, if_pos (i1.1 h1)]
  · rw [if_neg h1, if_neg (fun h => h1 (i1.2 h))]
    by_cases h2 : L = R
    · rw [if_pos h2, if_pos (i2.1 h2)]
    · rw [if_neg h2, if_neg (fun h => h2 (i2.2 h))]
end Go.Proofs.YtcmpdamfeoaapaaGreatDoor
