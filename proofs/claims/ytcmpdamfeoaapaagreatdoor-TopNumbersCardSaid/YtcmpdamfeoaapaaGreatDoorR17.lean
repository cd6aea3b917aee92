/- Plain: digits beyond the nine hundredth count as one digit that is not nought: the nearest float stays. -/
import Derived.Test.YtcmpdamfeoaapaaGreatDoorR15
namespace Go.Proofs.YtcmpdamfeoaapaaGreatDoor
open Go
def q899 : Nat := 899
def q2045 : Nat := 2045
theorem jof_le {b : Nat} (hb : b < 9218868437227405312) : jof b ≤ q2045 := by
  unfold jof q2045
  rw [show (2 : Nat) ^ 52 = 4503599627370496 by decide]
  omega
theorem stick_pow1 : Nat.ble (2 ^ 54 * 5 ^ q1075) (10 ^ q899) = true := by kernel_rfl
def q2100 : Nat := 2100
theorem stick_pow2 : Nat.ble (2 ^ q2100) (10 ^ q899) = true := by kernel_rfl
theorem gm_form (b : Nat) : gm b = (2 * mof b + 1) * 2 ^ jof b := rfl
theorem mid_small (b : Nat) : 2 * mof b + 1 ≤ 2 ^ 54 := by
  have := mof_lt b
  have e : (2 : Nat) ^ 54 = 2 * 2 ^ 53 := by decide
  omega
/-- no middle lies strictly between a number of nine hundred digits and the next one -/
theorem no_mid {b T : Nat} {k : Int} (hb : b < 9218868437227405312) (hT : 10 ^ q899 ≤ T) (h1 : 2 * (T * 10 ^ k.toNat * kk) < gm b * 10 ^ (-k).toNat) (h2 : gm b * 10 ^ (-k).toNat < 2 * ((T + 1) * 10 ^ k.toNat * kk)) : False := by
  have hj := jof_le hb
  have hm := mid_small b
  rcases Int.lt_or_le k 0 with hk | hk
  · obtain ⟨K, hK⟩ : ∃ K, K = (-k).toNat := ⟨_, rfl⟩
    have hk0 : k.toNat = 0 := by omega
    rw [hk0, ← hK, Nat.pow_zero, Nat.mul_one] at h1 h2
    have e5 : (10 : Nat) ^ K = 5 ^ K * 2 ^ K := by rw [← Nat.mul_pow]
    have e2 (t : Nat) : 2 * (t * kk) = t * 2 ^ q1075 := by rw [pw_kk2]; generalize kk = z; ac_rfl
    rw [e2] at h1 h2
    rw [gm_form, e5] at h1 h2
    have e3 : (2 * mof b + 1) * 2 ^ jof b * (5 ^ K * 2 ^ K) = (2 * mof b + 1) * 5 ^ K * 2 ^ (jof b + K) := by rw [Nat.pow_add]; ac_rfl
    rw [e3] at h1 h2
    rcases Nat.lt_or_ge (jof b + K) q1075 with hlt | hge
    · have hb1 := Nat.le_of_ble_eq_true stick_pow1
      have a1 : (2 * mof b + 1) * 5 ^ K ≤ 2 ^ 54 * 5 ^ q1075 := Nat.mul_le_mul hm (Nat.pow_le_pow_right (by decide) (by omega))
      have a2 : 2 ^ (jof b + K) ≤ 2 ^ q1075 := Nat.pow_le_pow_right (by decide) (by omega)
      have a3 : (2 * mof b + 1) * 5 ^ K * 2 ^ (jof b + K) ≤ T * 2 ^ q1075 := Nat.mul_le_mul (Nat.le_trans a1 (Nat.le_trans hb1 hT)) a2
      exact absurd h1 (Nat.not_lt.2 a3)
    · have e4 : 2 ^ (jof b + K) = 2 ^ (jof b + K - q1075) * 2 ^ q1075 := by
        rw [← Nat.pow_add, Nat.sub_add_cancel hge]
      rw [e4, ← Nat.mul_assoc] at h1 h2
      have c1 := Nat.lt_of_mul_lt_mul_right h1
      have c2 := Nat.lt_of_mul_lt_mul_right h2
      omega
  · have hk0 : (-k).toNat = 0 := by omega
    rw [hk0, Nat.pow_zero, Nat.mul_one, gm_form] at h1
    have hb2 := Nat.le_of_ble_eq_true stick_pow2
    have a1 : (2 * mof b + 1) * 2 ^ jof b ≤ 2 ^ 54 * 2 ^ q2045 := Nat.mul_le_mul hm (Nat.pow_le_pow_right (by decide) hj)
    have a2 : 2 ^ 54 * 2 ^ q2045 ≤ 2 ^ q2100 := by rw [← Nat.pow_add]; exact Nat.pow_le_pow_right (by decide) (by unfold q2100 q2045; omega)
    have a3 : T ≤ T * 10 ^ k.toNat * kk := by
      have p1 : 1 ≤ 10 ^ k.toNat := Nat.pow_pos (by decide)
      have p2 : 1 ≤ kk := by rw [kk_eq]; exact pow2_pos _
      have := Nat.mul_le_mul (Nat.mul_le_mul (Nat.le_refl T) p1) p2
      rwa [Nat.mul_one, Nat.mul_one] at this
    omega
theorem least_ex (P : Nat → Prop) : ∀ N, ∃ lo, lo ≤ N ∧ (∀ b, b < lo → ¬ P b) ∧ (lo < N → P lo)
  | 0 => ⟨0, Nat.le_refl _, fun b h => absurd h (Nat.not_lt_zero _), fun h => absurd h (Nat.lt_irrefl _)⟩
  | N + 1 => by
    obtain ⟨lo, h1, h2, h3⟩ := least_ex P N
    rcases Nat.lt_or_ge lo N with h | h
    · exact ⟨lo, by omega, h2, fun _ => h3 h⟩
    · obtain rfl : lo = N := by omega
      by_cases hp : P lo
      · exact ⟨lo, by omega, h2, fun _ => hp⟩
      · refine ⟨lo + 1, Nat.le_refl _, fun b hb => ?_, fun h => absurd h (Nat.lt_irrefl _)⟩
        rcases Nat.lt_or_ge b lo with h4 | h4
        · exact h2 b h4
        · obtain rfl : b = lo := by omega
          exact hp
theorem near_at {x y lo : Nat} (hy : 0 < y) (h0 : lo ≤ 9218868437227405312) (h1 : ∀ b, b < lo → gm b * y < 2 * (x * kk)) (h2 : lo < 9218868437227405312 → 2 * (x * kk) < gm lo * y) : near x y = lo := by
  have := nb_least hy (stepOf_step (x * kk) hy) h0 h1 (fun h => Nat.le_of_lt (h2 h))
  unfold near
  rw [this]
  by_cases h : lo < 9218868437227405312
  · rw [if_neg (fun hh => by have := h2 h; omega)]
  · rw [if_neg (fun hh => h hh.1)]
/-- the nearest float is told by the numbers between which the number lies -/
theorem near_between {T x y : Nat} {k : Int} (hy : 0 < y) (hT : 10 ^ q899 ≤ T) (h1 : T * 10 ^ k.toNat * y < x * 10 ^ (-k).toNat) (h2 : x * 10 ^ (-k).toNat < (T + 1) * 10 ^ k.toNat * y) :
    ∃ lo, lo ≤ 9218868437227405312 ∧ (∀ b, b < lo → ¬ 2 * (T * 10 ^ k.toNat * kk) < gm b * 10 ^ (-k).toNat) ∧ (lo < 9218868437227405312 → 2 * (T * 10 ^ k.toNat * kk) < gm lo * 10 ^ (-k).toNat) ∧ near x y = lo := by
  obtain ⟨lo, a1, a2, a3⟩ := least_ex (fun b => 2 * (T * 10 ^ k.toNat * kk) < gm b * 10 ^ (-k).toNat) 9218868437227405312
  refine ⟨lo, a1, a2, a3, near_at hy a1 (fun b hb => ?_) (fun h => ?_)⟩
  · have h := Nat.not_lt.1 (a2 b hb)
    have hkk : 0 < kk := by rw [kk_eq]; exact pow2_pos _
    have hD : 0 < 10 ^ (-k).toNat := Nat.pow_pos (by decide)
    generalize 10 ^ (-k).toNat = D at *
    generalize T * 10 ^ k.toNat = N0 at *
    generalize gm b = g at *
    generalize kk = K at *
    have c1 : g * D * y ≤ 2 * (N0 * K) * y := Nat.mul_le_mul_right _ h
    have c2 : 2 * (N0 * y) * K < 2 * (x * D) * K := Nat.mul_lt_mul_of_pos_right (by omega) hkk
    have c3 : g * y * D < 2 * (x * K) * D := by
      rw [show g * y * D = g * D * y by ac_rfl, show 2 * (x * K) * D = 2 * (x * D) * K by ac_rfl]
      rw [show 2 * (N0 * K) * y = 2 * (N0 * y) * K by ac_rfl] at c1
      omega
    exact Nat.lt_of_mul_lt_mul_right c3
  · have h4 := a3 h
    have h5 : 2 * ((T + 1) * 10 ^ k.toNat * kk) ≤ gm lo * 10 ^ (-k).toNat := Nat.not_lt.1 fun h6 => no_mid h hT h4 h6
    have hkk : 0 < kk := by rw [kk_eq]; exact pow2_pos _
    have hD : 0 < 10 ^ (-k).toNat := Nat.pow_pos (by decide)
    generalize 10 ^ (-k).toNat = D at *
    generalize (T + 1) * 10 ^ k.toNat = N1 at *
    generalize gm lo = g at *
    generalize kk = K at *
    have c1 : 2 * (N1 * K) * y ≤ g * D * y := Nat.mul_le_mul_right _ h5
    have c2 : 2 * (x * D) * K < 2 * (N1 * y) * K := Nat.mul_lt_mul_of_pos_right (by omega) hkk
    have c3 : 2 * (x * K) * D < g * y * D := by
      rw [show g * y * D = g * D * y by ac_rfl, show 2 * (x * K) * D = 2 * (x * D) * K by ac_rfl]
      rw [show 2 * (N1 * K) * y = 2 * (N1 * y) * K by ac_rfl] at c1
      omega
    exact Nat.lt_of_mul_lt_mul_right c3
theorem near_stick {T x y x' y' : Nat} {k : Int} (hy : 0 < y) (hy' : 0 < y') (hT : 10 ^ q899 ≤ T) (h1 : T * 10 ^ k.toNat * y < x * 10 ^ (-k).toNat) (h2 : x * 10 ^ (-k).toNat < (T + 1) * 10 ^ k.toNat * y)
    (h1' : T * 10 ^ k.toNat * y' < x' * 10 ^ (-k).toNat) (h2' : x' * 10 ^ (-k).toNat < (T + 1) * 10 ^ k.toNat * y') : near x y = near x' y' := by
  obtain ⟨lo, a1, a2, a3, a4⟩ := near_between hy hT h1 h2
  obtain ⟨lo', b1, b2, b3, b4⟩ := near_between hy' hT h1' h2'
  rw [a4, b4]
  rcases Nat.lt_trichotomy lo lo' with h | h | h
  · exact absurd (a3 (by omega)) (b2 lo h)
  · exact h
  · exact absurd (b3 (by omega)) (a2 lo' h)
/-- the float nearest to digits times a power of ten -/
def nearD (V : Nat) (e : Int) : Nat := near (V * 10 ^ e.toNat) (10 ^ (-e).toNat)
theorem nearD_shift (V : Nat) (e : Int) (j : Nat) : nearD (V * 10 ^ j) e = nearD V (e + j) := by
  unfold nearD
  refine near_same (Nat.pow_pos (by decide)) (Nat.pow_pos (by decide)) ?_
  rw [Nat.mul_assoc, Nat.mul_assoc, Nat.mul_assoc, ← Nat.pow_add, ← Nat.pow_add, ← Nat.pow_add]
  congr 2; omega
/-- the digits behind the first many ones count as one -/
theorem nearD_stick {T r : Nat} {e : Int} {j : Nat} (hT : 10 ^ q899 ≤ T) (hr : 0 < r) (hr2 : r < 10 ^ j) : nearD (T * 10 ^ j + r) e = nearD (10 * T + 1) (e + j - 1) := by
  have p (n : Nat) : 0 < 10 ^ n := Nat.pow_pos (by decide)
  unfold nearD
  refine near_stick (T := T) (k := e + j) (p _) (p _) hT ?_ ?_ ?_ ?_
  · have e1 : 10 ^ (e + j).toNat * 10 ^ (-e).toNat = 10 ^ j * (10 ^ e.toNat * 10 ^ (-(e + j)).toNat) := by
      rw [← Nat.pow_add, ← Nat.pow_add, ← Nat.pow_add]; congr 1; omega
    rw [Nat.mul_assoc, e1, Nat.mul_assoc, ← Nat.mul_assoc]
    exact Nat.mul_lt_mul_of_pos_right (by omega) (Nat.mul_pos (p _) (p _))
  · have e1 : 10 ^ (e + j).toNat * 10 ^ (-e).toNat = 10 ^ j * (10 ^ e.toNat * 10 ^ (-(e + j)).toNat) := by
      rw [← Nat.pow_add, ← Nat.pow_add, ← Nat.pow_add]; congr 1; omega
    rw [Nat.mul_assoc (T + 1), e1, Nat.mul_assoc, ← Nat.mul_assoc (T + 1)]
    exact Nat.mul_lt_mul_of_pos_right (by rw [Nat.add_mul]; omega) (Nat.mul_pos (p _) (p _))
  · have e1 : 10 ^ (e + j).toNat * 10 ^ (-(e + j - 1)).toNat = 10 * (10 ^ (e + j - 1).toNat * 10 ^ (-(e + j)).toNat) := by
      rw [← Nat.pow_add, ← Nat.pow_add, ← Nat.pow_succ']; congr 1; omega
    rw [Nat.mul_assoc, e1, Nat.mul_assoc, ← Nat.mul_assoc]
    exact Nat.mul_lt_mul_of_pos_right (by omega) (Nat.mul_pos (p _) (p _))
  · have e1 : 10 ^ (e + j).toNat * 10 ^ (-(e + j - 1)).toNat = 10 * (10 ^ (e + j - 1).toNat * 10 ^ (-(e + j)).toNat) := by
      rw [← Nat.pow_add, ← Nat.pow_add, ← Nat.pow_succ']; congr 1; omega
    rw [Nat.mul_assoc (T + 1), e1, Nat.mul_assoc (10 * T + 1), ← Nat.mul_assoc (T + 1)]
    exact Nat.mul_lt_mul_of_pos_right (by omega) (Nat.mul_pos (p _) (p _))
/-- digits without noughts ahead, however many, are read as the nearest float -/
theorem readB_nearD {l : List UInt8} {x : Int} (hd : Digits l) (hne : bare l ≠ []) (hl : l.length ≤ 3600) : readB l x = nearD (digVal l) x := by
  have hbl := bare_length l
  have hbd := bare_digits hd
  have hv := digVal_bare l
  have hlt := digVal_lt hbd
  have hhead : ∃ c r, bare l = c :: r ∧ c ≠ 48 := by
    cases h : bare l with
    | nil => exact absurd h hne
    | cons c r =>
      refine ⟨c, r, rfl, fun hc => ?_⟩
      have := dw_head (· == 48) l c r h
      rw [hc] at this; simp at this
  have hlo := digVal_low hbd hhead
  have hpos : 0 < (bare l).length := List.length_pos_iff.2 hne
  rw [hv] at hlt hlo
  have hq3 : q310 = 310 := rfl
  have hq4 : q331 = 331 := rfl
  have hsmall : ((bare l).length : Int) + x < -330 → nearD (digVal l) x = 0 := by
    intro h2
    refine near_small ?_ (Nat.pow_pos (by decide))
    have hb := Nat.le_of_ble_eq_true small_pow
    have e : 2 * (digVal l * 10 ^ x.toNat * kk) = digVal l * 10 ^ x.toNat * 2 ^ q1075 := by rw [pw_kk2]; generalize kk = K; ac_rfl
    rw [e]
    refine Nat.le_trans (Nat.mul_le_mul_left _ hb) ?_
    refine Nat.le_trans (Nat.mul_le_mul_right _ (Nat.mul_le_mul_right _ (Nat.le_of_lt hlt))) ?_
    rw [← Nat.pow_add, ← Nat.pow_add]
    exact Nat.pow_le_pow_right (by decide) (by rw [hq4]; omega)
  unfold readB
  by_cases h0 : x < -4000
  · rw [if_pos (.inr h0), hsmall (by omega)]
  rw [if_neg (by omega)]
  by_cases h1 : 2000 < x ∨ 310 < ((bare l).length : Int) + x
  · rw [if_pos h1]
    refine (near_inf (Nat.pow_pos (by decide)) ?_).symm
    have hb := Nat.le_of_ble_eq_true big_pow
    refine Nat.le_trans (Nat.mul_le_mul_right _ hb) ?_
    refine Nat.le_trans ?_ (Nat.mul_le_mul_right _ hlo)
    rw [← Nat.pow_add, ← Nat.pow_add]
    exact Nat.pow_le_pow_right (by decide) (by rw [hq3]; omega)
  · rw [if_neg h1]
    by_cases h2 : ((bare l).length : Int) + x < -330
    · rw [if_pos h2, hsmall h2]
    · rw [if_neg h2, hv]; rfl
end Go.Proofs.YtcmpdamfeoaapaaGreatDoor
