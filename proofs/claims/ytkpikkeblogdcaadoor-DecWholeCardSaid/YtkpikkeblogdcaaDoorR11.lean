/- Plain: half a digit below and above what is written. -/
import Derived.Test.YtkpikkeblogdcaaDoorR10
namespace Go.Proofs.YtkpikkeblogdcaaDoor
open Go

theorem digVal_bare : ∀ l : List UInt8, digVal (bare l) = digVal l
  | [] => rfl
  | c :: r => by
    by_cases h : c = 48
    · subst h
      rw [bare_nought, digVal_bare r, digVal_cons]
      have e : (UInt8.toNat 48 - 48 : Nat) = 0 := by decide
      rw [e, Nat.zero_mul, Nat.zero_add]
    · rw [bare_self h]
theorem near_self {b : Nat} (h : b < 9218868437227405312) : near (mant b * 2 ^ (expo b).toNat) (2 ^ (-(expo b)).toNat) = b := by
  obtain ⟨h1, h2, h3⟩ := mant_mof h
  have h4 := pow2_int h3
  rw [h2] at h4
  refine near_exact (pow2_pos _) ?_ (Nat.le_of_lt h)
  rw [h1, Nat.mul_comm (2 ^ jof b), h4, Nat.mul_assoc, Nat.mul_comm kk]
theorem cross_lo {A B c : Nat} {k : Int} (h : c * (10 ^ (-k).toNat * B) ≤ 10 * (A * 10 ^ k.toNat)) : c * 10 ^ (-(k + 1)).toNat * B ≤ A * 10 ^ (k + 1).toNat := by
  rcases Int.lt_or_le k 0 with hk | hk
  · rw [show (-k).toNat = (-(k + 1)).toNat + 1 by omega, show k.toNat = 0 by omega, Nat.pow_succ, Nat.pow_zero, Nat.mul_one] at h
    rw [show (k + 1).toNat = 0 by omega, Nat.pow_zero, Nat.mul_one]
    generalize 10 ^ (-(k + 1)).toNat = D at *
    have e : c * (D * 10 * B) = 10 * (c * D * B) := by ac_rfl
    rw [e] at h
    omega
  · rw [show (-k).toNat = 0 by omega, Nat.pow_zero, Nat.one_mul] at h
    rw [show (k + 1).toNat = k.toNat + 1 by omega, show (-(k + 1)).toNat = 0 by omega, Nat.pow_succ, Nat.pow_zero, Nat.mul_one]
    generalize 10 ^ k.toNat = D at *
    have e : A * (D * 10) = 10 * (A * D) := by ac_rfl
    rw [e]
    exact h
theorem cross_hi {A B c : Nat} {k : Int} (h : 10 * (A * 10 ^ k.toNat) ≤ c * (10 ^ (-k).toNat * B)) : A * 10 ^ (k + 1).toNat ≤ c * 10 ^ (-(k + 1)).toNat * B := by
  rcases Int.lt_or_le k 0 with hk | hk
  · rw [show (-k).toNat = (-(k + 1)).toNat + 1 by omega, show k.toNat = 0 by omega, Nat.pow_succ, Nat.pow_zero, Nat.mul_one] at h
    rw [show (k + 1).toNat = 0 by omega, Nat.pow_zero, Nat.mul_one]
    generalize 10 ^ (-(k + 1)).toNat = D at *
    have e : c * (D * 10 * B) = 10 * (c * D * B) := by ac_rfl
    rw [e] at h
    omega
  · rw [show (-k).toNat = 0 by omega, Nat.pow_zero, Nat.one_mul] at h
    rw [show (k + 1).toNat = k.toNat + 1 by omega, show (-(k + 1)).toNat = 0 by omega, Nat.pow_succ, Nat.pow_zero, Nat.mul_one]
    generalize 10 ^ k.toNat = D at *
    have e : A * (D * 10) = 10 * (A * D) := by ac_rfl
    rw [e]
    exact h
theorem numP_eq (b : Nat) (k : Int) : numP b k = mant b * 2 ^ (expo b).toNat * 10 ^ k.toNat := by unfold numP; ac_rfl
theorem lo_le {b p : Nat} {x : Int} {t : List UInt8} (h : b < 9218868437227405312) (hx1 : -325 ≤ x) (hx2 : x ≤ 309) (hp : p ≤ 200) (hN : 0 < scaledN b (p - x)) (hl : t.length ≤ p + 1) (hv : digVal t = scaledN b (p - x) - 1) : readB (t ++ [53]) (x - p - 1) ≤ b := by
  by_cases h0 : (bare (t ++ [53])).length = 0
  · rw [readB_nil (List.eq_nil_of_length_eq_zero h0)]
    exact Nat.zero_le _
  · have hbl : (bare (t ++ [53])).length ≤ p + 2 := by
      have := bare_length (t ++ [53])
      rw [List.length_append] at this
      simp at this
      omega
    rcases Int.lt_or_le ((bare (t ++ [53])).length + (x - p - 1)) (-330) with c3 | c3
    · rw [readB_low (by omega) (by omega)]
      exact Nat.zero_le _
    · rw [readB_near h0 (by omega) (by omega) (by omega) (by omega), digVal_bare, digVal_snoc, hv]
      have e5 : (UInt8.toNat 53 - 48 : Nat) = 5 := by decide
      rw [e5]
      have hs := (scaledN_spec b (p - x)).2
      have hs2 : (10 * (scaledN b (p - x) - 1) + 5) * denQ b (p - x) ≤ 10 * numP b (p - x) := by
        obtain ⟨N, hNe⟩ : ∃ N, scaledN b (p - x) = N + 1 := ⟨scaledN b (p - x) - 1, by omega⟩
        rw [hNe] at hs ⊢
        generalize denQ b (p - x) = Q at *
        generalize numP b (p - x) = P at *
        have e1 : 2 * (N + 1) * Q = 2 * (N * Q) + 2 * Q := by rw [Nat.mul_assoc, Nat.succ_mul N, Nat.mul_add]
        have e2 : (10 * (N + 1 - 1) + 5) * Q = 10 * (N * Q) + 5 * Q := by rw [Nat.add_sub_cancel, Nat.add_mul, Nat.mul_assoc]
        rw [e1] at hs
        rw [e2]
        omega
      generalize 10 * (scaledN b (p - x) - 1) + 5 = c at *
      rw [numP_eq] at hs2
      have h4 := cross_lo hs2
      have h5 : near (c * 10 ^ (x - p - 1).toNat) (10 ^ (-(x - p - 1)).toNat) ≤ near (mant b * 2 ^ (expo b).toNat) (2 ^ (-(expo b)).toNat) := by
        refine near_mono (Nat.pow_pos (by decide)) (pow2_pos _) ?_
        rw [show x - p - 1 = -((p : Int) - x + 1) by omega, Int.neg_neg]
        exact h4
      rw [near_self h] at h5
      exact h5
theorem hi_ge {b p : Nat} {x : Int} {l : List UInt8} (h : b < 9218868437227405312) (hx1 : -325 ≤ x) (hx2 : x ≤ 309) (hp : p ≤ 200) (hN : 0 < scaledN b (p - x)) (hl : l.length = p + 1) (hc : Canon l (scaledN b (p - x))) : b ≤ readB (l ++ [53]) (x - p - 1) := by
  have hb : bare (l ++ [53]) = l ++ [53] := by
    obtain ⟨c, r, rfl, hcc⟩ := canon_pos_text hc hN
    exact bare_self hcc
  have hbl : (bare (l ++ [53])).length = p + 2 := by rw [hb, List.length_append, hl]; rfl
  rw [readB_near (by omega) (by omega) (by omega) (by omega) (by omega), hb, digVal_snoc, hc.val]
  have e5 : (UInt8.toNat 53 - 48 : Nat) = 5 := by decide
  rw [e5]
  have hs := (scaledN_spec b (p - x)).1
  have hs2 : 10 * numP b (p - x) ≤ (10 * scaledN b (p - x) + 5) * denQ b (p - x) := by
    generalize scaledN b (p - x) = N at *
    generalize denQ b (p - x) = Q at *
    generalize numP b (p - x) = P at *
    have e1 : (2 * N + 1) * Q = 2 * (N * Q) + Q := by rw [Nat.succ_mul, Nat.mul_assoc]
    have e2 : (10 * N + 5) * Q = 10 * (N * Q) + 5 * Q := by rw [Nat.add_mul, Nat.mul_assoc]
    rw [e1] at hs
    rw [e2]
    omega
  generalize 10 * scaledN b (p - x) + 5 = c at *
  rw [numP_eq] at hs2
  have h4 := cross_hi hs2
  have h5 : near (mant b * 2 ^ (expo b).toNat) (2 ^ (-(expo b)).toNat) ≤ near (c * 10 ^ (x - p - 1).toNat) (10 ^ (-(x - p - 1)).toNat) := by
    refine near_mono (pow2_pos _) (Nat.pow_pos (by decide)) ?_
    rw [show x - p - 1 = -((p : Int) - x + 1) by omega, Int.neg_neg]
    exact h4
  rw [near_self h] at h5
  exact h5
end Go.Proofs.YtkpikkeblogdcaaDoor
