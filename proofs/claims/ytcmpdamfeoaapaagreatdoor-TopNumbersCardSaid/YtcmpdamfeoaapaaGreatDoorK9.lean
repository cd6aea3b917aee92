/- Plain: a natural as a float is the nearest one. -/
import Derived.Test.YtcmpdamfeoaapaaGreatDoorK8
namespace Go.Proofs.YtcmpdamfeoaapaaGreatDoor
open Go
set_option linter.unusedVariables false

theorem cut_rnd {n d : Nat} (hd : d ≤ n.log2 + 2) : Ieee.Toward.even.cut false n d = rnd n (2 ^ d) := by
  unfold Ieee.Toward.cut rnd
  rw [Nat.min_eq_left hd, Nat.one_shiftLeft]
  simp only
  generalize 2 ^ d = g
  generalize n / g = q
  generalize n % g = r
  by_cases h : g < 2 * r ∨ 2 * r = g ∧ q % 2 = 1
  · rw [if_pos h]
    have e : (decide (g < 2 * r) || (g == 2 * r && q % 2 == 1)) = true := by
      rw [Bool.or_eq_true, Bool.and_eq_true, decide_eq_true_eq, beq_iff_eq, beq_iff_eq]
      rcases h with h | ⟨h, h2⟩
      · exact .inl h
      · exact .inr ⟨h.symm, h2⟩
    rw [e]; rfl
  · rw [if_neg h]
    have e : (decide (g < 2 * r) || (g == 2 * r && q % 2 == 1)) = false := by
      rw [Bool.or_eq_false_iff, Bool.and_eq_false_iff, decide_eq_false_iff_not, beq_eq_false_iff_ne, beq_eq_false_iff_ne]
      refine ⟨fun h2 => h (.inl h2), ?_⟩
      by_cases h2 : g = 2 * r
      · exact .inr fun h3 => h (.inr ⟨h2.symm, h3⟩)
      · exact .inl h2
    rw [e]; rfl
theorem placesUp {k : Nat} (h : 52 ≤ k) : bias + (k - 52) = k + 1022 := by
  obtain ⟨d, hd⟩ : ∃ d, d = k - 52 := ⟨_, rfl⟩
  have h2 : k = d + 52 := by omega
  rw [← hd, h2, Nat.add_comm bias]
  rfl
theorem near_big {n : Nat} (h : 9007199254740992 ≤ n) : FloatKind.f64.nearest (n : Int) = near n 1 := by
  have e2 : FloatKind.f64.format.binade = 4503599627370496 := by decide
  have e3 : FloatKind.f64.format.infRung = 9218868437227405312 := by decide
  have e4 : FloatKind.f64.format.leastPlace = -1074 := by decide
  have e5 : FloatKind.f64.format.fractionBits = 52 := by decide
  have e6 : FloatKind.f64.nearest (n : Int) = FloatKind.f64.format.nearest false n 0 := by
    unfold FloatKind.nearest FloatKind.encode Ieee.Format.write
    simp
    rw [decide_eq_false (by omega)]
  rw [e6]
  unfold Ieee.Format.nearest
  have h0 : n ≠ 0 := by omega
  rw [if_neg h0]
  have hl2 : 2 ^ n.log2 ≤ n := Nat.log2_self_le h0
  have hl3 : n < 2 ^ (n.log2 + 1) := Nat.lt_log2_self
  have hl1 : 53 ≤ n.log2 := by
    rcases Nat.lt_or_ge n.log2 53 with h1 | h1
    · have h2 := (Nat.log2_lt h0 (k := 53)).1 h1
      have e7b : (2 : Nat) ^ 53 = 9007199254740992 := by decide
      omega
    · exact h1
  have hcut := cut_rnd (n := n) (d := n.log2 - 52) (by omega)
  generalize n.log2 = k at *
  simp only [e2, e3, e4, e5]
  have e8 : max ((0 : Int) + (k : Int) - (52 : Nat)) (-1074) = (k : Int) - 52 := by omega
  rw [e8]
  have e9 : ((0 : Int) - ((k : Int) - 52)).toNat = 0 := by omega
  have e10 : ((k : Int) - 52 - 0).toNat = k - 52 := by omega
  have e11 : ((k : Int) - 52 - -1074).toNat = k + 1022 := by omega
  rw [e9, e10, e11, Nat.shiftLeft_zero, hcut]
  have hpl := placesUp (k := k) (by omega)
  have hkk : kk = 2 ^ bias := rfl
  have hpow : kk * 2 ^ (k - 52) = 2 ^ (k + 1022) := by
    have h3 := Nat.pow_add 2 bias (k - 52)
    rw [hpl] at h3
    exact h3.symm
  have e12 : (2 : Nat) ^ 52 * 2 ^ (k - 52) = 2 ^ k := by rw [← Nat.pow_add, show 52 + (k - 52) = k by omega]
  have hstep : Step (n * kk) 1 (k + 1022) := by
    refine ⟨?_, .inr ?_⟩
    · rw [Nat.mul_one, ← hpow]
      have h1 : n * kk < 2 ^ (k + 1) * kk := Nat.mul_lt_mul_of_pos_right hl3 kk_pos
      have h2 : ∀ c : Nat, 2 ^ 53 * (c * 2 ^ (k - 52)) = 2 ^ (k + 1) * c := by
        intro c
        rw [Nat.pow_succ 2 k, ← e12, two53]
        generalize 2 ^ (k - 52) = g
        generalize 2 ^ 52 = g2
        ac_rfl
      rw [h2]; exact h1
    · rw [Nat.mul_one, ← hpow]
      have h1 : 2 ^ k * kk ≤ n * kk := Nat.mul_le_mul_right _ hl2
      have h2 : ∀ c : Nat, 2 ^ 52 * (c * 2 ^ (k - 52)) = 2 ^ k * c := by
        intro c
        rw [← e12]
        generalize 2 ^ (k - 52) = g
        generalize 2 ^ 52 = g2
        ac_rfl
      rw [h2]; exact h1
  have hn : near n 1 = nb (n * kk) 1 (k + 1022) := step_same (by decide) (by decide) (stepOf_step _ (by decide)) hstep rfl
  rw [hn]
  unfold nb Ieee.Format.word
  have hr : rnd (n * kk) (2 ^ (k + 1022) * 1) = rnd n (2 ^ (k - 52)) := rnd_same (Nat.mul_pos (pow2_pos _) (by decide)) (pow2_pos _) (by rw [Nat.mul_one, ← hpow, Nat.mul_assoc])
  rw [hr, show (2 : Nat) ^ 52 = 4503599627370496 by decide]
  exact if_neg (by decide)
theorem nearest_near (n : Nat) : FloatKind.f64.nearest (n : Int) = near n 1 := by
  rcases Nat.lt_or_ge n 9007199254740992 with h | h
  · obtain ⟨h1, h2⟩ := whole_bits h
    exact (near_exact (by decide) (by rw [Nat.mul_one]; exact h2.symm) (Nat.le_of_lt h1)).symm
  · exact near_big h
end Go.Proofs.YtcmpdamfeoaapaaGreatDoor
