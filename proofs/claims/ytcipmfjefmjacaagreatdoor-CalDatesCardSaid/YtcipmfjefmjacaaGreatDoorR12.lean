/- Plain: whole numbers below 2^53 as floats. -/
import Derived.Test.YtcipmfjefmjacaaGreatDoorR8
namespace Go.Proofs.YtcipmfjefmjacaaGreatDoor
open Go
theorem kk_pos : 0 < kk := by unfold kk; exact pow2_pos _
theorem places {k : Nat} (h : k ≤ 52) : 52 - k + (k + 1022) = bias := by
  obtain ⟨d, hd⟩ : ∃ d, d = 52 - k := ⟨_, rfl⟩
  rw [← hd]
  have h2 : d + k = 52 := by omega
  rw [← Nat.add_assoc, h2]
  rfl
theorem whole_bits {n : Nat} (h : n < 9007199254740992) : FloatKind.f64.nearest (n : Int) < 9218868437227405312 ∧ mof (FloatKind.f64.nearest (n : Int)) * 2 ^ jof (FloatKind.f64.nearest (n : Int)) = n * kk := by
  have e2 : FloatKind.f64.format.binade = 4503599627370496 := by decide
  have e3 : FloatKind.f64.format.infRung = 9218868437227405312 := by decide
  have e4 : FloatKind.f64.format.leastPlace = -1074 := by decide
  have e5 : FloatKind.f64.format.fractionBits = 52 := by decide
  have e6 : FloatKind.f64.nearest (n : Int) = FloatKind.f64.format.nearest false n 0 := by
    unfold FloatKind.nearest FloatKind.encode Ieee.Format.write
    simp
    rw [decide_eq_false (by omega)]
  rw [e6]
  unfold Ieee.Format.nearest
  by_cases h0 : n = 0
  · subst h0
    rw [if_pos rfl]
    have e7 : FloatKind.f64.format.word false 0 = 0 := by decide
    rw [e7]
    refine ⟨by decide, ?_⟩
    rw [show mof 0 = 0 by decide, Nat.zero_mul, Nat.zero_mul]
  · rw [if_neg h0]
    have hlog := Nat.log2_lt h0 (k := 53)
    have hl1 : n.log2 < 53 := hlog.2 h
    have hl2 : 2 ^ n.log2 ≤ n := Nat.log2_self_le h0
    have hl3 : n < 2 ^ (n.log2 + 1) := Nat.lt_log2_self
    generalize n.log2 = k at *
    simp only [e2, e3, e4, e5]
    have e8 : max ((0 : Int) + (k : Int) - (52 : Nat)) (-1074) = (k : Int) - 52 := by omega
    rw [e8]
    have e9 : ((0 : Int) - ((k : Int) - 52)).toNat = 52 - k := by omega
    have e10 : ((k : Int) - 52 - 0).toNat = 0 := by omega
    have e11 : ((k : Int) - 52 - -1074).toNat = k + 1022 := by omega
    rw [e9, e10, e11]
    obtain ⟨m, hm⟩ : ∃ m, m = n * 2 ^ (52 - k) := ⟨_, rfl⟩
    have ecut : Ieee.Toward.even.cut false (n <<< (52 - k)) 0 = m := by
      rw [Nat.shiftLeft_eq, ← hm]
      unfold Ieee.Toward.cut
      simp [Nat.mod_one]
    rw [ecut]
    have hm1 : 2 ^ 52 ≤ m := by
      have h1 : 2 ^ k * 2 ^ (52 - k) ≤ n * 2 ^ (52 - k) := Nat.mul_le_mul_right _ hl2
      rw [← Nat.pow_add, show k + (52 - k) = 52 by omega] at h1
      omega
    have hm2 : m < 2 ^ 53 := by
      have h1 : n * 2 ^ (52 - k) < 2 ^ (k + 1) * 2 ^ (52 - k) := Nat.mul_lt_mul_of_pos_right hl3 (pow2_pos _)
      rw [← Nat.pow_add, show k + 1 + (52 - k) = 53 by omega] at h1
      omega
    have e7 : (2 : Nat) ^ 52 = 4503599627370496 := by decide
    have e7b : (2 : Nat) ^ 53 = 9007199254740992 := by decide
    rw [e7] at hm1
    rw [e7b] at hm2
    have hlt : (k + 1022) * 4503599627370496 + m < 9218868437227405312 := by omega
    have ew : FloatKind.f64.format.word false (min ((k + 1022) * 4503599627370496 + m) 9218868437227405312) = (k + 1022) * 4503599627370496 + m := by
      unfold Ieee.Format.word
      rw [Nat.min_eq_left (Nat.le_of_lt hlt)]
      rfl
    rw [ew]
    refine ⟨hlt, ?_⟩
    have hj : jof ((k + 1022) * 4503599627370496 + m) = k + 1022 := by unfold jof; rw [e7]; omega
    have hmm : mof ((k + 1022) * 4503599627370496 + m) = m := by unfold mof; rw [e7, if_neg (by omega)]; omega
    rw [hj, hmm, hm, Nat.mul_assoc, ← Nat.pow_add]
    have eb := places (show k ≤ 52 by omega)
    exact congrArg (fun z => n * 2 ^ z) eb
end Go.Proofs.YtcipmfjefmjacaaGreatDoor
