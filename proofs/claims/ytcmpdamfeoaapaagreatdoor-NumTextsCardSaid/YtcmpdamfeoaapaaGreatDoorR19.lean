/- Plain: sums and products that are floats are reckoned exactly. -/
import Derived.Test.YtcmpdamfeoaapaaGreatDoorK9
namespace Go.Proofs.YtcmpdamfeoaapaaGreatDoor
open Go
set_option linter.unusedVariables false

theorem vl_zero : vl 0 = 0 := by unfold vl mof; simp
theorem nearest_none (p : Int) : FloatKind.f64.format.nearest false 0 p = 0 := by
  unfold Ieee.Format.nearest
  rw [if_pos rfl]
  rfl
theorem rnd_whole (m g : Nat) (hg : 0 < g) : rnd (m * g) g = m := by
  unfold rnd
  rw [Nat.mul_div_cancel _ hg, Nat.mul_mod_left]
  rw [if_neg (by omega)]
theorem cut_none (n : Nat) : Ieee.Toward.even.cut false n 0 = n := by
  rw [cut_rnd (by omega)]
  have := rnd_whole n 1 (by decide)
  rwa [Nat.mul_one] at this
/-- a value's greatest bit -/
theorem log_place {m P M J : Nat} (hm : m ≠ 0) (hM : M < 2 ^ 53) (hJ : J = 0 ∨ 2 ^ 52 ≤ M) (h : m * 2 ^ P = M * 2 ^ J) : P + m.log2 < 53 + J ∧ (J = 0 ∨ 52 + J ≤ P + m.log2) := by
  have h1 : 2 ^ m.log2 ≤ m := Nat.log2_self_le hm
  have h2 : m < 2 ^ (m.log2 + 1) := Nat.lt_log2_self
  refine ⟨?_, ?_⟩
  · have : 2 ^ (P + m.log2) < 2 ^ (53 + J) := by
      rw [Nat.pow_add, Nat.pow_add, Nat.mul_comm]
      exact Nat.lt_of_le_of_lt (Nat.mul_le_mul_right _ h1) (h ▸ Nat.mul_lt_mul_of_pos_right hM (pow2_pos _))
    exact (Nat.pow_lt_pow_iff_right (by decide)).1 this
  · rcases hJ with hJ | hJ
    · exact .inl hJ
    · right
      have : 2 ^ (52 + J) < 2 ^ (P + (m.log2 + 1)) := by
        rw [Nat.pow_add, Nat.pow_add 2 P, Nat.mul_comm (2 ^ P)]
        exact Nat.lt_of_le_of_lt (Nat.mul_le_mul_right _ hJ) (h ▸ Nat.mul_lt_mul_of_pos_right h2 (pow2_pos _))
      have := (Nat.pow_lt_pow_iff_right (by decide)).1 this
      omega
theorem pow_cancel {a b x y : Nat} (h : a * 2 ^ x = b * 2 ^ (y + x)) : a = b * 2 ^ y := by
  rw [Nat.pow_add, ← Nat.mul_assoc] at h
  exact Nat.eq_of_mul_eq_mul_right (pow2_pos x) h
theorem nearest_exact {m b : Nat} {p : Int} (hb : b < 9218868437227405312) (hp : -1074 ≤ p) (h : m * 2 ^ (p + 1074).toNat = vl b) : FloatKind.f64.format.nearest false m p = b := by
  by_cases h0 : m = 0
  · subst h0
    rw [nearest_none]
    rw [Nat.zero_mul] at h
    exact vl_inj (vl_zero.trans h)
  have e2 : FloatKind.f64.format.binade = 4503599627370496 := by decide
  have e3 : FloatKind.f64.format.infRung = 9218868437227405312 := by decide
  have e4 : FloatKind.f64.format.leastPlace = -1074 := by decide
  have e5 : FloatKind.f64.format.fractionBits = 52 := by decide
  unfold Ieee.Format.nearest
  rw [if_neg h0]
  simp only [e2, e3, e4, e5]
  unfold vl at h
  obtain ⟨P, hP⟩ : ∃ P, P = (p + 1074).toNat := ⟨_, rfl⟩
  rw [← hP] at h
  obtain ⟨l1, l2⟩ := log_place h0 (mof_lt b) (mof_ge b) h
  have hbp := bits_parts b
  generalize mof b = M at *
  generalize jof b = J at *
  have h3 : (2 : Nat) ^ 52 = 4503599627370496 := by decide
  rw [h3] at hbp
  have e8 : max (p + (m.log2 : Int) - (52 : Nat)) (-1074) = (J : Int) - 1074 := by omega
  rw [e8]
  have e11 : ((J : Int) - 1074 - -1074).toNat = J := by omega
  rw [e11]
  have hc : Ieee.Toward.even.cut false (m <<< (p - ((J : Int) - 1074)).toNat) ((J : Int) - 1074 - p).toNat = M := by
    rcases Nat.le_total J P with hj | hj
    · obtain ⟨d, hd⟩ : ∃ d, d = P - J := ⟨_, rfl⟩
      have a1 : ((J : Int) - 1074 - p).toNat = 0 := by omega
      have a2 : (p - ((J : Int) - 1074)).toNat = d := by omega
      rw [a1, a2, cut_none, Nat.shiftLeft_eq]
      have a3 : P = d + J := by omega
      rw [a3] at h
      exact (pow_cancel h.symm).symm
    · obtain ⟨d, hd⟩ : ∃ d, d = J - P := ⟨_, rfl⟩
      have a1 : ((J : Int) - 1074 - p).toNat = d := by omega
      have a2 : (p - ((J : Int) - 1074)).toNat = 0 := by omega
      rw [a1, a2, Nat.shiftLeft_zero]
      have a3 : J = d + P := by omega
      rw [a3] at h
      have a4 := pow_cancel h
      rw [cut_rnd (by omega), a4]
      exact rnd_whole _ _ (pow2_pos _)
  rw [hc, ← hbp, Nat.min_eq_left (Nat.le_of_lt hb)]
  rfl
theorem add_exact {a b c : Nat} (ha : a < 9218868437227405312) (hb : b < 9218868437227405312) (hc : c < 9218868437227405312) (h : vl a + vl b = vl c) : FloatKind.f64.format.add a b = some c := by
  unfold Ieee.Format.add
  rw [read_fin ha, read_fin hb]
  unfold Ieee.Datum.sum Ieee.signed
  simp only [Bool.false_eq_true, if_false, Option.map_some, Option.some.injEq, Ieee.Format.write, Bool.and_self]
  have e1 : ∀ x y : Nat, decide ((x : Int) + (y : Int) < 0) = false := fun x y => decide_eq_false (by omega)
  have e2 : ∀ x y : Nat, ((x : Int) + (y : Int)).natAbs = x + y := fun x y => by omega
  rw [e1, ite_self, e2]
  refine nearest_exact hc (by omega) ?_
  rw [← h]
  unfold vl
  generalize mof a = A
  generalize mof b = B
  generalize jof a = i
  generalize jof b = j
  rw [Nat.shiftLeft_eq, Nat.shiftLeft_eq, Nat.add_mul, Nat.mul_assoc, Nat.mul_assoc, ← Nat.pow_add, ← Nat.pow_add]
  rw [show ((i : Int) - 1074 - min ((i : Int) - 1074) ((j : Int) - 1074)).toNat + (min ((i : Int) - 1074) ((j : Int) - 1074) + 1074).toNat = i by omega]
  rw [show ((j : Int) - 1074 - min ((i : Int) - 1074) ((j : Int) - 1074)).toNat + (min ((i : Int) - 1074) ((j : Int) - 1074) + 1074).toNat = j by omega]
theorem mul_exact {a b c : Nat} (ha : a < 9218868437227405312) (hb : b < 9218868437227405312) (hc : c < 9218868437227405312) (hj : bias ≤ jof a + jof b) (h : vl a * vl b = vl c * kk) : FloatKind.f64.format.mul a b = some c := by
  unfold Ieee.Format.mul
  rw [read_fin ha, read_fin hb]
  unfold Ieee.Datum.product
  simp only [Option.map_some, Option.some.injEq, Ieee.Format.write, Bool.xor_self]
  have hbi : bias = 1074 := rfl
  refine nearest_exact hc (by omega) ?_
  have e : ((jof a : Int) - 1074 + ((jof b : Int) - 1074) + 1074).toNat = jof a + jof b - bias := by omega
  rw [e]
  unfold kk at h
  unfold vl at h ⊢
  generalize mof a = A at *
  generalize mof b = B at *
  generalize mof c = C at *
  generalize jof a = i at *
  generalize jof b = j at *
  generalize jof c = k at *
  generalize bias = K at *
  obtain ⟨d, hd⟩ : ∃ d, d = i + j - K := ⟨_, rfl⟩
  rw [← hd]
  have e2 : i + j = d + K := by omega
  have e3 : A * 2 ^ i * (B * 2 ^ j) = A * B * 2 ^ d * 2 ^ K := by
    rw [show A * 2 ^ i * (B * 2 ^ j) = A * B * (2 ^ i * 2 ^ j) by ac_rfl, ← Nat.pow_add, e2, Nat.pow_add]
    ac_rfl
  rw [e3] at h
  exact Nat.eq_of_mul_eq_mul_right (pow2_pos K) h
theorem jof_whole {n b : Nat} (hn : 0 < n) (h : vl b = n * kk) : bias < jof b + 53 := by
  have h1 := mof_lt b
  unfold vl at h
  have h2 : 1 * kk ≤ n * kk := Nat.mul_le_mul_right _ hn
  rw [Nat.one_mul] at h2
  unfold kk at *
  generalize mof b = M at *
  generalize jof b = J at *
  generalize bias = K at *
  have h3 : 2 ^ K < 2 ^ (J + 53) := by
    rw [Nat.pow_add, Nat.mul_comm]
    exact Nat.lt_of_le_of_lt (Nat.le_trans h2 (Nat.le_of_eq h.symm)) (Nat.mul_lt_mul_of_pos_right h1 (pow2_pos _))
  exact (Nat.pow_lt_pow_iff_right (by decide)).1 h3
/-- a natural as a float -/
def ofN (n : Nat) : Nat := FloatKind.f64.nearest (n : Int)
theorem ofN_fin {n : Nat} (h : n < 9007199254740992) : ofN n < 9218868437227405312 ∧ vl (ofN n) = n * kk := whole_bits h
theorem add_whole {m n : Nat} (h : m + n < 9007199254740992) : FloatKind.f64.format.add (ofN m) (ofN n) = some (ofN (m + n)) := by
  obtain ⟨a1, a2⟩ := ofN_fin (n := m) (by omega)
  obtain ⟨b1, b2⟩ := ofN_fin (n := n) (by omega)
  obtain ⟨c1, c2⟩ := ofN_fin h
  exact add_exact a1 b1 c1 (by rw [a2, b2, c2, Nat.add_mul])
theorem ofN_zero : ofN 0 = 0 := by
  obtain ⟨a1, a2⟩ := ofN_fin (n := 0) (by decide)
  rw [Nat.zero_mul] at a2
  exact vl_inj (a2.trans vl_zero.symm)
theorem mul_zero_left (b : Nat) (hb : b < 9218868437227405312) : FloatKind.f64.format.mul 0 b = some 0 := by
  unfold Ieee.Format.mul
  rw [read_fin (b := 0) (by decide), read_fin hb]
  unfold Ieee.Datum.product
  simp only [Option.map_some, Option.some.injEq, Ieee.Format.write, Bool.xor_self]
  have e : mof 0 = 0 := by unfold mof; simp
  rw [e, Nat.zero_mul, nearest_none]
theorem mul_whole {m n : Nat} (h : m * n < 9007199254740992) (hn : 0 < n) (hn3 : n < 9007199254740992) : FloatKind.f64.format.mul (ofN m) (ofN n) = some (ofN (m * n)) := by
  by_cases hm : m = 0
  · subst hm
    rw [Nat.zero_mul] at h ⊢
    rw [ofN_zero]
    by_cases hn2 : n < 9007199254740992
    · exact mul_zero_left _ (ofN_fin hn2).1
    · exact absurd hn3 hn2
  have hm2 : m ≤ m * n := Nat.le_mul_of_pos_right _ hn
  have hn2 : n ≤ m * n := Nat.le_mul_of_pos_left _ (by omega)
  obtain ⟨a1, a2⟩ := ofN_fin (n := m) (by omega)
  obtain ⟨b1, b2⟩ := ofN_fin (n := n) (by omega)
  obtain ⟨c1, c2⟩ := ofN_fin h
  refine mul_exact a1 b1 c1 ?_ ?_
  · have h1 := jof_whole (by omega) a2
    have h2 := jof_whole hn b2
    have h3 : 106 ≤ bias := of_decide_eq_true rfl
    clear a2 b2 c2
    generalize bias = K at *
    omega
  · rw [a2, b2, c2]
    generalize kk = K
    ac_rfl
end Go.Proofs.YtcmpdamfeoaapaaGreatDoor
