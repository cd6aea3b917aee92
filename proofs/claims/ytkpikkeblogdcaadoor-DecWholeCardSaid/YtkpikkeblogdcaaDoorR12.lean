/- Plain: whole numbers below 2^53 as floats. -/
import Derived.Test.YtkpikkeblogdcaaDoorR11
import Derived.Test.YtkpikkeblogdcaaDoorL5
import Derived.Test.YtkpikkeblogdcaaDoorL7
namespace Go.Proofs.YtkpikkeblogdcaaDoor
open Go

theorem kk_pos : 0 < kk := by unfold kk; exact pow2_pos _
theorem places {k : Nat} (h : k ≤ 52) : 52 - k + (k + 1022) = bias := by
  obtain ⟨d, hd⟩ : ∃ d, d = 52 - k := ⟨_, rfl⟩
  rw [← hd]
  have h2 : d + k = 52 := by omega
  rw [← Nat.add_assoc, h2]
  rfl
theorem whole_bits {n : Nat} (h : n < 9007199254740992) : FloatKind.f64.nearest (n : Int) < 9218868437227405312 ∧ mof (FloatKind.f64.nearest (n : Int)) * 2 ^ jof (FloatKind.f64.nearest (n : Int)) = n * kk := by
  have e2 : FloatKind.f64.format.binade = 4503599627370496 := by decide
  have e3 : FloatKind.f64.format.infRung = 9218868437227405312 := by decide
  have e4 : FloatKind.f64.format.leastPlace = -1074 := by decide
  have e5 : FloatKind.f64.format.fractionBits = 52 := by decide
  have e6 : FloatKind.f64.nearest (n : Int) = FloatKind.f64.format.nearest false n 0 := by
    unfold FloatKind.nearest FloatKind.encode Ieee.Format.write
    simp
    rw [decide_eq_false (by omega)]
  rw [e6]
  unfold Ieee.Format.nearest
  by_cases h0 : n = 0
  · subst h0
    rw [if_pos rfl]
    have e7 : FloatKind.f64.format.word false 0 = 0 := by decide
    rw [e7]
    refine ⟨by decide, ?_⟩
    rw [show mof 0 = 0 by decide, Nat.zero_mul, Nat.zero_mul]
  · rw [if_neg h0]
    have hlog := Nat.log2_lt h0 (k := 53)
    have hl1 : n.log2 < 53 := hlog.2 h
    have hl2 : 2 ^ n.log2 ≤ n := Nat.log2_self_le h0
    have hl3 : n < 2 ^ (n.log2 + 1) := Nat.lt_log2_self
    generalize n.log2 = k at *
    simp only [e2, e3, e4, e5]
    have e8 : max ((0 : Int) + (k : Int) - (52 : Nat)) (-1074) = (k : Int) - 52 := by omega
    rw [e8]
    have e9 : ((0 : Int) - ((k : Int) - 52)).toNat = 52 - k := by omega
    have e10 : ((k : Int) - 52 - 0).toNat = 0 := by omega
    have e11 : ((k : Int) - 52 - -1074).toNat = k + 1022 := by omega
    rw [e9, e10, e11]
    obtain ⟨m, hm⟩ : ∃ m, m = n * 2 ^ (52 - k) := ⟨_, rfl⟩
    have ecut : Ieee.Toward.even.cut false (n <<< (52 - k)) 0 = m := by
      rw [Nat.shiftLeft_eq, ← hm]
      unfold Ieee.Toward.cut
      simp [Nat.mod_one]
    rw [ecut]
    have hm1 : 2 ^ 52 ≤ m := by
      have h1 : 2 ^ k * 2 ^ (52 - k) ≤ n * 2 ^ (52 - k) := Nat.mul_le_mul_right _ hl2
      rw [← Nat.pow_add, show k + (52 - k) = 52 by omega] at h1
      omega
    have hm2 : m < 2 ^ 53 := by
      have h1 : n * 2 ^ (52 - k) < 2 ^ (k + 1) * 2 ^ (52 - k) := Nat.mul_lt_mul_of_pos_right hl3 (pow2_pos _)
      rw [← Nat.pow_add, show k + 1 + (52 - k) = 53 by omega] at h1
      omega
    have e7 : (2 : Nat) ^ 52 = 4503599627370496 := by decide
    have e7b : (2 : Nat) ^ 53 = 9007199254740992 := by decide
    rw [e7] at hm1
    rw [e7b] at hm2
    have hlt : (k + 1022) * 4503599627370496 + m < 9218868437227405312 := by omega
    have ew : FloatKind.f64.format.word false (min ((k + 1022) * 4503599627370496 + m) 9218868437227405312) = (k + 1022) * 4503599627370496 + m := by
      unfold Ieee.Format.word
      rw [Nat.min_eq_left (Nat.le_of_lt hlt)]
      rfl
    rw [ew]
    refine ⟨hlt, ?_⟩
    have hj : jof ((k + 1022) * 4503599627370496 + m) = k + 1022 := by unfold jof; rw [e7]; omega
    have hmm : mof ((k + 1022) * 4503599627370496 + m) = m := by unfold mof; rw [e7, if_neg (by omega)]; omega
    rw [hj, hmm, hm, Nat.mul_assoc, ← Nat.pow_add]
    have eb := places (show k ≤ 52 by omega)
    exact congrArg (fun z => n * 2 ^ z) eb
theorem scaledN_whole {B n : Nat} (k : Nat) (hB : B < 9218868437227405312) (hv : mof B * 2 ^ jof B = n * kk) : scaledN B (k : Int) = n * 10 ^ k := by
  have h1 := value_P hB (k : Int)
  have e1 : ((k : Int)).toNat = k := rfl
  have hQ : denQ B (k : Int) = 2 ^ (-(expo B)).toNat := by
    unfold denQ
    rw [show (-(k : Int)).toNat = 0 by omega, Nat.pow_zero, Nat.one_mul]
  have hk : 0 < kk := kk_pos
  have h2 : numP B (k : Int) = n * 10 ^ k * denQ B (k : Int) := by
    rw [← Nat.mul_assoc, hv, e1] at h1
    rw [hQ]
    refine Nat.eq_of_mul_eq_mul_right hk ?_
    rw [← h1]
    generalize kk = K
    ac_rfl
  have h3 : scaledN B (k : Int) = rnd (numP B (k : Int)) (denQ B (k : Int)) := rfl
  rw [h3, h2]
  have hQ0 := denQ_pos B (k : Int)
  exact rnd_close (by omega) (by omega)
theorem canon_shift {l : List UInt8} {n : Nat} (h : Canon l n) (hn : 0 < n) (k : Nat) : Canon (l ++ List.replicate k 48) (n * 10 ^ k) := by
  obtain ⟨c, r, rfl, hc⟩ := canon_pos_text h hn
  refine ⟨by simp, ?_, ?_, ?_⟩
  · intro x hx
    rcases List.mem_append.1 hx with h1 | h1
    · exact h.dig x h1
    · rw [(List.mem_replicate.1 h1).2]; decide
  · rw [digVal_app, digVal_noughts, h.val, List.length_replicate, Nat.add_zero]
  · intro c' r' he h48
    rw [List.cons_append] at he
    injection he with h1 h2
    exact absurd (UInt8.toNat_inj.1 (h1 ▸ h48)) hc
theorem fixedL_zero {l : List UInt8} (h : l ≠ []) : fixedL l 0 = l := by
  have h1 : ¬ l.length ≤ 0 := by have := List.length_pos_iff.2 h; omega
  simp [fixedL, h1]
theorem fixedL_whole {l l2 : List UInt8} {n k : Nat} (h : Canon l n) (h2 : Canon l2 (n * 10 ^ k)) (hk : 0 < k) : fixedL l2 k = l ++ 46 :: List.replicate k 48 := by
  rcases Nat.eq_zero_or_pos n with hn | hn
  · subst hn
    rw [Nat.zero_mul] at h2
    rw [canon_zero_text h, canon_zero_text h2]
    unfold fixedL
    simp only [List.length_singleton]
    rw [if_pos (show 1 ≤ k by omega), if_pos hk]
    have e : List.replicate (k + 1 - 1) 48 ++ [48] = (48 : UInt8) :: List.replicate k 48 := by
      rw [Nat.add_sub_cancel, ← List.replicate_succ', List.replicate_succ]
    rw [e]
    simp only [List.length_cons, List.length_replicate]
    rw [Nat.add_sub_cancel_left]
    rfl
  · have e := canon_unique h2 (canon_shift h hn k)
    subst e
    have hl := List.length_pos_iff.2 h.ne
    unfold fixedL
    simp only
    have hle : ¬ (l ++ List.replicate k 48).length ≤ k := by rw [List.length_append, List.length_replicate]; omega
    rw [if_pos hk, if_neg hle]
    simp
theorem readB_whole {l : List UInt8} {n k B : Nat} (h : Canon l n) (hl : l.length ≤ 20) (hk : k ≤ 20) (hB : B < 9218868437227405312) (hv : mof B * 2 ^ jof B = n * kk) : readB (List.replicate k 48 ++ l ++ List.replicate k 48) (-(k : Int)) = B := by
  have e0 : bare (List.replicate k 48 ++ l ++ List.replicate k 48) = bare (l ++ List.replicate k 48) := by
    rw [List.append_assoc, bare_zeros]
  rcases Nat.eq_zero_or_pos n with hn | hn
  · subst hn
    have hb : bare (l ++ List.replicate k 48) = [] := by
      rw [canon_zero_text h, List.singleton_append, bare_nought, bare_all]
    rw [readB_nil (e0.trans hb)]
    rw [Nat.zero_mul] at hv
    have hm0 : mof B = 0 := by
      rcases Nat.mul_eq_zero.1 hv with h | h
      · exact h
      · have := pow2_pos (jof B); omega
    have hp := bits_parts B
    have hg := mof_ge B
    rcases hg with hg | hg
    · rw [hm0, hg] at hp; omega
    · omega
  · have hc := canon_shift h hn k
    have hb : bare (l ++ List.replicate k 48) = l ++ List.replicate k 48 := bare_pos_text hc (Nat.mul_pos hn (Nat.pow_pos (by decide)))
    have hbl : (bare (List.replicate k 48 ++ l ++ List.replicate k 48)).length = l.length + k := by rw [e0, hb]; simp
    have hl0 := List.length_pos_iff.2 h.ne
    rw [readB_near (by omega) (by omega) (by omega) (by omega) (by omega), e0, hb, hc.val]
    have e1 : (-(k : Int)).toNat = 0 := by omega
    have e2 : (- -(k : Int)).toNat = k := by omega
    rw [e1, e2, Nat.pow_zero, Nat.mul_one]
    refine near_exact (Nat.pow_pos (by decide)) ?_ (Nat.le_of_lt hB)
    rw [← Nat.mul_assoc, hv]
    generalize kk = K
    ac_rfl
end Go.Proofs.YtkpikkeblogdcaaDoor
