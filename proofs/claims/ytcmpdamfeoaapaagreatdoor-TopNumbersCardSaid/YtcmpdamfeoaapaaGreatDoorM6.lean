/- Several texts in one (R12, L10, K4, K5, K1, K6, B1, P5, P6, P15). -/
import Derived.Test.YtcmpdamfeoaapaaGreatDoorM5
import Derived.Test.YtcmpdamfeoaapaaGreatDoorM4
import Derived.Test.YtcmpdamfeoaapaaGreatDoorShelf
import Derived.Test.YtcmpdamfeoaapaaGreatDoorM1
import Derived.Shelf.Strings.Builder1
import Derived.Lib.AppendIntMem
section
/- Plain: whole numbers below 2^53 as floats. -/
namespace Go.Proofs.YtcmpdamfeoaapaaGreatDoor
open Go

theorem kk_pos : 0 < kk := by unfold kk; exact pow2_pos _
theorem places {k : Nat} (h : k ≤ 52) : 52 - k + (k + 1022) = bias := by
  obtain ⟨d, hd⟩ : ∃ d, d = 52 - k := ⟨_, rfl⟩
  rw [← hd]
  have h2 : d + k = 52 := by omega
  rw [← Nat.add_assoc, h2]
  rfl
theorem whole_bits {n : Nat} (h : n < 9007199254740992) : FloatKind.f64.nearest (n : Int) < 9218868437227405312 ∧ mof (FloatKind.f64.nearest (n : Int)) * 2 ^ jof (FloatKind.f64.nearest (n : Int)) = n * kk := by
  have e2 : FloatKind.f64.format.binade = 4503599627370496 := by decide
  have e3 : FloatKind.f64.format.infRung = 9218868437227405312 := by decide
  have e4 : FloatKind.f64.format.leastPlace = -1074 := by decide
  have e5 : FloatKind.f64.format.fractionBits = 52 := by decide
  have e6 : FloatKind.f64.nearest (n : Int) = FloatKind.f64.format.nearest false n 0 := by
    unfold FloatKind.nearest FloatKind.encode Ieee.Format.write
    simp
    rw [decide_eq_false (by omega)]
  rw [e6]
  unfold Ieee.Format.nearest
  by_cases h0 : n = 0
  · subst h0
    rw [if_pos rfl]
    have e7 : FloatKind.f64.format.word false 0 = 0 := by decide
    rw [e7]
    refine ⟨by decide, ?_⟩
    rw [show mof 0 = 0 by decide, Nat.zero_mul, Nat.zero_mul]
  · rw [if_neg h0]
    have hlog := Nat.log2_lt h0 (k := 53)
    have hl1 : n.log2 < 53 := hlog.2 h
    have hl2 : 2 ^ n.log2 ≤ n := Nat.log2_self_le h0
    have hl3 : n < 2 ^ (n.log2 + 1) := Nat.lt_log2_self
    generalize n.log2 = k at *
    simp only [e2, e3, e4, e5]
    have e8 : max ((0 : Int) + (k : Int) - (52 : Nat)) (-1074) = (k : Int) - 52 := by omega
    rw [e8]
    have e9 : ((0 : Int) - ((k : Int) - 52)).toNat = 52 - k := by omega
    have e10 : ((k : Int) - 52 - 0).toNat = 0 := by omega
    have e11 : ((k : Int) - 52 - -1074).toNat = k + 1022 := by omega
    rw [e9, e10, e11]
    obtain ⟨m, hm⟩ : ∃ m, m = n * 2 ^ (52 - k) := ⟨_, rfl⟩
    have ecut : Ieee.Toward.even.cut false (n <<< (52 - k)) 0 = m := by
      rw [Nat.shiftLeft_eq, ← hm]
      unfold Ieee.Toward.cut
      simp [Nat.mod_one]
    rw [ecut]
    have hm1 : 2 ^ 52 ≤ m := by
      have h1 : 2 ^ k * 2 ^ (52 - k) ≤ n * 2 ^ (52 - k) := Nat.mul_le_mul_right _ hl2
      rw [← Nat.pow_add, show k + (52 - k) = 52 by omega] at h1
      omega
    have hm2 : m < 2 ^ 53 := by
      have h1 : n * 2 ^ (52 - k) < 2 ^ (k + 1) * 2 ^ (52 - k) := Nat.mul_lt_mul_of_pos_right hl3 (pow2_pos _)
      rw [← Nat.pow_add, show k + 1 + (52 - k) = 53 by omega] at h1
      omega
    have e7 : (2 : Nat) ^ 52 = 4503599627370496 := by decide
    have e7b : (2 : Nat) ^ 53 = 9007199254740992 := by decide
    rw [e7] at hm1
    rw [e7b] at hm2
    have hlt : (k + 1022) * 4503599627370496 + m < 9218868437227405312 := by omega
    have ew : FloatKind.f64.format.word false (min ((k + 1022) * 4503599627370496 + m) 9218868437227405312) = (k + 1022) * 4503599627370496 + m := by
      unfold Ieee.Format.word
      rw [Nat.min_eq_left (Nat.le_of_lt hlt)]
      rfl
    rw [ew]
    refine ⟨hlt, ?_⟩
    have hj : jof ((k + 1022) * 4503599627370496 + m) = k + 1022 := by unfold jof; rw [e7]; omega
    have hmm : mof ((k + 1022) * 4503599627370496 + m) = m := by unfold mof; rw [e7, if_neg (by omega)]; omega
    rw [hj, hmm, hm, Nat.mul_assoc, ← Nat.pow_add]
    have eb := places (show k ≤ 52 by omega)
    exact congrArg (fun z => n * 2 ^ z) eb
theorem scaledN_whole {B n : Nat} (k : Nat) (hB : B < 9218868437227405312) (hv : mof B * 2 ^ jof B = n * kk) : scaledN B (k : Int) = n * 10 ^ k := by
  have h1 := value_P hB (k : Int)
  have e1 : ((k : Int)).toNat = k := rfl
  have hQ : denQ B (k : Int) = 2 ^ (-(expo B)).toNat := by
    unfold denQ
    rw [show (-(k : Int)).toNat = 0 by omega, Nat.pow_zero, Nat.one_mul]
  have hk : 0 < kk := kk_pos
  have h2 : numP B (k : Int) = n * 10 ^ k * denQ B (k : Int) := by
    rw [← Nat.mul_assoc, hv, e1] at h1
    rw [hQ]
    refine Nat.eq_of_mul_eq_mul_right hk ?_
    rw [← h1]
    generalize kk = K
    ac_rfl
  have h3 : scaledN B (k : Int) = rnd (numP B (k : Int)) (denQ B (k : Int)) := rfl
  rw [h3, h2]
  have hQ0 := denQ_pos B (k : Int)
  exact rnd_close (by omega) (by omega)
theorem canon_shift {l : List UInt8} {n : Nat} (h : Canon l n) (hn : 0 < n) (k : Nat) : Canon (l ++ List.replicate k 48) (n * 10 ^ k) := by
  obtain ⟨c, r, rfl, hc⟩ := canon_pos_text h hn
  refine ⟨by simp, ?_, ?_, ?_⟩
  · intro x hx
    rcases List.mem_append.1 hx with h1 | h1
    · exact h.dig x h1
    · rw [(List.mem_replicate.1 h1).2]; decide
  · rw [digVal_app, digVal_noughts, h.val, List.length_replicate, Nat.add_zero]
  · intro c' r' he h48
    rw [List.cons_append] at he
    injection he with h1 h2
    exact absurd (UInt8.toNat_inj.1 (h1 ▸ h48)) hc
theorem fixedL_zero {l : List UInt8} (h : l ≠ []) : fixedL l 0 = l := by
  have h1 : ¬ l.length ≤ 0 := by have := List.length_pos_iff.2 h; omega
  simp [fixedL, h1]
theorem fixedL_whole {l l2 : List UInt8} {n k : Nat} (h : Canon l n) (h2 : Canon l2 (n * 10 ^ k)) (hk : 0 < k) : fixedL l2 k = l ++ 46 :: List.replicate k 48 := by
  rcases Nat.eq_zero_or_pos n with hn | hn
  · subst hn
    rw [Nat.zero_mul] at h2
    rw [canon_zero_text h, canon_zero_text h2]
    unfold fixedL
    simp only [List.length_singleton]
    rw [if_pos (show 1 ≤ k by omega), if_pos hk]
    have e : List.replicate (k + 1 - 1) 48 ++ [48] = (48 : UInt8) :: List.replicate k 48 := by
      rw [Nat.add_sub_cancel, ← List.replicate_succ', List.replicate_succ]
    rw [e]
    simp only [List.length_cons, List.length_replicate]
    rw [Nat.add_sub_cancel_left]
    rfl
  · have e := canon_unique h2 (canon_shift h hn k)
    subst e
    have hl := List.length_pos_iff.2 h.ne
    unfold fixedL
    simp only
    have hle : ¬ (l ++ List.replicate k 48).length ≤ k := by rw [List.length_append, List.length_replicate]; omega
    rw [if_pos hk, if_neg hle]
    simp
theorem readB_whole {l : List UInt8} {n k B : Nat} (h : Canon l n) (hl : l.length ≤ 20) (hk : k ≤ 20) (hB : B < 9218868437227405312) (hv : mof B * 2 ^ jof B = n * kk) : readB (List.replicate k 48 ++ l ++ List.replicate k 48) (-(k : Int)) = B := by
  have e0 : bare (List.replicate k 48 ++ l ++ List.replicate k 48) = bare (l ++ List.replicate k 48) := by
    rw [List.append_assoc, bare_zeros]
  rcases Nat.eq_zero_or_pos n with hn | hn
  · subst hn
    have hb : bare (l ++ List.replicate k 48) = [] := by
      rw [canon_zero_text h, List.singleton_append, bare_nought, bare_all]
    rw [readB_nil (e0.trans hb)]
    rw [Nat.zero_mul] at hv
    have hm0 : mof B = 0 := by
      rcases Nat.mul_eq_zero.1 hv with h | h
      · exact h
      · have := pow2_pos (jof B); omega
    have hp := bits_parts B
    have hg := mof_ge B
    rcases hg with hg | hg
    · rw [hm0, hg] at hp; omega
    · omega
  · have hc := canon_shift h hn k
    have hb : bare (l ++ List.replicate k 48) = l ++ List.replicate k 48 := bare_pos_text hc (Nat.mul_pos hn (Nat.pow_pos (by decide)))
    have hbl : (bare (List.replicate k 48 ++ l ++ List.replicate k 48)).length = l.length + k := by rw [e0, hb]; simp
    have hl0 := List.length_pos_iff.2 h.ne
    rw [readB_near (by omega) (by omega) (by omega) (by omega) (by omega), e0, hb, hc.val]
    have e1 : (-(k : Int)).toNat = 0 := by omega
    have e2 : (- -(k : Int)).toNat = k := by omega
    rw [e1, e2, Nat.pow_zero, Nat.mul_one]
    refine near_exact (Nat.pow_pos (by decide)) ?_ (Nat.le_of_lt hB)
    rw [← Nat.mul_assoc, hv]
    generalize kk = K
    ac_rfl
end Go.Proofs.YtcmpdamfeoaapaaGreatDoor
end

section
/- thresherlaw03: DecWhole. -/
namespace Go.Proofs.YtcmpdamfeoaapaaGreatDoor
open Go.RowKit
set_option linter.unusedVariables false

theorem bytes_ext {s t : ByteArray} (h : s.data.toList = t.data.toList) : s = t := by
  cases s; cases t
  simp only at h
  rw [Array.toList_inj.1 h]

/-- so many noughts -/
def zb (j : Nat) : ByteArray := ⟨(List.replicate j 48).toArray⟩
theorem zb_list (j : Nat) : (zb j).data.toList = List.replicate j 48 := by simp [zb]
theorem zb_size (j : Nat) : (zb j).size = j := by
  have h := congrArg List.length (zb_list j)
  simpa using h
theorem zb_succ (j : Nat) : zb j ++ ⟨#[48]⟩ = zb (j + 1) := bytes_ext (by simp [zb_list, List.replicate_succ'])

end Go.Proofs.YtcmpdamfeoaapaaGreatDoor
end

section
/- Package num: signed, Trunc. -/
namespace Go.Proofs.YtcmpdamfeoaapaaGreatDoor
open Go.RowKit
set_option linter.unusedVariables false

theorem top_bit {b : Nat} (h : b < 18446744073709551616) : b &&& 2 ^ 63 = b / 9223372036854775808 * 9223372036854775808 := by
  have e63 : (2 : Nat) ^ 63 = 9223372036854775808 := by decide
  refine Nat.eq_of_testBit_eq fun i => ?_
  rw [Nat.testBit_and, Nat.testBit_two_pow]
  rcases Nat.lt_or_ge b 9223372036854775808 with h1 | h1
  · rw [Nat.div_eq_of_lt h1, Nat.zero_mul, Nat.zero_testBit]
    by_cases hi : 63 = i
    · subst hi
      rw [Nat.testBit_lt_two_pow (by omega)]; rfl
    · rw [decide_eq_false hi, Bool.and_false]
  · have h2 : b / 9223372036854775808 = 1 := by omega
    rw [h2, Nat.one_mul, ← e63, Nat.testBit_two_pow]
    by_cases hi : 63 = i
    · subst hi
      obtain ⟨r, hr⟩ : ∃ r, b = 2 ^ 63 + r := ⟨b - 2 ^ 63, by omega⟩
      rw [hr, Nat.testBit_two_pow_add_eq, Nat.testBit_lt_two_pow (by omega)]; rfl
    · rw [decide_eq_false hi, Bool.and_false]
theorem and63 (b : Nat) (h : b < 18446744073709551616) : bits .and .u64 (b : Int) 9223372036854775808 = ((b / 9223372036854775808 * 9223372036854775808 : Nat) : Int) := by
  have h1 := u64_and_nat b 9223372036854775808 h (by decide)
  rw [show b &&& 9223372036854775808 = b / 9223372036854775808 * 9223372036854775808 from top_bit h] at h1
  exact h1
theorem or63 (x s : Nat) (h : x < 9223372036854775808) (hs : s < 2) : bits .or .u64 (x : Int) ((s * 9223372036854775808 : Nat) : Int) = ((x + s * 9223372036854775808 : Nat) : Int) := by
  have h1 := u64_or_nat x (s * 9223372036854775808) (by omega) (by omega)
  rw [h1]
  congr 1
  rw [Nat.or_comm, Nat.add_comm, Nat.mul_comm, show (9223372036854775808 : Nat) = 2 ^ 63 by decide]
  exact (Nat.two_pow_add_eq_or_of_lt h s).symm

theorem Abs_any (b : Nat) (w : World) (h : b < 18446744073709551616) : Calls Tryz.prog 56 #[.float .f64 b] w fun e w' => e = .returned (.float .f64 (b % 9223372036854775808)) ∧ w = w' := by
  have hm := mask63 b h
  generalize b % 9223372036854775808 = c at *
  clear h
  go_enter Tryz.func56, Tryz.ntmps56
  go_wp2_with fail
  go_ret
  exact ⟨rfl, rfl⟩
theorem signed_any (x like : Nat) (w : World) (hx : x < 9223372036854775808) (hl : like < 18446744073709551616) :
    Calls Tryz.prog 69 #[.float .f64 x, .float .f64 like] w fun e w' => e = .returned (.float .f64 (x + like / 9223372036854775808 * 9223372036854775808)) ∧ w = w' := by
  have h1 := and63 like hl
  have h2 := or63 x (like / 9223372036854775808) hx (by omega)
  generalize like / 9223372036854775808 * 9223372036854775808 = c at *
  generalize x + c = d at *
  clear hx hl
  go_enter Tryz.func69, Tryz.ntmps69
  go_wp2_with fail
  go_ret
  exact ⟨rfl, rfl⟩

/-- what stands ahead of the point -/
def truncB (b : Nat) : Nat :=
  if fin b = false ∨ 0 ≤ expo b then b
  else FloatKind.f64.nearest ((mant b / 2 ^ (-(expo b)).toNat : Nat) : Int) + b / 9223372036854775808 * 9223372036854775808
theorem shr_min {m k : Nat} (h : m < 9007199254740992) : m / 2 ^ (min k 63) = m / 2 ^ k := by
  rcases Nat.lt_or_ge k 64 with h1 | h1
  · rw [Nat.min_eq_left (by omega)]
  · rw [Nat.min_eq_right (by omega)]
    have h2 := p2_le (a := 53) (b := 63) (by omega)
    have h3 := p2_le (a := 53) (b := k) (by omega)
    have h4 : (2 : Nat) ^ 53 = 9007199254740992 := by decide
    rw [Nat.div_eq_of_lt (by omega), Nat.div_eq_of_lt (by omega)]

set_option maxRecDepth 100000 in
set_option maxHeartbeats 4000000 in
theorem Trunc_any (b : Nat) (w : World) (hb : b < 18446744073709551616) :
    Calls Tryz.prog 30 #[.float .f64 b] w fun e w' => e = .returned (.float .f64 (truncB b)) ∧ w = w' := by
  have HP := Lib.hid (Parts_any b w hb)
  have hm := mant_lt b
  have hx := expo_bounds (b := b)
  have hT : Hid (truncB b = if fin b = false ∨ 0 ≤ expo b then b else FloatKind.f64.nearest ((mant b / 2 ^ (-(expo b)).toNat : Nat) : Int) + b / 9223372036854775808 * 9223372036854775808) := rfl
  generalize truncB b = T at *
  generalize mant b = m at *
  generalize expo b = x at *
  generalize fin b = f at *
  go_enter Tryz.func30, Tryz.ntmps30
  go_wp2_with fail
  refine HP.out.mono ?_
  rintro e w1 ⟨rfl, rfl⟩
  clear HP
  cases f
  · have hT2 : Hid (T = b) := by show _ = _; rw [hT.out, if_pos (.inl rfl)]
    clear hT
    go_wp2_with fail
    go_ret
    exact ⟨by rw [hT2.out]; rfl, rfl⟩
  · rcases Int.lt_or_le x 0 with h0 | h0
    · obtain ⟨q, hq⟩ : ∃ q, q = m / 2 ^ (-x).toNat := ⟨_, rfl⟩
      have hT2 : Hid (T = FloatKind.f64.nearest (q : Int) + b / 9223372036854775808 * 9223372036854775808) := by
        show _ = _; rw [hT.out, if_neg (by simp; omega), hq]
      obtain ⟨k, hk⟩ : ∃ k : Nat, k = (-x).toNat := ⟨_, rfl⟩
      have ek : -x = (k : Int) := by omega
      obtain ⟨k2, hk2⟩ : ∃ k2 : Nat, k2 = min k 63 := ⟨_, rfl⟩
      have ek2 : min (k : Int) 63 = (k2 : Int) := by omega
      have hq2 : m / 2 ^ k2 = q := by rw [hk2, shr_min hm, hq, hk]
      have eF : (m : Int) / 2 ^ k2 = (q : Int) := by rw [← hq2, Int.natCast_ediv, Int.natCast_pow]; rfl
      have hqm : q < 9007199254740992 := by rw [← hq2]; exact Nat.lt_of_le_of_lt (Nat.div_le_self _ _) hm
      obtain ⟨F, hF⟩ : ∃ F, F = floatOfInt FloatKind.f64 (q : Int) := ⟨_, rfl⟩
      have eF2 : floatOfInt FloatKind.f64 (q : Int) = F := hF.symm
      have hFl : F < 9223372036854775808 := by
        have h := (whole_bits hqm).1
        rw [hF]
        exact Nat.lt_trans h (by decide)
      have HS := Lib.hid (signed_any F b w hFl hb)
      have hT3 : Hid (T = F + b / 9223372036854775808 * 9223372036854775808) := by show _ = _; rw [hT2.out, hF]; rfl
      clear hT hq hk hk2 hq2 hT2 hF
      go_wp2_with fail
      refine HS.out.mono ?_
      rintro e w1 ⟨rfl, rfl⟩
      go_wp2_with fail
      go_ret
      exact ⟨by rw [hT3.out]; rfl, rfl⟩
    · have hT2 : Hid (T = b) := by show _ = _; rw [hT.out, if_pos (.inr h0)]
      clear hT
      go_wp2_with fail
      go_ret
      exact ⟨by rw [hT2.out]; rfl, rfl⟩
end Go.Proofs.YtcmpdamfeoaapaaGreatDoor
end

section
/- Package num: Whole; floats with a sign compared. -/
namespace Go.Proofs.YtcmpdamfeoaapaaGreatDoor
open Go.RowKit
set_option linter.unusedVariables false

theorem read_neg {a : Nat} (h : a < 9218868437227405312) : FloatKind.f64.format.read (a + 9223372036854775808) = .number true (mof a) ((jof a : Int) - 1074) := by
  have e1 : FloatKind.f64.format.signWeight = 9223372036854775808 := by decide
  have e2 : FloatKind.f64.format.binade = 4503599627370496 := by decide
  have e3 : FloatKind.f64.format.infRung = 9218868437227405312 := by decide
  have e4 : FloatKind.f64.format.leastPlace = -1074 := by decide
  have e5 : ((a + 9223372036854775808) / 9223372036854775808 % 2 == 1) = true := by
    rw [Nat.add_div_right _ (by decide), Nat.div_eq_of_lt (by omega)]; rfl
  have e6 : (a + 9223372036854775808) % 9223372036854775808 = a := by rw [Nat.add_mod_right]; exact Nat.mod_eq_of_lt (by omega)
  unfold Ieee.Format.read
  simp only [e1, e2, e3, e4, e5, e6]
  have e7 : (2 : Nat) ^ 52 = 4503599627370496 := by decide
  unfold mof jof
  rw [e7]
  clear e5 e6
  by_cases hs : a < 4503599627370496
  · rw [if_pos hs, if_pos (Nat.div_eq_of_lt hs), Nat.div_eq_of_lt hs]
    rfl
  · have h8 : 4503599627370496 + a % 4503599627370496 = a % 4503599627370496 + 4503599627370496 := Nat.add_comm _ _
    have h9 : -1074 + ((a / 4503599627370496 - 1 : Nat) : Int) = ((a / 4503599627370496 - 1 : Nat) : Int) - 1074 := by omega
    have h10 : a / 4503599627370496 ≠ 0 := by omega
    rw [if_neg hs, if_pos h, if_neg h10, h8, h9]
/-- how a datum's number compares: the values over the least step -/
theorem order_num (s t : Bool) (a c : Nat) : Ieee.Datum.order (.number s (mof a) ((jof a : Int) - 1074)) (.number t (mof c) ((jof c : Int) - 1074)) = some (compare (if s then -(vl a : Int) else (vl a : Int)) (if t then -(vl c : Int) else (vl c : Int))) := by
  unfold Ieee.Datum.order
  simp only
  congr 1
  obtain ⟨d, hd⟩ : ∃ d, d = min (jof a) (jof c) := ⟨_, rfl⟩
  have e1 : ((jof a : Int) - 1074 - min ((jof a : Int) - 1074) ((jof c : Int) - 1074)).toNat = jof a - d := by omega
  have e2 : ((jof c : Int) - 1074 - min ((jof a : Int) - 1074) ((jof c : Int) - 1074)).toNat = jof c - d := by omega
  rw [e1, e2]
  unfold Ieee.signed
  rw [Nat.shiftLeft_eq, Nat.shiftLeft_eq]
  have h1 : mof a * 2 ^ (jof a - d) * 2 ^ d = vl a := by unfold vl; rw [Nat.mul_assoc, ← Nat.pow_add, Nat.sub_add_cancel (by omega)]
  have h2 : mof c * 2 ^ (jof c - d) * 2 ^ d = vl c := by unfold vl; rw [Nat.mul_assoc, ← Nat.pow_add, Nat.sub_add_cancel (by omega)]
  have hp := pow2_pos d
  generalize mof a * 2 ^ (jof a - d) = x at *
  generalize mof c * 2 ^ (jof c - d) = y at *
  generalize 2 ^ d = P at *
  have key : ∀ u v : Int, compare (u * P) (v * P) = compare u v := by
    intro u v
    have hP : (0 : Int) < (P : Int) := by omega
    rcases Int.lt_trichotomy u v with h | h | h
    · rw [Int.compare_eq_lt.2 h, Int.compare_eq_lt.2 (Int.mul_lt_mul_of_pos_right h hP)]
    · rw [h, Int.compare_eq_eq.2 rfl, Int.compare_eq_eq.2 rfl]
    · rw [Int.compare_eq_gt.2 h, Int.compare_eq_gt.2 (Int.mul_lt_mul_of_pos_right h hP)]
  rw [← key, ← h1, ← h2]
  congr 1
  · cases s
    · simp
    · simp [Int.neg_mul]
  · cases t
    · simp
    · simp [Int.neg_mul]
theorem order_eq_sign {a c s : Nat} (ha : a < 9218868437227405312) (hc : c < 9218868437227405312) (hs : s < 2) (h : FloatKind.f64.format.order (a + s * 9223372036854775808) (c + s * 9223372036854775808) = some .eq) : vl a = vl c := by
  unfold Ieee.Format.order at h
  have h01 : s = 0 ∨ s = 1 := by omega
  rcases h01 with rfl | rfl
  · rw [Nat.zero_mul, Nat.add_zero, Nat.add_zero, read_fin ha, read_fin hc, order_num] at h
    have h2 := Int.compare_eq_eq.1 (Option.some.inj h)
    simp at h2
    omega
  · rw [Nat.one_mul, read_neg ha, read_neg hc, order_num] at h
    have h2 := Int.compare_eq_eq.1 (Option.some.inj h)
    simp at h2
    omega
theorem order_same {b : Nat} (hb : b < 18446744073709551616) (hf : b % 9223372036854775808 < 9218868437227405312) : FloatKind.f64.format.order b b = some .eq := by
  unfold Ieee.Format.order
  rcases Nat.lt_or_ge b 9223372036854775808 with h | h
  · rw [Nat.mod_eq_of_lt h] at hf
    rw [read_fin hf, order_num, Int.compare_eq_eq.2 rfl]
  · obtain ⟨a, rfl⟩ : ∃ a, b = a + 9223372036854775808 := ⟨b - 9223372036854775808, by omega⟩
    rw [Nat.add_mod_right, Nat.mod_eq_of_lt (by omega)] at hf
    rw [read_neg hf, order_num, Int.compare_eq_eq.2 rfl]

theorem mant_mod (b : Nat) : mant (b % 9223372036854775808) = mant b ∧ expo (b % 9223372036854775808) = expo b ∧ fin (b % 9223372036854775808) = fin b := by
  refine ⟨?_, ?_, ?_⟩
  · unfold mant; rw [Nat.mod_mod]
    have e : b % 9223372036854775808 % 4503599627370496 = b % 4503599627370496 := Nat.mod_mod_of_dvd _ (by decide)
    rw [e]
  · unfold expo; rw [Nat.mod_mod]
  · unfold fin; rw [Nat.mod_mod]
end Go.Proofs.YtcmpdamfeoaapaaGreatDoor
end

section
/- Package num: digits, power, read. -/
namespace Go.Proofs.YtcmpdamfeoaapaaGreatDoor
open Go.RowKit
set_option linter.unusedVariables false

/-- the digits ahead -/
def lead (l : List UInt8) : List UInt8 := l.takeWhile (digs.contains ·)
theorem lead_drop (l : List UInt8) : l.dropWhile (digs.contains ·) = l.drop (lead l).length := by
  have h := List.takeWhile_append_dropWhile (p := (digs.contains ·)) (l := l)
  have h2 : l.drop (lead l).length = (lead l ++ l.dropWhile (digs.contains ·)).drop (lead l).length := by
    show _ = (l.takeWhile (digs.contains ·) ++ _).drop _
    rw [h]
  rw [h2, List.drop_left]
theorem lead_take (l : List UInt8) : l.take (lead l).length = lead l := by
  have h := List.takeWhile_append_dropWhile (p := (digs.contains ·)) (l := l)
  have h2 : l.take (lead l).length = (lead l ++ l.dropWhile (digs.contains ·)).take (lead l).length := by
    show _ = (l.takeWhile (digs.contains ·) ++ _).take _
    rw [h]
  rw [h2, List.take_left]
theorem lead_le (l : List UInt8) : (lead l).length ≤ l.length := (List.takeWhile_sublist _).length_le
theorem tw_all (p : UInt8 → Bool) : ∀ (l : List UInt8) (x : UInt8), x ∈ l.takeWhile p → p x = true
  | [], x, h => by simp at h
  | c :: l, x, h => by
    rw [List.takeWhile_cons] at h
    by_cases hc : p c = true
    · rw [if_pos hc] at h
      rcases List.mem_cons.1 h with rfl | h2
      · exact hc
      · exact tw_all p l x h2
    · rw [if_neg hc] at h; simp at h
theorem lead_digits (l : List UInt8) : Digits (lead l) := by
  intro c hc
  exact (digs_iff c).1 (tw_all _ l c hc)

theorem TrimLeft_digs (s : ByteArray) (w : World) :
    Calls Tryz.prog 46 #[.string s, .string ⟨#[48, 49, 50, 51, 52, 53, 54, 55, 56, 57]⟩] w fun e w' => e = .returned (.string ⟨(s.data.toList.drop (lead s.data.toList).length).toArray⟩) ∧ Below w.heap.size w w' := by
  have h := Any.strings_TrimLeft_laid Tryz.lays161 (by kernel_rfl) s ⟨#[48, 49, 50, 51, 52, 53, 54, 55, 56, 57]⟩ w (by decide) (ascii_of_all (by decide))
  have e : Lib.trimLeftS s.data.toList (⟨#[48, 49, 50, 51, 52, 53, 54, 55, 56, 57]⟩ : ByteArray).data.toList = s.data.toList.drop (lead s.data.toList).length := lead_drop _
  rw [e] at h
  exact h
theorem digits_any (s : ByteArray) (w : World) (hs : s.size ≤ 140737488355328) :
    Calls Tryz.prog 100 #[.string s] w fun e w' => e = .returned (.int .i64 ((lead s.data.toList).length : Nat)) ∧ Below w.heap.size w w' := by
  have HT := Lib.hid (TrimLeft_digs s w)
  have hle := lead_le s.data.toList
  have hsz : s.size = s.data.toList.length := by simp
  obtain ⟨T, hT⟩ : ∃ T : ByteArray, T = ⟨(s.data.toList.drop (lead s.data.toList).length).toArray⟩ := ⟨_, rfl⟩
  rw [← hT] at HT
  have hTs : T.size + (lead s.data.toList).length = s.size := by
    have h1 : T.size = T.data.toList.length := by simp
    rw [h1, hT, hsz]
    simp
    omega
  generalize (lead s.data.toList).length = n at *
  have e1 : (s.size : Int) - (T.size : Int) = (n : Int) := by omega
  clear hT hle hsz
  go_enter Tryz.func100, Tryz.ntmps100
  go_wp2_with fail
  refine HT.out.mono ?_
  rintro e w1 ⟨rfl, hb⟩
  have HB := Lib.hid hb
  clear hb HT
  go_wp2_with fail
  go_ret
  exact ⟨rfl, HB.out⟩

/-- the number of digits, no greater than 100000 -/
def powN (l : List UInt8) : Nat := l.foldl (fun n c => min (10 * n + (c.toNat - 48)) 100000) 0
theorem powN_snoc (l : List UInt8) (c : UInt8) : powN (l ++ [c]) = min (10 * powN l + (c.toNat - 48)) 100000 := by simp [powN]
theorem powN_le : ∀ l : List UInt8, powN l ≤ 100000 := by
  intro l
  rcases List.eq_nil_or_concat l with rfl | ⟨r, c, rfl⟩
  · decide
  · rw [List.concat_eq_append, powN_snoc]; omega
def powL (l : List UInt8) (minus : Bool) : Int := if minus then -(powN l : Int) else (powN l : Int)

set_option maxRecDepth 100000 in
set_option maxHeartbeats 2000000 in
theorem power_any (s : ByteArray) (minus : Bool) (w : World) (hd : Digits s.data.toList) (hs : s.size ≤ 140737488355328) :
    Calls Tryz.prog 101 #[.string s, .bool minus] w fun e w' => e = .returned (.int .i64 (powL s.data.toList minus)) ∧ Below w.heap.size w w' := by
  have hsz : s.size = s.data.toList.length := by simp
  generalize hLe : s.data.toList = L at *
  have HLe := Lib.hid hLe
  have HD := Lib.hid hd
  have HPL : Hid (powL L minus = if minus then -(powN L : Int) else (powN L : Int)) := rfl
  generalize powL L minus = R at *
  clear hd hLe
  go_enter Tryz.func101, Tryz.ntmps101
  go_wp2_with (refine wpList_bytes _ rfl _ rfl s rfl ?_; rw [HLe.out, hsz]; intro cap1 w1 hl1 hb1 hs1)
  generalize hg1 : w.heap.size = g at *
  have HL1 := Lib.hid hl1
  have HB1 := Lib.hid hb1
  have HG := Lib.hid hg1
  clear hl1 hb1 hg1
  go_wp2_with fail
  go_loop [5, 11] (fun n i => ∃ k : Nat, k ≤ L.length ∧ i = .int .i64 k ∧ n = .int .i64 ((powN (L.take k) : Nat) : Int)) (fun _ i => L.length - (intOf i).toNat)
  case atStart => exact ⟨0, Nat.zero_le _, rfl, rfl⟩
  case round =>
    obtain ⟨k, hk, rfl, rfl⟩ := hrel
    by_cases hlt : k < L.length
    · have hc := HL1.out k hlt
      rw [Nat.zero_add] at hc
      have hdd := HD.out _ (List.getElem_mem hlt)
      have hst : Hid (powN (L.take (k + 1)) = min (10 * powN (L.take k) + (L[k].toNat - 48)) 100000) := by
        show _ = _
        rw [List.take_succ_eq_append_getElem hlt, powN_snoc]
      have hpl := powN_le (L.take k)
      generalize L[k].toNat = c at *
      generalize powN (L.take k) = p at *
      obtain ⟨d, hdv⟩ : ∃ d, d = c - 48 := ⟨_, rfl⟩
      rw [← hdv] at hst
      have ed2 : ((c : Int) - 48) % 256 = (d : Int) := by omega
      have ed3 : (c : Int) - 48 = (d : Int) := by omega
      have hd9 : d ≤ 9 := by omega
      obtain ⟨q, hq⟩ : ∃ q, q = min (10 * p + d) 100000 := ⟨_, rfl⟩
      rw [← hq] at hst
      have eq1 : min ((10 : Int) * p + d) 100000 = (q : Int) := by omega
      clear hdv hq
      go_wp2_with fail
      go_round
      case rel => exact ⟨k + 1, by omega, by go_num, by rw [hst.out]⟩
      case measure => simp [intOf]; omega
    · obtain rfl : k = L.length := by omega
      have hpl := powN_le (L.take L.length)
      have hp2 : Hid (powN (L.take L.length) = powN L) := by show _ = _; rw [List.take_length]
      generalize powN (L.take L.length) = p at *
      cases minus
      · go_wp2_with fail
        go_ret
        exact ⟨by rw [HPL.out, ← hp2.out]; rfl, by rw [HG.out]; exact HB1.out⟩
      · go_wp2_with fail
        go_ret
        exact ⟨by rw [HPL.out, ← hp2.out]; rfl, by rw [HG.out]; exact HB1.out⟩

theorem ext_list (s : ByteArray) (i j : Nat) : (s.extract i j).data.toList = (s.data.toList.drop i).take (j - i) := by
  simp [ByteArray.data_extract, List.extract_eq_take_drop]
theorem size_list (s : ByteArray) : s.size = s.data.toList.length := by simp
theorem Trim_nought (s : ByteArray) (w : World) (hs : s.size ≤ 9223372036854775807) :
    Calls Tryz.prog 54 #[.string s, .string ⟨#[48]⟩] w fun e w' => e = .returned (.string ⟨(Lib.trimB s.data.toList 48).toArray⟩) ∧ Below w.heap.size w w' := by
  refine (Tryz.strings_Trim_one s 48 (by decide) w hs).mono ?_
  rintro e w' ⟨rfl, h | h⟩
  · rw [h]; exact ⟨rfl, Below.refl _ _⟩
  · rw [h]; exact ⟨rfl, (Below.refl _ _).drew⟩

/-- what read answers: of very many digits the first 900 count, and one behind them, if any that follows is no nought -/
def readN (l : List UInt8) (e : Int) : Nat :=
  if bare l = [] then 0
  else if (bare l).length ≤ 900 then readB (bare l) e
  else if Lib.trimB ((bare l).drop 900) 48 = [] then readB ((bare l).take 900) (e + (bare l).length - 900)
  else readB ((bare l).take 900 ++ [49]) (e + (bare l).length - 900 - 1)

set_option maxRecDepth 100000 in
set_option maxHeartbeats 2000000 in
theorem read_any (s : ByteArray) (x : Int) (w : World) (hd : Digits s.data.toList) (hs : s.size ≤ 140737488355328) (hx1 : -1000000000000000 ≤ x) (hx2 : x ≤ 1000000000000000) :
    Calls Tryz.prog 49 #[.string s, .int .i64 x] w fun e w' => e = .returned (.float .f64 (readN s.data.toList x)) ∧ Below w.heap.size w w' := by
  have hTL : Hid (∀ W, Calls Tryz.prog 46 #[.string s, .string ⟨#[48]⟩] W fun e w' => e = .returned (.string ⟨(bare s.data.toList).toArray⟩) ∧ w' = W) := fun W => Tryz.strings_TrimLeft_one s 48 (by decide) W
  obtain ⟨t, ht⟩ : ∃ t : ByteArray, t = ⟨(bare s.data.toList).toArray⟩ := ⟨_, rfl⟩
  rw [← ht] at hTL
  have htl : bare s.data.toList = t.data.toList := by rw [ht]
  have hdt : Digits t.data.toList := by rw [← htl]; exact bare_digits hd
  have hR : Hid (readN s.data.toList x = if t.data.toList = [] then 0 else if t.data.toList.length ≤ 900 then readB t.data.toList x else if Lib.trimB (t.data.toList.drop 900) 48 = [] then readB (t.data.toList.take 900) (x + t.data.toList.length - 900) else readB (t.data.toList.take 900 ++ [49]) (x + t.data.toList.length - 900 - 1)) := by
    show _ = _
    unfold readN
    rw [htl]
  obtain ⟨n, hn0⟩ : ∃ n, n = t.size := ⟨_, rfl⟩
  have hn1 : t.size = n := hn0.symm
  have HLT : Hid (t.data.toList.length = n) := by show _ = _; rw [hn0]; simp
  have hnl : n ≤ 140737488355328 := by
    have hbl := bare_length s.data.toList
    rw [htl, HLT.out] at hbl
    have hsz : s.size = s.data.toList.length := by simp
    omega
  rw [HLT.out] at hR
  generalize readN s.data.toList x = R at *
  have HDT := Lib.hid hdt
  clear ht htl hdt hd hn0
  by_cases h0 : t.data.toList = []
  · have he : t.toList.isEmpty = true := by rw [ByteArray.toList_eq, h0]; rfl
    obtain rfl : R = 0 := by rw [hR.out, if_pos h0]
    clear hR h0
    go_enter Tryz.func49, Tryz.ntmps49
    go_wp2_with fail
    refine (hTL.out w).mono ?_
    rintro e w1 ⟨rfl, rfl⟩
    go_wp2_with fail
    go_ret
    exact ⟨rfl, Below.refl _ _⟩
  · have he : t.toList.isEmpty = false := by rw [ByteArray.toList_eq]; simpa using h0
    by_cases h9 : n ≤ 900
    · have HR : Hid (R = readB t.data.toList x) := by show _ = _; rw [hR.out, if_neg h0, if_pos h9]
      have hts2 : (n : Int) ≤ 900 := by omega
      have hRD := Lib.hid (fun W => Read_ok t x W h0 HDT.out (by rw [HLT.out]; omega) (by omega) (by omega))
      rw [← HR.out] at hRD
      clear hR h0
      go_enter Tryz.func49, Tryz.ntmps49
      go_wp2_with fail
      refine (hTL.out w).mono ?_
      rintro e w1 ⟨rfl, rfl⟩
      go_wp2_with fail
      refine (hRD.out w1).mono ?_
      rintro e w2 ⟨rfl, hb2⟩
      have HB2 := Lib.hid hb2
      clear hb2 hRD
      go_wp2_with fail
      go_ret
      exact ⟨rfl, HB2.out⟩
    · have hts2 : 900 < (n : Int) := by omega
      have hh0 := Lib.hid h0
      clear h0
      go_enter Tryz.func49, Tryz.ntmps49
      go_wp2_with fail
      refine (hTL.out w).mono ?_
      rintro e w1 ⟨rfl, rfl⟩
      go_wp2_with fail
      have hE1 : (t.extract 900 n).data.toList = t.data.toList.drop 900 := by
        rw [ext_list]
        exact List.take_of_length_le (by rw [List.length_drop, HLT.out]; omega)
      have hE2 : (t.extract 0 900).data.toList = t.data.toList.take 900 := by rw [ext_list]; rfl
      have hx1s : (t.extract 900 n).size ≤ 9223372036854775807 := by
        have h1 := size_list (t.extract 900 n)
        rw [h1, hE1, List.length_drop, HLT.out]; omega
      have hl2 : (t.data.toList.take 900).length = 900 := by rw [List.length_take, HLT.out]; omega
      have hx2s : (t.extract 0 900).size = 900 := by
        have h1 := size_list (t.extract 0 900)
        rw [h1, hE2, hl2]
      have hTR := Lib.hid (Trim_nought (t.extract 900 n) w1 hx1s)
      rw [hE1] at hTR
      have hd2 : Digits (t.data.toList.take 900) := fun c hc => HDT.out c (List.mem_of_mem_take hc)
      by_cases hz : Lib.trimB (t.data.toList.drop 900) 48 = []
      · rw [hz] at hTR
        have HR : Hid (R = readB (t.data.toList.take 900) (x + n - 900)) := by show _ = _; rw [hR.out, if_neg hh0.out, if_neg h9, if_pos hz]
        have hRD := Lib.hid (fun W => Read_ok (t.extract 0 900) (x + n - 900) W (by rw [hE2]; intro h; rw [h] at hl2; simp at hl2) (by rw [hE2]; exact hd2) (by rw [hE2, hl2]; decide) (by omega) (by omega))
        rw [hE2, ← HR.out] at hRD
        clear hE1 hE2 hl2 hd2 hz hR HR hx1s
        refine hTR.out.mono ?_
        rintro e w2 ⟨rfl, hb2⟩
        have HB2 := Lib.hid hb2
        have hs2 := hb2.size
        clear hb2 hTR
        go_wp2_with fail
        refine (hRD.out w2).mono ?_
        rintro e w3 ⟨rfl, hb3⟩
        have HB3 := Lib.hid (HB2.out.trans (hb3.mono hs2))
        clear hb3 hRD HB2
        go_wp2_with fail
        go_ret
        exact ⟨rfl, HB3.out⟩
      · have HR : Hid (R = readB (t.data.toList.take 900 ++ [49]) (x + n - 900 - 1)) := by show _ = _; rw [hR.out, if_neg hh0.out, if_neg h9, if_neg hz]
        have hE3 : (t.extract 0 900 ++ ⟨#[49]⟩ : ByteArray).data.toList = t.data.toList.take 900 ++ [49] := by rw [ByteArray.data_append, Array.toList_append, hE2]
        have hRD := Lib.hid (fun W => Read_ok (t.extract 0 900 ++ ⟨#[49]⟩) (x + n - 900 - 1) W (by rw [hE3]; simp) (by
          rw [hE3]; intro c hc
          rcases List.mem_append.1 hc with h | h
          · exact hd2 c h
          · simp at h; subst h; decide) (by rw [hE3, List.length_append, hl2]; decide) (by omega) (by omega))
        rw [hE3, ← HR.out] at hRD
        obtain ⟨T, hT⟩ : ∃ T : ByteArray, T = ⟨(Lib.trimB (t.data.toList.drop 900) 48).toArray⟩ := ⟨_, rfl⟩
        rw [← hT] at hTR
        have hTe : T.toList.isEmpty = false := by
          rw [ByteArray.toList_eq, hT]
          simpa using hz
        clear hE1 hE2 hl2 hd2 hz hR HR hx1s hE3 hT
        refine hTR.out.mono ?_
        rintro e w2 ⟨rfl, hb2⟩
        have HB2 := Lib.hid hb2
        have hs2 := hb2.size
        clear hb2 hTR
        go_wp2_with fail
        refine (hRD.out w2).mono ?_
        rintro e w3 ⟨rfl, hb3⟩
        have HB3 := Lib.hid (HB2.out.trans (hb3.mono hs2))
        clear hb3 hRD HB2
        go_wp2_with fail
        go_ret
        exact ⟨rfl, HB3.out⟩
end Go.Proofs.YtcmpdamfeoaapaaGreatDoor
end

section
/- Package num: Whole. -/
namespace Go.Proofs.YtcmpdamfeoaapaaGreatDoor
open Go.RowKit
set_option linter.unusedVariables false

/-- is the float whole, and below 10^16 -/
def wholeOk (b : Nat) : Bool := decide (b % 9223372036854775808 < 4846369599423283200) && (FloatKind.f64.format.order (truncB b) b == some .eq)

/-- the text of a whole number -/
def WholeT (t : List UInt8) (b : Nat) (S : Bool) : Prop := ∃ l, Canon l (scaledN b 0) ∧ t = if S = true then 45 :: l else l

set_option maxRecDepth 100000 in
set_option maxHeartbeats 4000000 in
theorem Whole_no (b : Nat) (w : World) (hb : b < 18446744073709551616) (h : wholeOk b = false) :
    Calls Tryz.prog 26 #[.float .f64 b] w fun e w' => e = .returned (.tuple #[.string ⟨#[]⟩, .bool false]) ∧ w = w' := by
  have HA := Lib.hid (Abs_any b w hb)
  have HT := Lib.hid (Trunc_any b w hb)
  have hal : b % 9223372036854775808 < 9223372036854775808 := Nat.mod_lt _ (by decide)
  unfold wholeOk at h
  generalize truncB b = T at *
  generalize b % 9223372036854775808 = a at *
  by_cases h1 : a < 4846369599423283200
  · have ho := order_lt (x := a) (y := 4846369599423283200) (by omega) (by decide) h1
    have ho2 : (FloatKind.f64.format.order T b == some .eq) = false := by rw [decide_eq_true h1] at h; simpa using h
    have ho3 : (FloatKind.f64.format.order T b != some .eq) = true := by unfold bne; rw [ho2]; rfl
    clear h h1 hal hb
    go_enter Tryz.func26, Tryz.ntmps26
    go_wp2_with fail
    refine HA.out.mono ?_
    rintro e w1 ⟨rfl, rfl⟩
    go_wp2_with fail
    refine HT.out.mono ?_
    rintro e w1 ⟨rfl, rfl⟩
    go_wp2_with fail
    go_ret2
    exact ⟨rfl, rfl⟩
  · have ho : (FloatKind.f64.format.order a 4846369599423283200 == some .lt) = false := by
      rcases Nat.lt_or_ge 9218868437227405312 a with h2 | h2
      · rw [order_nan _ h2 hal]; rfl
      · rcases Nat.eq_or_lt_of_le (Nat.le_of_not_lt h1) with h3 | h3
        · rw [← h3, order_eq (by decide)]; rfl
        · rw [order_gt h2 (by decide) h3]; rfl
    clear h h1 hal hb HT
    go_enter Tryz.func26, Tryz.ntmps26
    go_wp2_with fail
    refine HA.out.mono ?_
    rintro e w1 ⟨rfl, rfl⟩
    go_wp2_with fail
    go_ret2
    exact ⟨rfl, rfl⟩

set_option maxRecDepth 100000 in
set_option maxHeartbeats 4000000 in
theorem Whole_yes (b : Nat) (w : World) (hb : b < 18446744073709551616) (h : wholeOk b = true) :
    Calls Tryz.prog 26 #[.float .f64 b] w fun e w' => ∃ s : ByteArray, e = .returned (.tuple #[.string s, .bool true]) ∧ WholeT s.data.toList b (FloatKind.f64.format.order b 0 == some .lt) ∧ Below w.heap.size w w' := by
  have HA := Lib.hid (Abs_any b w hb)
  have HT := Lib.hid (Trunc_any b w hb)
  unfold wholeOk at h
  rw [Bool.and_eq_true, decide_eq_true_eq] at h
  obtain ⟨h1, ho2⟩ := h
  have hfin : fin b = true := by
    rw [← (mant_mod b).2.2]
    exact (fin_lt_inf (Nat.mod_lt _ (by decide))).2 (by omega)
  have HF := Lib.hid (Fixed_ok b 0 w hb hfin (by decide))
  have ho := order_lt (x := b % 9223372036854775808) (y := 4846369599423283200) (by omega) (by decide) h1
  have ho3 : (FloatKind.f64.format.order (truncB b) b != some .eq) = false := by unfold bne; rw [ho2]; rfl
  obtain ⟨S, hS⟩ : ∃ S : Bool, S = (FloatKind.f64.format.order b 0 == some .lt) := ⟨_, rfl⟩
  have hS2 : (FloatKind.f64.format.order b 0 == some .lt) = S := hS.symm
  rw [hS2]
  have ho2' : FloatKind.f64.format.order (truncB b) b = some .eq := by simpa using ho2
  generalize truncB b = T at *
  generalize b % 9223372036854775808 = a at *
  clear h1 hb hfin hS ho2
  cases S
  · go_enter Tryz.func26, Tryz.ntmps26
    go_wp2_with fail
    refine HA.out.mono ?_
    rintro e w1 ⟨rfl, rfl⟩
    go_wp2_with fail
    refine HT.out.mono ?_
    rintro e w1 ⟨rfl, rfl⟩
    go_wp2_with fail
    refine HF.out.mono ?_
    rintro e w1 ⟨s, l, rfl, hc, hs, hb⟩
    have HC := Lib.hid hc
    have HS : Hid (s.data.toList = l) := by show _ = _; rw [hs]; exact fixedL_zero hc.ne
    have HB := Lib.hid hb
    clear hc hs hb
    go_wp2_with fail
    go_ret2
    exact ⟨s, rfl, ⟨l, HC.out, HS.out⟩, HB.out⟩
  · go_enter Tryz.func26, Tryz.ntmps26
    go_wp2_with fail
    refine HA.out.mono ?_
    rintro e w1 ⟨rfl, rfl⟩
    go_wp2_with fail
    refine HT.out.mono ?_
    rintro e w1 ⟨rfl, rfl⟩
    go_wp2_with fail
    refine HF.out.mono ?_
    rintro e w1 ⟨s, l, rfl, hc, hs, hb⟩
    have HC := Lib.hid hc
    have HS : Hid ((⟨#[45]⟩ ++ s : ByteArray).data.toList = 45 :: l) := by show _ = _; rw [ByteArray.data_append, Array.toList_append, hs, fixedL_zero hc.ne]; rfl
    have HB := Lib.hid hb
    have hsz : s.size ≤ 5000 := by
      rw [size_list, hs, fixedL_zero hc.ne]
      have h2 := canon_len (k := 4001) hc (Nat.lt_of_lt_of_le (nbits_le.1 (scaledN_lt (b := b) (k := 0) (by decide) (by decide))) (two_ten 4001)) (by decide)
      omega
    clear hc hs hb
    go_wp2_with fail
    go_ret2
    exact ⟨_, rfl, ⟨l, HC.out, HS.out⟩, HB.out⟩
end Go.Proofs.YtcmpdamfeoaapaaGreatDoor
end

section
/- strings.Builder: copyCheck, WriteByte, WriteString, at a dump whose copyCheck refuses a copied builder. (The library's own walk of these, turned to this dump.) -/
namespace Go.Proofs.YtcmpdamfeoaapaaGreatDoor
open Go.RowKit Go.Shelf
set_option linter.unusedVariables false

theorem sizeBuilder : (Tryz.prog.info? 106).map (·.size) = some 2 := by kernel_rfl
theorem liesBuilder : liesAt Tryz.prog Tryz.prog.depth 106 (2 / Tryz.prog.cellsOf 106) 0 106 1 = true := by kernel_rfl
theorem infoByte : (Tryz.prog.info? 5).map (fun i => (i.zero, i.size, i.bytes)) = some (some (.int .u8 0), 1, 1) := by kernel_rfl

set_option maxHeartbeats 1000000 in
set_option maxRecDepth 100000 in
theorem copyCheck_used (b : Nat) (w : World) (h0 : w.cell? ⟨b, 0, none⟩ = some (.pointer (some ⟨b, 0, none⟩))) :
    Calls Tryz.prog 127 #[.pointer (some ⟨b, 0, none⟩)] w fun e w' => e = .returned (.tuple #[]) ∧ w' = w := by
  obtain ⟨j, hj, _⟩ := Option.map_eq_some_iff.1 sizeBuilder
  go_enter Tryz.func127, Tryz.ntmps127
  go_wp2
  rw [Lib.run_neq_ptr_same w _ Tryz.underlying104 hj]
  go_wp2
  go_end0
  exact ⟨rfl, rfl⟩

set_option maxHeartbeats 1000000 in
set_option maxRecDepth 100000 in
theorem copyCheck_fresh (b : Nat) (w : World) (h0 : w.cell? ⟨b, 0, none⟩ = some (.pointer none)) (hsh : w.shape? b = some (106, 2)) (hfz : w.frozen? ⟨b, 0, none⟩ = false) :
    Calls Tryz.prog 127 #[.pointer (some ⟨b, 0, none⟩)] w fun e w' => e = .returned (.tuple #[]) ∧ w' = w.setCell ⟨b, 0, none⟩ (.pointer (some ⟨b, 0, none⟩)) := by
  obtain ⟨j, hj, hjs⟩ := Option.map_eq_some_iff.1 sizeBuilder
  go_enter Tryz.func127, Tryz.ntmps127
  go_wp2
  rw [Lib.run_to_unsafe w ⟨b, 0, none⟩ Tryz.underlying104 Tryz.underlying208 hj (by rw [hjs]; decide) hsh (Nat.zero_lt_succ 1)]
  simp only [Result.andThen]
  rw [Oper.upon_value]
  go_wp2
  rw [run_callFunc_extern Tryz.func181 (by kernel_rfl) (by kernel_rfl) (by kernel_rfl) (e := Extern.AbiNoEscape.same) (by kernel_rfl)]
  rw [Lib.run_noEscape]
  simp only [Result.andThen]
  rw [Oper.upon_value]
  go_wp2
  rw [Lib.run_from_unsafe w ⟨b, 0, none⟩ Tryz.underlying208 Tryz.underlying104 hj hsh liesBuilder]
  simp only [Result.andThen]
  rw [Oper.upon_value]
  go_wp2
  go_end0
  exact ⟨rfl, rfl⟩

theorem copyCheck_any (B b : Nat) (bs : List Value) (w : World) (h : Lib.IsBuilder 106 5 B b bs w) :
    Calls Tryz.prog 127 #[.pointer (some ⟨b, 0, none⟩)] w fun e w' => e = .returned (.tuple #[]) ∧ (Lib.BuilderAt 106 5 B b (.pointer (some ⟨b, 0, none⟩)) bs w' ∧ Below B w w') := by
  rcases h with h | h
  · refine (copyCheck_fresh b w h.cell0 h.shape h.frozen0).mono ?_
    rintro e w' ⟨rfl, rfl⟩
    exact ⟨rfl, h.used _, (Below.refl B w).setCell (p := ⟨b, 0, none⟩) h.1 _⟩
  · refine (copyCheck_used b w h.cell0).mono ?_
    rintro e w' ⟨rfl, rfl⟩
    exact ⟨rfl, h, Below.refl B _⟩

set_option maxHeartbeats 2000000 in
set_option maxRecDepth 100000 in
theorem WriteByte_any (B b : Nat) (bs : List Value) (c : Int) (w : World) (h : Lib.IsBuilder 106 5 B b bs w) (hlen : bs.length + 1 ≤ 140737488355328) (hBw : B ≤ w.heap.size) :
    Calls Tryz.prog 132 #[.pointer (some ⟨b, 0, none⟩), .int .u8 c] w fun e w' => e = .returned .nilIface ∧ (Lib.BuilderAt 106 5 B b (.pointer (some ⟨b, 0, none⟩)) (bs ++ [.int .u8 c]) w' ∧ Below B w w') := by
  obtain ⟨i0, hi, hz0, hz1, hz2⟩ := info_parts infoByte
  go_enter Tryz.func132, Tryz.ntmps132
  go_wp2_with fail
  refine (copyCheck_any B b bs _ h).mono ?_
  rintro e w1 ⟨rfl, h1, hb1⟩
  obtain ⟨hB, v, hbk, hown, hne⟩ := h1
  have c0 : w1.cell? ⟨b, 0, none⟩ = some (.pointer (some ⟨b, 0, none⟩)) := by rw [Lib.cell_of_heap hbk]; rfl
  have c1 : w1.cell? ⟨b, 1, none⟩ = some v := by rw [Lib.cell_of_heap hbk]; rfl
  go_wp2_with (at_builtin; refine wpList_append_own _ rfl _ _ 93 rfl B 5 i0 (.int .u8 0) 1 1 Tryz.underlying93 hi hz0 hz1 hz2 rfl (by decide) _ _ _ rfl (hown.alloc _) ⟨w1.heap.size, 0, none⟩ 1 1 [.int .u8 c] rfl rfl ?c1 ?c2 ?c3 ?c4 ?c5 ?_)
  case c1 =>
    intro j u hj
    match j, hj with
    | 0, hj => simp at hj; subst hj; simp [Addr.add]
  case c2 => intro u hu; simp at hu; subst hu; rfl
  case c3 => unfold maxLen; omega
  case c4 => omega
  case c5 => have := hb1.size; simp; omega
  intro v' w2 hown' hgrow _
  have hlt : b < w1.heap.size := by
    rcases Nat.lt_or_ge b w1.heap.size with h' | h'
    · exact h'
    · simp [Array.getElem?_eq_none h'] at hbk
  have hb2 : w2.heap[b]? = some (.cells #[.pointer (some ⟨b, 0, none⟩), v] 106 (0, 0)) := by
    rw [hgrow.block b (by simp; omega) (fun e => hne e.symm), Lib.alloc_old w1 _ b hlt]
    exact hbk
  have d0 : w2.cell? ⟨b, 0, none⟩ = some (.pointer (some ⟨b, 0, none⟩)) := by rw [Lib.cell_of_heap hb2]; rfl
  have d1 : w2.cell? ⟨b, 1, none⟩ = some v := by rw [Lib.cell_of_heap hb2]; rfl
  have f1 : w2.frozen? ⟨b, 1, none⟩ = false := Lib.frozen_of_heap hb2 1
  obtain ⟨g, cap, rfl⟩ : ∃ g cap, v' = .slice (some ⟨g, 0, none⟩) (bs.length + 1) cap := by
    rcases hown'.2 with ⟨_, h0⟩ | ⟨g, cap, cur, hv, _⟩
    · omega
    · exact ⟨g, cap, hv⟩
  go_wp2_with fail
  go_ret
  refine ⟨rfl, ?_, ?_⟩
  · exact Lib.BuilderAt.put (T := 106) (e := 5) hB hb2 (bs' := bs ++ [.int .u8 c]) (by simpa using hown') (by decide)
  · exact ((hb1.alloc (by have := hb1.size; omega) _).grown hgrow (by have := hb1.size; simp; omega) (fun k hk => (hown.lt k hk).1)).setCell (p := ⟨b, 1, none⟩) hB _

set_option maxHeartbeats 2000000 in
set_option maxRecDepth 100000 in
theorem WriteString_any (B b : Nat) (bs : List Value) (s : ByteArray) (w : World) (h : Lib.IsBuilder 106 5 B b bs w) (hlen : bs.length + s.size ≤ 140737488355328) (hBw : B ≤ w.heap.size) :
    Calls Tryz.prog 84 #[.pointer (some ⟨b, 0, none⟩), .string s] w fun e w' => e = .returned (.tuple #[.int .i64 s.size, .nilIface]) ∧ (Lib.BuilderAt 106 5 B b (.pointer (some ⟨b, 0, none⟩)) (bs ++ Lib.strCells s) w' ∧ Below B w w') := by
  obtain ⟨i0, hi, hz0, hz1, hz2⟩ := info_parts infoByte
  go_enter Tryz.func84, Tryz.ntmps84
  go_wp2_with fail
  refine (copyCheck_any B b bs _ h).mono ?_
  rintro e w1 ⟨rfl, h1, hb1⟩
  obtain ⟨hB, v, hbk, hown, hne⟩ := h1
  have c0 : w1.cell? ⟨b, 0, none⟩ = some (.pointer (some ⟨b, 0, none⟩)) := by rw [Lib.cell_of_heap hbk]; rfl
  have c1 : w1.cell? ⟨b, 1, none⟩ = some v := by rw [Lib.cell_of_heap hbk]; rfl
  go_wp2_with (at_builtin; refine Lib.wpList_append_own_string _ rfl _ _ 93 9 rfl B 5 i0 Tryz.underlying93 Tryz.underlying9 hi hz0 hz1 hz2 _ _ _ rfl hown s rfl ?c3 ?c4 ?c5 ?_)
  case c3 => unfold maxLen; omega
  case c4 => omega
  case c5 => have := hb1.size; omega
  intro v' w2 hown' hgrow _
  have hlt : b < w1.heap.size := by
    rcases Nat.lt_or_ge b w1.heap.size with h' | h'
    · exact h'
    · simp [Array.getElem?_eq_none h'] at hbk
  have hb2 : w2.heap[b]? = some (.cells #[.pointer (some ⟨b, 0, none⟩), v] 106 (0, 0)) := by
    rw [hgrow.block b hlt (fun e => hne e.symm)]
    exact hbk
  have d0 : w2.cell? ⟨b, 0, none⟩ = some (.pointer (some ⟨b, 0, none⟩)) := by rw [Lib.cell_of_heap hb2]; rfl
  have d1 : w2.cell? ⟨b, 1, none⟩ = some v := by rw [Lib.cell_of_heap hb2]; rfl
  have f1 : w2.frozen? ⟨b, 1, none⟩ = false := Lib.frozen_of_heap hb2 1
  obtain ⟨ao, n', cap, rfl⟩ : ∃ ao n' cap, v' = .slice ao n' cap := by
    rcases hown'.2 with ⟨hv, _⟩ | ⟨g, cap, cur, hv, _⟩
    · exact ⟨_, _, _, hv⟩
    · exact ⟨_, _, _, hv⟩
  go_wp2_with fail
  go_ret2
  refine ⟨rfl, ?_, ?_⟩
  · exact Lib.BuilderAt.put (T := 106) (e := 5) hB hb2 (bs' := bs ++ Lib.strCells s) (by simpa [Lib.strCells_length] using hown') (by decide)
  · exact (hb1.grown hgrow (by have := hb1.size; omega) (fun k hk => (hown.lt k hk).1)).setCell (p := ⟨b, 1, none⟩) hB _
end Go.Proofs.YtcmpdamfeoaapaaGreatDoor
end

section
/- Package format: Check, sign, padded. -/
namespace Go.Proofs.YtcmpdamfeoaapaaGreatDoor
open Go.RowKit
set_option linter.unusedVariables false

/-- a spec as a value -/
def specA (m p b a z : Bool) (wd pr : Int) (vb : Nat) : Array Value := #[.bool m, .bool p, .bool b, .bool a, .bool z, .int .i64 wd, .int .i64 pr, .int .u8 (vb : Int)]
/-- may the spec be -/
def okS (wd pr : Int) (vb : Nat) : Bool := (vb != 0) && decide (0 ≤ ixB verbsB vb) && decide (0 ≤ wd) && decide (wd ≤ 1024) && decide (-1 ≤ pr) && decide (pr ≤ 190)

set_option maxHeartbeats 4000000 in
set_option maxRecDepth 100000 in
theorem Check_ok (m p b a z : Bool) (wd pr : Int) (vb : Nat) (w : World) (h : okS wd pr vb = true) :
    Calls Tryz.prog 57 #[.agg (specA m p b a z wd pr vb)] w fun e w' => e = .returned (.int .i64 0) ∧ Below w.heap.size w w' := by
  unfold okS at h
  simp only [Bool.and_eq_true, decide_eq_true_eq, bne_iff_ne] at h
  obtain ⟨⟨⟨⟨⟨h1, h2⟩, h3⟩, h4⟩, h5⟩, h6⟩ := h
  have HI : Hid (∀ W, Calls Tryz.prog 58 #[.string ⟨#[100, 105, 111, 120, 88, 117, 101, 69, 102, 70, 103, 71, 99, 115, 37]⟩, .int .u8 (vb : Int)] W fun e w' => e = .returned (.int .i64 (ixB verbsB vb)) ∧ w' = W) :=
      fun W => Tryz.strings_IndexByte verbsB (vb : Int) W
  generalize ixB verbsB vb = J at *
  have hv : ((vb : Int) == 0) = false := by simp; omega
  have j2 : decide (J < 0) = false := by simp; omega
  have j3 : decide (wd < 0) = false := by simp; omega
  have j4 : decide (1024 < wd) = false := by simp; omega
  have j5 : decide (pr < -1) = false := by simp; omega
  have j6 : decide (190 < pr) = false := by simp; omega
  unfold specA
  clear h1 h2 h3 h4 h5 h6
  go_enter Tryz.func57, Tryz.ntmps57
  go_wp2_with fail
  refine (HI.out _).mono ?_
  rintro e _ ⟨rfl, rfl⟩
  go_wp2_with fail
  go_ret
  exact ⟨rfl, (Below.refl _ _).alloc (Nat.le_refl _) _⟩

/-- the sign ahead -/
def signL (p b minus : Bool) : List UInt8 := if minus then [45] else if p then [43] else if b then [32] else []
set_option maxRecDepth 100000 in
theorem sign_any (m p b a z minus : Bool) (wd pr : Int) (vb : Nat) (w : World) :
    Calls Tryz.prog 110 #[.agg (specA m p b a z wd pr vb), .bool minus] w fun e w' => e = .returned (.string ⟨(signL p b minus).toArray⟩) ∧ Below w.heap.size w w' := by
  unfold specA
  cases minus
  · cases p
    · cases b
      · go_enter Tryz.func110, Tryz.ntmps110
        go_wp2_with fail
        go_ret
        exact ⟨rfl, (Below.refl _ _).alloc (Nat.le_refl _) _⟩
      · go_enter Tryz.func110, Tryz.ntmps110
        go_wp2_with fail
        go_ret
        exact ⟨rfl, (Below.refl _ _).alloc (Nat.le_refl _) _⟩
    · go_enter Tryz.func110, Tryz.ntmps110
      go_wp2_with fail
      go_ret
      exact ⟨rfl, (Below.refl _ _).alloc (Nat.le_refl _) _⟩
  · go_enter Tryz.func110, Tryz.ntmps110
    go_wp2_with fail
    go_ret
    exact ⟨rfl, (Below.refl _ _).alloc (Nat.le_refl _) _⟩

/-- head and rest, as wide as it should be -/
def padL (m z : Bool) (wd : Int) (h s : List UInt8) : List UInt8 :=
  if m then h ++ s ++ List.replicate (wd - h.length - s.length).toNat 32
  else if z then h ++ List.replicate (wd - h.length - s.length).toNat 48 ++ s
  else List.replicate (wd - h.length - s.length).toNat 32 ++ h ++ s
theorem Repeat_one (c : UInt8) (n : Nat) (w : World) (hn : n ≤ 1000000000) :
    Calls Tryz.prog 109 #[.string ⟨#[c]⟩, .int .i64 (n : Int)] w fun e w' => e = .returned (.string ⟨(List.replicate n c).toArray⟩) ∧ Below w.heap.size w w' := by
  have h := Tryz.strings_Repeat ⟨#[c]⟩ n w (by omega) (by show 1 * n ≤ _; omega)
  rw [show (⟨#[c]⟩ : ByteArray).data.toList = [c] from rfl, repeatL_one] at h
  exact h

set_option maxHeartbeats 4000000 in
set_option maxRecDepth 100000 in
theorem padded_any (m p b a z0 zero : Bool) (wd pr : Int) (vb : Nat) (h s : ByteArray) (w : World) (hw : 0 ≤ wd) (hw2 : wd ≤ 1024) (hh : h.size ≤ 1000000) (hs : s.size ≤ 1000000) :
    Calls Tryz.prog 60 #[.agg (specA m p b a z0 wd pr vb), .string h, .string s, .bool zero] w fun e w' => e = .returned (.string ⟨(padL m zero wd h.data.toList s.data.toList).toArray⟩) ∧ Below w.heap.size w w' := by
  have e1 : h.size = h.data.toList.length := sz_list h
  have e2 : s.size = s.data.toList.length := sz_list s
  have hP : padL m zero wd h.data.toList s.data.toList = (if m then h.data.toList ++ s.data.toList ++ List.replicate (wd - h.size - s.size).toNat 32
      else if zero then h.data.toList ++ List.replicate (wd - h.size - s.size).toNat 48 ++ s.data.toList else List.replicate (wd - h.size - s.size).toNat 32 ++ h.data.toList ++ s.data.toList) := by
    unfold padL
    rw [← e1, ← e2]
  rw [hP]
  clear hP e1 e2
  obtain ⟨n, hn⟩ : ∃ n, n = (wd - h.size - s.size).toNat := ⟨_, rfl⟩
  rw [← hn]
  have HN := Lib.hid (show max 0 (wd - (h.size : Int) - (s.size : Int)) = (n : Int) from by omega)
  have hn2 : n ≤ 1000000000 := by omega
  have HRep := Lib.hid (fun (c : UInt8) (W : World) => Repeat_one c n W hn2)
  clear hn
  unfold specA
  cases m
  · cases zero
    · obtain ⟨R, hR⟩ : ∃ R : ByteArray, R = ⟨(List.replicate n 32).toArray⟩ := ⟨_, rfl⟩
      have hRs : R.size ≤ 1000000000 := by rw [sz_list, hR]; simpa using hn2
      have HRp := Lib.hid (fun (W : World) => HRep.out 32 W)
      rw [← hR] at HRp
      have HPO := Lib.hid (show R ++ h ++ s = ⟨(List.replicate n 32 ++ h.data.toList ++ s.data.toList).toArray⟩ from toBytes (by rw [hR]; simp [ByteArray.data_append]))
      show Calls _ _ _ _ fun e w' => e = .returned (.string ⟨(List.replicate n 32 ++ h.data.toList ++ s.data.toList).toArray⟩) ∧ Below w.heap.size w w'
      rw [← HPO.out]
      clear hR
      go_enter Tryz.func60, Tryz.ntmps60
      go_wp2_with fail
      rw [HN.out]
      refine (HRp.out _).mono ?_
      rintro e w1 ⟨rfl, hb⟩
      have HB := Lib.hid (((Below.refl w.heap.size w).alloc (Nat.le_refl _) (.cells #[.bool false, .bool p, .bool b, .bool a, .bool z0, .int .i64 wd, .int .i64 pr, .int .u8 (vb : Int)] 30)).trans (hb.mono (by simp)))
      clear hb
      go_wp2_with fail
      go_ret
      exact ⟨rfl, HB.out⟩
    · obtain ⟨R, hR⟩ : ∃ R : ByteArray, R = ⟨(List.replicate n 48).toArray⟩ := ⟨_, rfl⟩
      have hRs : R.size ≤ 1000000000 := by rw [sz_list, hR]; simpa using hn2
      have HRp := Lib.hid (fun (W : World) => HRep.out 48 W)
      rw [← hR] at HRp
      have HPO := Lib.hid (show h ++ R ++ s = ⟨(h.data.toList ++ List.replicate n 48 ++ s.data.toList).toArray⟩ from toBytes (by rw [hR]; simp [ByteArray.data_append]))
      show Calls _ _ _ _ fun e w' => e = .returned (.string ⟨(h.data.toList ++ List.replicate n 48 ++ s.data.toList).toArray⟩) ∧ Below w.heap.size w w'
      rw [← HPO.out]
      clear hR
      go_enter Tryz.func60, Tryz.ntmps60
      go_wp2_with fail
      rw [HN.out]
      refine (HRp.out _).mono ?_
      rintro e w1 ⟨rfl, hb⟩
      have HB := Lib.hid (((Below.refl w.heap.size w).alloc (Nat.le_refl _) (.cells #[.bool false, .bool p, .bool b, .bool a, .bool z0, .int .i64 wd, .int .i64 pr, .int .u8 (vb : Int)] 30)).trans (hb.mono (by simp)))
      clear hb
      go_wp2_with fail
      go_ret
      exact ⟨rfl, HB.out⟩
  · obtain ⟨R, hR⟩ : ∃ R : ByteArray, R = ⟨(List.replicate n 32).toArray⟩ := ⟨_, rfl⟩
    have hRs : R.size ≤ 1000000000 := by rw [sz_list, hR]; simpa using hn2
    have HRp := Lib.hid (fun (W : World) => HRep.out 32 W)
    rw [← hR] at HRp
    have HPO := Lib.hid (show h ++ s ++ R = ⟨(h.data.toList ++ s.data.toList ++ List.replicate n 32).toArray⟩ from toBytes (by rw [hR]; simp [ByteArray.data_append]))
    show Calls _ _ _ _ fun e w' => e = .returned (.string ⟨(h.data.toList ++ s.data.toList ++ List.replicate n 32).toArray⟩) ∧ Below w.heap.size w w'
    rw [← HPO.out]
    clear hR
    go_enter Tryz.func60, Tryz.ntmps60
    go_wp2_with fail
    rw [HN.out]
    refine (HRp.out _).mono ?_
    rintro e w1 ⟨rfl, hb⟩
    have HB := Lib.hid (((Below.refl w.heap.size w).alloc (Nat.le_refl _) (.cells #[.bool true, .bool p, .bool b, .bool a, .bool z0, .int .i64 wd, .int .i64 pr, .int .u8 (vb : Int)] 30)).trans (hb.mono (by simp)))
    clear hb
    go_wp2_with fail
    go_ret
    exact ⟨rfl, HB.out⟩
end Go.Proofs.YtcmpdamfeoaapaaGreatDoor
end

section
/- Package format: float and Number by the verb f. -/
namespace Go.Proofs.YtcmpdamfeoaapaaGreatDoor
open Go.RowKit
set_option linter.unusedVariables false

theorem cell_lt {w : World} {p : Addr} {v : Value} (h : w.cell? p = some v) : p.block < w.heap.size := by
  rcases Nat.lt_or_ge p.block w.heap.size with h' | h'
  · exact h'
  · exfalso
    unfold World.cell? at h
    rw [Array.getElem?_eq_none h'] at h
    cases h
theorem cell_next {w w' : World} (hb : Below w.heap.size w w') {p : Addr} {v : Value} (h : w.cell? p = some v) : w'.cell? p = some v := (hb.cell (cell_lt h)).trans h
theorem heap_next {w w' : World} (hb : Below w.heap.size w w') {D : Nat} {o : Obj} (h : w.heap[D]? = some o) : w'.heap[D]? = some o := (hb.block D (lt_of_heap h)).trans h
theorem below_next {n : Nat} {w w1 w1' w2 : World} (hn : n ≤ w.heap.size) (h : Below n w w1) (hb : Below w1'.heap.size w1' w2) (e : w1' = w1 ∨ w1' = w1.drew) : Below n w w2 := by
  rcases e with rfl | rfl
  · exact h.trans (hb.mono (Nat.le_trans hn h.size))
  · exact h.drew.trans (hb.mono (Nat.le_trans hn h.size))

theorem Fixed_at (b p : Nat) (l0 : List UInt8) (w : World) (hb : b < 18446744073709551616) (hf : fin b = true) (hp : p ≤ 200) (hc : Canon l0 (scaledN b p)) :
    Calls Tryz.prog 66 #[.float .f64 b, .int .i64 p] w fun e w' => e = .returned (.tuple #[.string ⟨(fixedL l0 p).toArray⟩, .int .i64 0]) ∧ Below w.heap.size w w' := by
  refine (Fixed_ok b p w hb hf hp).mono ?_
  rintro e w' ⟨s, l, rfl, hc2, hs, hbw⟩
  obtain rfl := canon_unique hc2 hc
  rw [toBytes hs]
  exact ⟨rfl, hbw⟩

set_option maxHeartbeats 8000000 in
set_option maxRecDepth 1000000 in
/-- float by the verb f, without the flag '#' -/
theorem float_f (m p bl z : Bool) (wd : Int) (pr b : Nat) (l0 : List UInt8) (w : World) (hb : b < 18446744073709551616) (hf : fin b = true) (hp : pr ≤ 190) (hc : Canon l0 (scaledN b pr)) (hw : 0 ≤ wd) (hw2 : wd ≤ 1024) (hl : (fixedL l0 pr).length ≤ 1000000) :
    Calls Tryz.prog 63 #[.agg (specA m p bl false z wd pr 102), .float .f64 b] w fun e w' => e = .returned (.string ⟨(padL m z wd (signL p bl (decide (9223372036854775808 ≤ b))) (fixedL l0 pr)).toArray⟩) ∧ Below w.heap.size w w' := by
  have HFx := Lib.hid (fun W => Fixed_at b pr l0 W hb hf (by omega) hc)
  have HSg := Lib.hid (fun W => sign_any m p bl false z (decide (9223372036854775808 ≤ b)) wd pr 102 W)
  obtain ⟨sg, hsg⟩ : ∃ sg : ByteArray, sg = ⟨(signL p bl (decide (9223372036854775808 ≤ b))).toArray⟩ := ⟨_, rfl⟩
  obtain ⟨fx, hfx⟩ : ∃ fx : ByteArray, fx = ⟨(fixedL l0 pr).toArray⟩ := ⟨_, rfl⟩
  have hsg1 : sg.size ≤ 1000000 := by
    rw [sz_list, hsg]
    show (signL _ _ _).length ≤ _
    unfold signL
    split
    · decide
    · split
      · decide
      · split <;> decide
  have hfx1 : fx.size ≤ 1000000 := by rw [sz_list, hfx]; exact hl
  have HPd := Lib.hid (fun W => padded_any m p bl false z z wd pr 102 sg fx W hw hw2 hsg1 hfx1)
  rw [show sg.data.toList = signL p bl (decide (9223372036854775808 ≤ b)) from by rw [hsg], show fx.data.toList = fixedL l0 pr from by rw [hfx]] at HPd
  rw [← hsg] at HSg
  rw [← hfx] at HFx
  generalize padL m z wd (signL p bl (decide (9223372036854775808 ≤ b))) (fixedL l0 pr) = out at *
  have hsh : (((b : Int) / 9223372036854775808) == 1) = decide (9223372036854775808 ≤ b) := by
    by_cases h9 : 9223372036854775808 ≤ b
    · rw [decide_eq_true h9, beq_iff_eq]; omega
    · rw [decide_eq_false h9, beq_eq_false_iff_ne]; omega
  generalize decide (9223372036854775808 ≤ b) = neg at *
  unfold specA at HSg HPd ⊢
  have hpr0 : (0 : Int) ≤ (pr : Int) := by omega
  clear hsg hfx hsg1 hfx1 hc hl
  go_enter Tryz.func63, Tryz.ntmps63
  go_wp2_with fail
  refine (HFx.out _).mono ?_
  rintro e w1 ⟨rfl, hb1⟩
  have HB1 := Lib.hid (((Below.refl w.heap.size w).alloc (Nat.le_refl _) (.cells #[.bool m, .bool p, .bool bl, .bool false, .bool z, .int .i64 wd, .int .i64 pr, .int .u8 102] 30)).trans (hb1.mono (by simp)))
  have k0 : w1.cell? ⟨w.heap.size, 0, none⟩ = some (.bool m) := by rw [hb1.cell (by simp)]; simp [go_sem]
  have k1 : w1.cell? ⟨w.heap.size, 1, none⟩ = some (.bool p) := by rw [hb1.cell (by simp)]; simp [go_sem]
  have k2 : w1.cell? ⟨w.heap.size, 2, none⟩ = some (.bool bl) := by rw [hb1.cell (by simp)]; simp [go_sem]
  have k3 : w1.cell? ⟨w.heap.size, 3, none⟩ = some (.bool false) := by rw [hb1.cell (by simp)]; simp [go_sem]
  have k4 : w1.cell? ⟨w.heap.size, 4, none⟩ = some (.bool z) := by rw [hb1.cell (by simp)]; simp [go_sem]
  have k5 : w1.cell? ⟨w.heap.size, 5, none⟩ = some (.int .i64 wd) := by rw [hb1.cell (by simp)]; simp [go_sem]
  have k6 : w1.cell? ⟨w.heap.size, 6, none⟩ = some (.int .i64 pr) := by rw [hb1.cell (by simp)]; simp [go_sem]
  have k7 : w1.cell? ⟨w.heap.size, 7, none⟩ = some (.int .u8 102) := by rw [hb1.cell (by simp)]; simp [go_sem]
  have hz1 := hb1.size
  rw [World.size_alloc] at hz1
  clear hb1
  go_wp2_with fail
  go_region_held3 (fun w' => w'.cell? ⟨w.heap.size, 0, none⟩ = some (.bool m) ∧ w'.cell? ⟨w.heap.size, 1, none⟩ = some (.bool p) ∧ w'.cell? ⟨w.heap.size, 2, none⟩ = some (.bool bl) ∧ w'.cell? ⟨w.heap.size, 3, none⟩ = some (.bool false) ∧ w'.cell? ⟨w.heap.size, 4, none⟩ = some (.bool z) ∧ w'.cell? ⟨w.heap.size, 5, none⟩ = some (.int .i64 wd) ∧ w'.cell? ⟨w.heap.size, 6, none⟩ = some (.int .i64 pr) ∧ w'.cell? ⟨w.heap.size, 7, none⟩ = some (.int .u8 102)) (first | exact ⟨k0, k1, k2, k3, k4, k5, k6, k7⟩ | exact ⟨j0, j1, j2, j3, j4, j5, j6, j7⟩)
    (first
      | (go_at_call 110; refine (HSg.out _).mono ?_; rintro e w2 ⟨rfl, hb2⟩; have j0 := cell_next hb2 k0; have j1 := cell_next hb2 k1; have j2 := cell_next hb2 k2; have j3 := cell_next hb2 k3; have j4 := cell_next hb2 k4; have j5 := cell_next hb2 k5; have j6 := cell_next hb2 k6; have j7 := cell_next hb2 k7; have HB2 := Lib.hid (below_next (Nat.le_refl _) HB1.out hb2 (by first | exact .inl rfl | exact .inr rfl)))
      | (go_at_call 60; refine (HPd.out _).mono ?_; rintro e w3 ⟨rfl, hb3⟩; have j0 := cell_next hb3 j0; have j1 := cell_next hb3 j1; have j2 := cell_next hb3 j2; have j3 := cell_next hb3 j3; have j4 := cell_next hb3 j4; have j5 := cell_next hb3 j5; have j6 := cell_next hb3 j6; have j7 := cell_next hb3 j7; have HB3 := Lib.hid (below_next (Nat.le_refl _) HB2.out hb3 (by first | exact .inl rfl | exact .inr rfl))))
  all_goals go_wp2_with fail
  all_goals go_ret
  all_goals exact ⟨rfl, HB3.out⟩

theorem Index_nums (w : World) : Calls Tryz.prog 58 #[.string ⟨#[100, 105, 111, 120, 88, 117, 101, 69, 102, 70, 103, 71]⟩, .int .u8 102] w fun e w' => e = .returned (.int .i64 8) ∧ w' = w :=
  Tryz.strings_IndexByte ⟨#[100, 105, 111, 120, 88, 117, 101, 69, 102, 70, 103, 71]⟩ 102 w
theorem Index_whole (w : World) : Calls Tryz.prog 58 #[.string ⟨#[100, 105, 111, 120, 88, 117]⟩, .int .u8 102] w fun e w' => e = .returned (.int .i64 (-1)) ∧ w' = w :=
  Tryz.strings_IndexByte ⟨#[100, 105, 111, 120, 88, 117]⟩ 102 w

set_option maxHeartbeats 4000000 in
set_option maxRecDepth 1000000 in
/-- Number by the verb f, without the flag '#' -/
theorem Number_f (m p bl z : Bool) (wd : Int) (pr b : Nat) (l0 : List UInt8) (w : World) (hb : b < 18446744073709551616) (hf : fin b = true) (hp : pr ≤ 190) (hc : Canon l0 (scaledN b pr)) (hw : 0 ≤ wd) (hw2 : wd ≤ 1024) (hl : (fixedL l0 pr).length ≤ 1000000) :
    Calls Tryz.prog 21 #[.agg (specA m p bl false z wd pr 102), .float .f64 b] w fun e w' => e = .returned (.tuple #[.string ⟨(padL m z wd (signL p bl (decide (9223372036854775808 ≤ b))) (fixedL l0 pr)).toArray⟩, .int .i64 0]) ∧ Below w.heap.size w w' := by
  have HFl := Lib.hid (fun W => float_f m p bl z wd pr b l0 W hb hf hp hc hw hw2 hl)
  have HCk := Lib.hid (fun W => Check_ok m p bl false z wd pr 102 W (by
    unfold okS
    rw [show ixB verbsB 102 = 8 from by decide, decide_eq_true hw, decide_eq_true hw2, decide_eq_true (show (-1 : Int) ≤ (pr : Int) by omega), decide_eq_true (show (pr : Int) ≤ 190 by omega)]
    rfl))
  have HPt := Lib.hid (fun W => Parts_any b W hb)
  rw [hf] at HPt
  generalize padL m z wd (signL p bl (decide (9223372036854775808 ≤ b))) (fixedL l0 pr) = out at *
  unfold specA at HFl HCk ⊢
  clear hc hl
  go_enter Tryz.func21, Tryz.ntmps21
  go_wp2_with fail
  refine (HCk.out _).mono ?_
  rintro e w1 ⟨rfl, hb1⟩
  have HB1 := Lib.hid (((Below.refl w.heap.size w).alloc (Nat.le_refl _) (.cells #[.bool m, .bool p, .bool bl, .bool false, .bool z, .int .i64 wd, .int .i64 pr, .int .u8 102] 30)).trans (hb1.mono (by simp)))
  have k0 : w1.cell? ⟨w.heap.size, 0, none⟩ = some (.bool m) := by rw [hb1.cell (by simp)]; simp [go_sem]
  have k1 : w1.cell? ⟨w.heap.size, 1, none⟩ = some (.bool p) := by rw [hb1.cell (by simp)]; simp [go_sem]
  have k2 : w1.cell? ⟨w.heap.size, 2, none⟩ = some (.bool bl) := by rw [hb1.cell (by simp)]; simp [go_sem]
  have k3 : w1.cell? ⟨w.heap.size, 3, none⟩ = some (.bool false) := by rw [hb1.cell (by simp)]; simp [go_sem]
  have k4 : w1.cell? ⟨w.heap.size, 4, none⟩ = some (.bool z) := by rw [hb1.cell (by simp)]; simp [go_sem]
  have k5 : w1.cell? ⟨w.heap.size, 5, none⟩ = some (.int .i64 wd) := by rw [hb1.cell (by simp)]; simp [go_sem]
  have k6 : w1.cell? ⟨w.heap.size, 6, none⟩ = some (.int .i64 pr) := by rw [hb1.cell (by simp)]; simp [go_sem]
  have k7 : w1.cell? ⟨w.heap.size, 7, none⟩ = some (.int .u8 102) := by rw [hb1.cell (by simp)]; simp [go_sem]
  clear hb1
  go_wp2_with fail
  refine (Index_nums _).mono ?_
  rintro e _ ⟨rfl, rfl⟩
  go_wp2_with fail
  refine (HPt.out _).mono ?_
  rintro e _ ⟨rfl, rfl⟩
  go_wp2_with fail
  refine (Index_whole _).mono ?_
  rintro e _ ⟨rfl, rfl⟩
  go_wp2_with fail
  refine (HFl.out _).mono ?_
  rintro e w2 ⟨rfl, hb2⟩
  have HB2 := Lib.hid (HB1.out.trans (hb2.mono HB1.out.size))
  clear hb2
  go_wp2_with fail
  go_ret2
  exact ⟨rfl, HB2.out⟩
end Go.Proofs.YtcmpdamfeoaapaaGreatDoor
end

section
/- Package format: sci. -/
namespace Go.Proofs.YtcmpdamfeoaapaaGreatDoor
open Go.RowKit
set_option linter.unusedVariables false

/-- the library's table of powers -/
def PowOk (w : World) : Prop := Lib.TabIs Tryz.prog w "internal/strconv.uint64pow10" .u64 Lib.pow10Tab
theorem PowOk.below {w w' : World} (h : PowOk w) (hb : Below w.heap.size w w') : PowOk w' := Lib.tabBelow_of_tabIs h w' hb
theorem itoa_325 : ((List.range 326).all fun n => decide ((Lib.itoa (n : Int)).length ≤ 10)) = true := by kernel_rfl
theorem itoa_short {n : Nat} (h : n ≤ 325) : (Lib.itoa (n : Int)).length ≤ 10 := by
  have := List.all_eq_true.1 itoa_325 n (List.mem_range.2 (by omega))
  simpa using this

/-- a float with one digit ahead of the point, and a power -/
noncomputable def sciO (b p : Nat) (alt : Bool) : ByteArray :=
  let D : ByteArray := ⟨(sciD b p).toArray⟩
  let s := if 0 < p ∨ alt = true then D.extract 0 1 ++ ⟨#[46]⟩ else D.extract 0 1
  let s := s ++ (D.extract 1 D.size ++ ⟨#[101]⟩)
  let s := if sciE b p < 0 then s ++ ⟨#[45]⟩ else s ++ ⟨#[43]⟩
  let s := if (sciE b p).natAbs < 10 then s ++ ⟨#[48]⟩ else s
  s ++ ⟨(Lib.itoa ((sciE b p).natAbs : Int)).toArray⟩

set_option maxHeartbeats 8000000 in
set_option maxRecDepth 1000000 in
theorem sci_any (b p : Nat) (alt : Bool) (w : World) (hb : b < 18446744073709551616) (hf : fin b = true) (hp : p ≤ 200) (hT : PowOk w) :
    Calls Tryz.prog 113 #[.float .f64 b, .int .i64 p, .bool alt] w fun e w' => e = .returned (.string (sciO b p alt)) ∧ Below w.heap.size w w' := by
  have HS := Lib.hid (fun W => Sci_det b p W hb hf hp)
  have HT := Lib.hid hT
  have hO : sciO b p alt = (let D : ByteArray := ⟨(sciD b p).toArray⟩
    let s := if 0 < p ∨ alt = true then D.extract 0 1 ++ ⟨#[46]⟩ else D.extract 0 1
    let s := s ++ (D.extract 1 D.size ++ ⟨#[101]⟩)
    let s := if sciE b p < 0 then s ++ ⟨#[45]⟩ else s ++ ⟨#[43]⟩
    let s := if (sciE b p).natAbs < 10 then s ++ ⟨#[48]⟩ else s
    s ++ ⟨(Lib.itoa ((sciE b p).natAbs : Int)).toArray⟩) := rfl
  have HO := Lib.hid hO
  clear hO hT
  generalize sciO b p alt = O at *
  obtain ⟨D, hD⟩ : ∃ D : ByteArray, D = ⟨(sciD b p).toArray⟩ := ⟨_, rfl⟩
  rw [← hD] at HS HO
  have hDs : D.size = (sciD b p).length := by rw [hD, sz_list]
  have HDs := Lib.hid hDs
  clear hDs hD
  go_enter Tryz.func113, Tryz.ntmps113
  go_wp2_with fail
  refine (HS.out _).mono ?_
  rintro e w1 ⟨rfl, hok, hb1⟩
  have HB1 := Lib.hid hb1
  have HT1 := Lib.hid (HT.out.below hb1)
  have hz1 := hb1.size
  have h1 := hok.lo
  have h2 := hok.hi
  have h3 : D.size = p + 1 := HDs.out.trans hok.len
  clear hok hb1 HS
  have HI : Hid (∀ (n : Nat) (W : World), n ≤ 325 → PowOk W → Calls Tryz.prog 165 #[.int .i64 (n : Int)] W fun e w' => e = .returned (.string ⟨(Lib.itoa (n : Int)).toArray⟩) ∧ Below W.heap.size W w') := fun n W hn hp => by
    refine (Tryz.strconv_Itoa (n : Int) (by omega) (by omega) W hp).mono ?_
    rintro e w' ⟨rfl, q, os, rfl⟩
    exact ⟨rfl, Lib.below_grow _ _ (Nat.le_refl _) _ _⟩
  have H1 : (1 : Int) ≤ (D.size : Int) := by omega
  have H2 : (D.size : Int) ≤ 201 := by omega
  generalize sciE b p = E at *
  -- CASES
  obtain ⟨H, hH⟩ : ∃ H : ByteArray, D.extract 0 1 = H := ⟨_, rfl⟩
  obtain ⟨R, hR⟩ : ∃ R : ByteArray, D.extract 1 D.size = R := ⟨_, rfl⟩
  have hHs : H.size ≤ 201 := by rw [← hH]; simp; omega
  have hRs : R.size ≤ 201 := by rw [← hR]; simp; omega
  rw [hH, hR] at HO
  clear h3 HDs
  by_cases hd : 0 < p
  · have hpI : (0 : Int) < (p : Int) := by omega
    rw [if_pos (show 0 < p ∨ alt = true from .inl hd)] at HO
    clear hd
    rcases Int.lt_or_le E 0 with hE | hE
    · obtain ⟨n, rfl⟩ : ∃ n : Nat, E = -(n : Int) := ⟨E.natAbs, by omega⟩
      have hn : n ≤ 325 := by omega
      have hn0 : 0 < n := by omega
      rw [if_pos hE, show (-(n : Int)).natAbs = n by omega] at HO
      clear hE h1 h2
      by_cases hs : n < 10
      · have hsm : decide ((n : Int) < 10) = true := by simp; omega
        rw [if_pos hs] at HO
        clear hs
        go_wp2_with fail
        refine (HI.out n _ hn HT1.out).mono ?_
        rintro e w2 ⟨rfl, hb2⟩
        have HB2 := Lib.hid (HB1.out.trans (hb2.mono hz1))
        clear hb2
        obtain ⟨T, hT⟩ : ∃ T : ByteArray, T = ⟨(Lib.itoa (n : Int)).toArray⟩ := ⟨_, rfl⟩
        have hTs : T.size ≤ 10 := by rw [hT, sz_list]; exact itoa_short hn
        rw [← hT] at HO ⊢
        clear hT
        go_wp2_with fail
        go_ret
        rw [HO.out]
        exact ⟨rfl, HB2.out⟩
      · have hsm : decide ((n : Int) < 10) = false := by simp; omega
        rw [if_neg hs] at HO
        clear hs
        go_wp2_with fail
        refine (HI.out n _ hn HT1.out).mono ?_
        rintro e w2 ⟨rfl, hb2⟩
        have HB2 := Lib.hid (HB1.out.trans (hb2.mono hz1))
        clear hb2
        obtain ⟨T, hT⟩ : ∃ T : ByteArray, T = ⟨(Lib.itoa (n : Int)).toArray⟩ := ⟨_, rfl⟩
        have hTs : T.size ≤ 10 := by rw [hT, sz_list]; exact itoa_short hn
        rw [← hT] at HO ⊢
        clear hT
        go_wp2_with fail
        go_ret
        rw [HO.out]
        exact ⟨rfl, HB2.out⟩
    · obtain ⟨n, rfl⟩ : ∃ n : Nat, E = (n : Int) := ⟨E.toNat, by omega⟩
      have hn : n ≤ 325 := by omega
      have hneg : decide ((n : Int) < 0) = false := by simp
      rw [if_neg (show ¬ ((n : Int) < 0) by omega), show ((n : Int)).natAbs = n by omega] at HO
      clear hE h1 h2
      by_cases hs : n < 10
      · have hsm : decide ((n : Int) < 10) = true := by simp; omega
        rw [if_pos hs] at HO
        clear hs
        go_wp2_with fail
        refine (HI.out n _ hn HT1.out).mono ?_
        rintro e w2 ⟨rfl, hb2⟩
        have HB2 := Lib.hid (HB1.out.trans (hb2.mono hz1))
        clear hb2
        obtain ⟨T, hT⟩ : ∃ T : ByteArray, T = ⟨(Lib.itoa (n : Int)).toArray⟩ := ⟨_, rfl⟩
        have hTs : T.size ≤ 10 := by rw [hT, sz_list]; exact itoa_short hn
        rw [← hT] at HO ⊢
        clear hT
        go_wp2_with fail
        go_ret
        rw [HO.out]
        exact ⟨rfl, HB2.out⟩
      · have hsm : decide ((n : Int) < 10) = false := by simp; omega
        rw [if_neg hs] at HO
        clear hs
        go_wp2_with fail
        refine (HI.out n _ hn HT1.out).mono ?_
        rintro e w2 ⟨rfl, hb2⟩
        have HB2 := Lib.hid (HB1.out.trans (hb2.mono hz1))
        clear hb2
        obtain ⟨T, hT⟩ : ∃ T : ByteArray, T = ⟨(Lib.itoa (n : Int)).toArray⟩ := ⟨_, rfl⟩
        have hTs : T.size ≤ 10 := by rw [hT, sz_list]; exact itoa_short hn
        rw [← hT] at HO ⊢
        clear hT
        go_wp2_with fail
        go_ret
        rw [HO.out]
        exact ⟨rfl, HB2.out⟩
  · obtain rfl : p = 0 := by omega
    clear hd
    cases alt
    · rw [if_neg (show ¬ (0 < 0 ∨ false = true) by simp)] at HO
      rcases Int.lt_or_le E 0 with hE | hE
      · obtain ⟨n, rfl⟩ : ∃ n : Nat, E = -(n : Int) := ⟨E.natAbs, by omega⟩
        have hn : n ≤ 325 := by omega
        have hn0 : 0 < n := by omega
        rw [if_pos hE, show (-(n : Int)).natAbs = n by omega] at HO
        clear hE h1 h2
        by_cases hs : n < 10
        · have hsm : decide ((n : Int) < 10) = true := by simp; omega
          rw [if_pos hs] at HO
          clear hs
          go_wp2_with fail
          refine (HI.out n _ hn HT1.out).mono ?_
          rintro e w2 ⟨rfl, hb2⟩
          have HB2 := Lib.hid (HB1.out.trans (hb2.mono hz1))
          clear hb2
          obtain ⟨T, hT⟩ : ∃ T : ByteArray, T = ⟨(Lib.itoa (n : Int)).toArray⟩ := ⟨_, rfl⟩
          have hTs : T.size ≤ 10 := by rw [hT, sz_list]; exact itoa_short hn
          rw [← hT] at HO ⊢
          clear hT
          go_wp2_with fail
          go_ret
          rw [HO.out]
          exact ⟨rfl, HB2.out⟩
        · have hsm : decide ((n : Int) < 10) = false := by simp; omega
          rw [if_neg hs] at HO
          clear hs
          go_wp2_with fail
          refine (HI.out n _ hn HT1.out).mono ?_
          rintro e w2 ⟨rfl, hb2⟩
          have HB2 := Lib.hid (HB1.out.trans (hb2.mono hz1))
          clear hb2
          obtain ⟨T, hT⟩ : ∃ T : ByteArray, T = ⟨(Lib.itoa (n : Int)).toArray⟩ := ⟨_, rfl⟩
          have hTs : T.size ≤ 10 := by rw [hT, sz_list]; exact itoa_short hn
          rw [← hT] at HO ⊢
          clear hT
          go_wp2_with fail
          go_ret
          rw [HO.out]
          exact ⟨rfl, HB2.out⟩
      · obtain ⟨n, rfl⟩ : ∃ n : Nat, E = (n : Int) := ⟨E.toNat, by omega⟩
        have hn : n ≤ 325 := by omega
        have hneg : decide ((n : Int) < 0) = false := by simp
        rw [if_neg (show ¬ ((n : Int) < 0) by omega), show ((n : Int)).natAbs = n by omega] at HO
        clear hE h1 h2
        by_cases hs : n < 10
        · have hsm : decide ((n : Int) < 10) = true := by simp; omega
          rw [if_pos hs] at HO
          clear hs
          go_wp2_with fail
          refine (HI.out n _ hn HT1.out).mono ?_
          rintro e w2 ⟨rfl, hb2⟩
          have HB2 := Lib.hid (HB1.out.trans (hb2.mono hz1))
          clear hb2
          obtain ⟨T, hT⟩ : ∃ T : ByteArray, T = ⟨(Lib.itoa (n : Int)).toArray⟩ := ⟨_, rfl⟩
          have hTs : T.size ≤ 10 := by rw [hT, sz_list]; exact itoa_short hn
          rw [← hT] at HO ⊢
          clear hT
          go_wp2_with fail
          go_ret
          rw [HO.out]
          exact ⟨rfl, HB2.out⟩
        · have hsm : decide ((n : Int) < 10) = false := by simp; omega
          rw [if_neg hs] at HO
          clear hs
          go_wp2_with fail
          refine (HI.out n _ hn HT1.out).mono ?_
          rintro e w2 ⟨rfl, hb2⟩
          have HB2 := Lib.hid (HB1.out.trans (hb2.mono hz1))
          clear hb2
          obtain ⟨T, hT⟩ : ∃ T : ByteArray, T = ⟨(Lib.itoa (n : Int)).toArray⟩ := ⟨_, rfl⟩
          have hTs : T.size ≤ 10 := by rw [hT, sz_list]; exact itoa_short hn
          rw [← hT] at HO ⊢
          clear hT
          go_wp2_with fail
          go_ret
          rw [HO.out]
          exact ⟨rfl, HB2.out⟩
    · rw [if_pos (show 0 < 0 ∨ true = true from .inr rfl)] at HO
      rcases Int.lt_or_le E 0 with hE | hE
      · obtain ⟨n, rfl⟩ : ∃ n : Nat, E = -(n : Int) := ⟨E.natAbs, by omega⟩
        have hn : n ≤ 325 := by omega
        have hn0 : 0 < n := by omega
        rw [if_pos hE, show (-(n : Int)).natAbs = n by omega] at HO
        clear hE h1 h2
        by_cases hs : n < 10
        · have hsm : decide ((n : Int) < 10) = true := by simp; omega
          rw [if_pos hs] at HO
          clear hs
          go_wp2_with fail
          refine (HI.out n _ hn HT1.out).mono ?_
          rintro e w2 ⟨rfl, hb2⟩
          have HB2 := Lib.hid (HB1.out.trans (hb2.mono hz1))
          clear hb2
          obtain ⟨T, hT⟩ : ∃ T : ByteArray, T = ⟨(Lib.itoa (n : Int)).toArray⟩ := ⟨_, rfl⟩
          have hTs : T.size ≤ 10 := by rw [hT, sz_list]; exact itoa_short hn
          rw [← hT] at HO ⊢
          clear hT
          go_wp2_with fail
          go_ret
          rw [HO.out]
          exact ⟨rfl, HB2.out⟩
        · have hsm : decide ((n : Int) < 10) = false := by simp; omega
          rw [if_neg hs] at HO
          clear hs
          go_wp2_with fail
          refine (HI.out n _ hn HT1.out).mono ?_
          rintro e w2 ⟨rfl, hb2⟩
          have HB2 := Lib.hid (HB1.out.trans (hb2.mono hz1))
          clear hb2
          obtain ⟨T, hT⟩ : ∃ T : ByteArray, T = ⟨(Lib.itoa (n : Int)).toArray⟩ := ⟨_, rfl⟩
          have hTs : T.size ≤ 10 := by rw [hT, sz_list]; exact itoa_short hn
          rw [← hT] at HO ⊢
          clear hT
          go_wp2_with fail
          go_ret
          rw [HO.out]
          exact ⟨rfl, HB2.out⟩
      · obtain ⟨n, rfl⟩ : ∃ n : Nat, E = (n : Int) := ⟨E.toNat, by omega⟩
        have hn : n ≤ 325 := by omega
        have hneg : decide ((n : Int) < 0) = false := by simp
        rw [if_neg (show ¬ ((n : Int) < 0) by omega), show ((n : Int)).natAbs = n by omega] at HO
        clear hE h1 h2
        by_cases hs : n < 10
        · have hsm : decide ((n : Int) < 10) = true := by simp; omega
          rw [if_pos hs] at HO
          clear hs
          go_wp2_with fail
          refine (HI.out n _ hn HT1.out).mono ?_
          rintro e w2 ⟨rfl, hb2⟩
          have HB2 := Lib.hid (HB1.out.trans (hb2.mono hz1))
          clear hb2
          obtain ⟨T, hT⟩ : ∃ T : ByteArray, T = ⟨(Lib.itoa (n : Int)).toArray⟩ := ⟨_, rfl⟩
          have hTs : T.size ≤ 10 := by rw [hT, sz_list]; exact itoa_short hn
          rw [← hT] at HO ⊢
          clear hT
          go_wp2_with fail
          go_ret
          rw [HO.out]
          exact ⟨rfl, HB2.out⟩
        · have hsm : decide ((n : Int) < 10) = false := by simp; omega
          rw [if_neg hs] at HO
          clear hs
          go_wp2_with fail
          refine (HI.out n _ hn HT1.out).mono ?_
          rintro e w2 ⟨rfl, hb2⟩
          have HB2 := Lib.hid (HB1.out.trans (hb2.mono hz1))
          clear hb2
          obtain ⟨T, hT⟩ : ∃ T : ByteArray, T = ⟨(Lib.itoa (n : Int)).toArray⟩ := ⟨_, rfl⟩
          have hTs : T.size ≤ 10 := by rw [hT, sz_list]; exact itoa_short hn
          rw [← hT] at HO ⊢
          clear hT
          go_wp2_with fail
          go_ret
          rw [HO.out]
          exact ⟨rfl, HB2.out⟩
end Go.Proofs.YtcmpdamfeoaapaaGreatDoor
end
