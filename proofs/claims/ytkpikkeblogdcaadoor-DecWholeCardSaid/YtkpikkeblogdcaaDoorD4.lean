/- Package dec: Parts, scaled. -/
import Derived.Test.YtkpikkeblogdcaaDoorD3
namespace Go.Proofs.YtkpikkeblogdcaaDoor
open Go.RowKit
set_option linter.unusedVariables false

/-- a float's bits: natural, power of two, is it finite -/
def mant (b : Nat) : Nat := if b % 9223372036854775808 / 4503599627370496 = 2047 then 0 else if b % 9223372036854775808 / 4503599627370496 = 0 then b % 4503599627370496 else b % 4503599627370496 + 4503599627370496
def expo (b : Nat) : Int := if b % 9223372036854775808 / 4503599627370496 = 2047 then 0 else if b % 9223372036854775808 / 4503599627370496 = 0 then -1074 else (b % 9223372036854775808 / 4503599627370496 : Nat) - 1075
def fin (b : Nat) : Bool := !(b % 9223372036854775808 / 4503599627370496 == 2047)

theorem mask63 (b : Nat) (h : b < 18446744073709551616) : bits .andNot .u64 (b : Int) 9223372036854775808 = ((b % 9223372036854775808 : Nat) : Int) := by
  have h3 := u64_andNot_nat b 9223372036854775808 h (by decide)
  rw [show 18446744073709551615 - 9223372036854775808 = 2 ^ 63 - 1 by decide, Nat.and_two_pow_sub_one_eq_mod] at h3
  exact h3
theorem mask52 (b : Nat) (h : b < 18446744073709551616) : bits .and .u64 (b : Int) 4503599627370495 = ((b % 4503599627370496 : Nat) : Int) := by
  have h3 := u64_and_nat b 4503599627370495 h (by decide)
  rw [show (4503599627370495 : Nat) = 2 ^ 52 - 1 by decide, Nat.and_two_pow_sub_one_eq_mod] at h3
  exact h3
theorem or52 (m : Nat) (h : m < 4503599627370496) : bits .or .u64 (m : Int) 4503599627370496 = ((m + 4503599627370496 : Nat) : Int) := by
  have h3 := u64_or_nat m 4503599627370496 (by omega) (by decide)
  rw [Nat.or_comm, nat_join 52 4503599627370496 m (by decide) h, Nat.add_comm] at h3
  exact h3

set_option maxHeartbeats 2000000 in
theorem Parts_any (b : Nat) (w : World) (hb : b < 18446744073709551616) :
    Calls Tryd.prog 22 #[.float .f64 b] w fun e w' => e = .returned (.tuple #[.int .u64 (mant b : Nat), .int .i64 (expo b), .bool (fin b)]) ∧ w = w' := by
  have e1 := mask63 b hb
  obtain ⟨c, hc⟩ : ∃ c, c = b % 9223372036854775808 := ⟨_, rfl⟩
  have e2 := mask52 c (by omega)
  have hm0 : c % 4503599627370496 = b % 4503599627370496 := by omega
  obtain ⟨m, hm⟩ : ∃ m, m = b % 4503599627370496 := ⟨_, rfl⟩
  have hml : m < 4503599627370496 := by omega
  have e3 := or52 m hml
  obtain ⟨q, hq⟩ : ∃ q, q = c / 4503599627370496 := ⟨_, rfl⟩
  have hql : q ≤ 2047 := by omega
  have e4 : (c : Int) / 4503599627370496 = (q : Int) := by omega
  rw [hm0, ← hm] at e2
  rw [← hc] at e1
  obtain ⟨m2, hm2⟩ : ∃ m2, m2 = m + 4503599627370496 := ⟨_, rfl⟩
  rw [← hm2] at e3
  have HM : Hid (mant b = if q = 2047 then 0 else if q = 0 then m else m2) := by show _ = _; rw [mant, hm2, hq, hc, hm]
  have HE : Hid (expo b = if q = 2047 then 0 else if q = 0 then -1074 else (q : Int) - 1075) := by show _ = _; rw [expo, hq, hc]
  have HF : Hid (fin b = !(q == 2047)) := by show _ = _; rw [fin, hq, hc]
  clear hc hm hq hm0 hm2 hml hb
  go_enter Tryd.func22, Tryd.ntmps22
  by_cases h1 : q = 2047
  · subst h1
    go_wp2_with fail
    go_ret3
    exact ⟨by rw [HM.out, HE.out, HF.out]; rfl, rfl⟩
  · have h1' : ((q : Int) == 2047) = false := beq_eq_false_iff_ne.2 (by omega)
    by_cases h2 : q = 0
    · subst h2
      go_wp2_with fail
      go_ret3
      exact ⟨by rw [HM.out, HE.out, HF.out]; rfl, rfl⟩
    · have h2' : ((q : Int) == 0) = false := beq_eq_false_iff_ne.2 (by omega)
      have h3 : Hid ((q == 2047) = false) := beq_eq_false_iff_ne.2 h1
      go_wp2_with fail
      go_ret3
      exact ⟨by rw [HM.out, HE.out, HF.out, if_neg h1, if_neg h2, if_neg h1, if_neg h2, h3.out]; rfl, rfl⟩

theorem pow10_bits {j : Nat} (h : j ≤ 600) : nbits (10 ^ j) ≤ 2000 := by
  have h1 : nbits (10 ^ j) ≤ 10 * 200 := nbits_le.2 (Nat.lt_of_le_of_lt (p10_le (b := 3 * 200) (by omega)) (thousand (i := 200) (by decide)))
  omega
theorem nbits_mul {a b i j k : Nat} (ha : nbits a ≤ i) (hb : nbits b ≤ j) (hk : i + j ≤ k) : nbits (a * b) ≤ k := by
  refine nbits_le.2 (Nat.lt_of_lt_of_le ?_ (Nat.pow_le_pow_right (by decide) hk))
  rw [Nat.pow_add]
  have h1 := nbits_le.1 ha
  have h2 := nbits_le.1 hb
  calc a * b ≤ a * 2 ^ j := Nat.mul_le_mul_left _ (Nat.le_of_lt h2)
    _ < 2 ^ i * 2 ^ j := Nat.mul_lt_mul_of_pos_right h1 (Nat.pow_pos (by decide))
theorem two_pow_bits (j : Nat) : nbits (2 ^ j) ≤ j + 1 := nbits_le.2 (Nat.pow_lt_pow_right (by decide) (by omega))

set_option maxRecDepth 100000 in
set_option maxHeartbeats 2000000 in
theorem scaled_any (m : Nat) (e k : Int) (w : World) (hm : m < 18446744073709551616) (he1 : -1100 ≤ e) (he2 : e ≤ 1000) (hk1 : -600 ≤ k) (hk2 : k ≤ 600) :
    Calls Tryd.prog 46 #[.int .u64 m, .int .i64 e, .int .i64 k] w fun r w' => ∃ v, r = .returned v ∧ NatV w' v (rnd (m * 10 ^ k.toNat * 2 ^ e.toNat) (10 ^ (-k).toNat * 2 ^ (-e).toNat)) ∧ Below w.heap.size w w' := by
  have hmb : nbits m ≤ 64 := nbits_le.2 (by rw [show (2 : Nat) ^ 64 = 18446744073709551616 by decide]; exact hm)
  have hp1 : nbits (10 ^ k.toNat) ≤ 2000 := pow10_bits (by omega)
  have hp2 : nbits (10 ^ (-k).toNat) ≤ 2000 := pow10_bits (by omega)
  have hn : nbits (m * 10 ^ k.toNat) ≤ 2064 := nbits_mul hmb hp1 (by omega)
  have hX : nbits (m * 10 ^ k.toNat * 2 ^ e.toNat) ≤ 4000 := nbits_shift (by omega)
  have hY : nbits (10 ^ (-k).toNat * 2 ^ (-e).toNat) ≤ 4000 := nbits_shift (by omega)
  have hY2 : nbits (2 * (10 ^ (-k).toNat * 2 ^ (-e).toNat)) ≤ 4002 := nbits_mul (two_pow_bits 1) hY (by omega)
  have hQ : nbits (m * 10 ^ k.toNat * 2 ^ e.toNat / (10 ^ (-k).toNat * 2 ^ (-e).toNat) + 1) ≤ 4001 := by
    exact nbits_add (k := 4000) hX (Nat.succ_le_succ (Nat.div_le_self _ _))
  have hy0 : 0 < 10 ^ (-k).toNat * 2 ^ (-e).toNat := Nat.mul_pos (Nat.pow_pos (by decide)) (Nat.pow_pos (by decide))
  have P1 := Lib.hid (fun W => pow10_any k.toNat W (limbs_of_bits (by omega)) (by omega))
  have P2 := Lib.hid (fun W => pow10_any (-k).toNat W (limbs_of_bits (by omega)) (by omega))
  have M1 := Lib.hid (fun W va vb h1 h2 => Mul_any va vb m (10 ^ k.toNat) W h1 h2 (limbs_of_bits (by omega)) (limbs_of_bits (by omega)) (limbs_of_bits (by omega)))
  have S1 := Lib.hid (fun W va h => shifted_any va (m * 10 ^ k.toNat) e W h (by omega) (by omega) (limbs_of_bits (by omega)))
  have S2 := Lib.hid (fun W va h => shifted_any va (10 ^ (-k).toNat) (-e) W h (by omega) (by omega) (limbs_of_bits (by omega)))
  have R1 := Lib.hid (fun W va vb h1 h2 => rounded_any va vb _ _ W h1 h2 (limbs_of_bits (show nbits (m * 10 ^ k.toNat * 2 ^ e.toNat) ≤ 8192 by omega)) (limbs_of_bits (by omega)) hy0 (limbs_of_bits (by omega)))
  have em1 : max k 0 = (k.toNat : Int) := by omega
  have em2 : max (-k) 0 = ((-k).toNat : Int) := by omega
  clear hmb hp1 hp2 hn hX hY hY2 hQ hy0
  generalize k.toNat = k1 at *
  generalize (-k).toNat = k2 at *
  generalize rnd (m * 10 ^ k1 * 2 ^ e.toNat) (10 ^ k2 * 2 ^ (-e).toNat) = RR at *
  go_enter Tryd.func46, Tryd.ntmps46
  go_wp2_with fail
  refine (FromV m m rfl hm w).mono ?_
  rintro r w1 ⟨v1, rfl, hn1, hb1⟩
  have HN1 := Lib.hid hn1
  have HB1 := Lib.hid hb1
  have hs1 := hb1.size
  clear hn1 hb1
  go_wp2_with fail
  refine (P1.out w1).mono ?_
  rintro r w2 ⟨v2, rfl, hn2, hb2⟩
  have HN2 := Lib.hid hn2
  have HN12 := Lib.hid (HN1.out.below hb2)
  have HB2 := Lib.hid (HB1.out.trans (hb2.mono hs1))
  have hs2 := hb2.size
  clear hn2 hb2 HN1 HB1 P1
  go_wp2_with fail
  refine (M1.out w2 _ _ HN12.out HN2.out).mono ?_
  rintro r w3 ⟨v3, rfl, hn3, hb3⟩
  have HN3 := Lib.hid hn3
  have HB3 := Lib.hid (HB2.out.trans (hb3.mono (by omega)))
  have hs3 := hb3.size
  clear hn3 hb3 HN2 HN12 HB2 M1
  go_wp2_with fail
  refine (P2.out w3).mono ?_
  rintro r w4 ⟨v4, rfl, hn4, hb4⟩
  have HN4 := Lib.hid hn4
  have HN34 := Lib.hid (HN3.out.below hb4)
  have HB4 := Lib.hid (HB3.out.trans (hb4.mono (by omega)))
  have hs4 := hb4.size
  clear hn4 hb4 HN3 HB3 P2
  go_wp2_with fail
  refine (S1.out w4 _ HN34.out).mono ?_
  rintro r w5 ⟨v5, rfl, hn5, hb5⟩
  have HN5 := Lib.hid hn5
  have HN45 := Lib.hid (HN4.out.below hb5)
  have HB5 := Lib.hid (HB4.out.trans (hb5.mono (by omega)))
  have hs5 := hb5.size
  clear hn5 hb5 HN4 HB4 HN34 S1
  go_wp2_with fail
  refine (S2.out w5 _ HN45.out).mono ?_
  rintro r w6 ⟨v6, rfl, hn6, hb6⟩
  have HN6 := Lib.hid hn6
  have HN56 := Lib.hid (HN5.out.below hb6)
  have HB6 := Lib.hid (HB5.out.trans (hb6.mono (by omega)))
  have hs6 := hb6.size
  clear hn6 hb6 HN5 HB5 HN45 S2
  go_wp2_with fail
  refine (R1.out w6 _ _ HN56.out HN6.out).mono ?_
  rintro r w7 ⟨v7, rfl, hn7, hb7⟩
  have HN7 := Lib.hid hn7
  have HB7 := Lib.hid (HB6.out.trans (hb7.mono (by omega)))
  clear hn7 hb7
  go_wp2_with fail
  go_ret
  exact ⟨_, rfl, HN7.out, HB7.out⟩
end Go.Proofs.YtkpikkeblogdcaaDoor
