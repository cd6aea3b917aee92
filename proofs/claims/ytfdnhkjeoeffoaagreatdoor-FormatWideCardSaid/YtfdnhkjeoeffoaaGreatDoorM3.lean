/- Several texts in one (D2, D3, D4, D5, D6, D7, R0, R1, R2, R3, R4, R5, R6, R7, R8, D8, D9, L1, L2, R9, L3, R10, L7, P0, P14, P1). -/
import Derived.Test.YtfdnhkjeoeffoaaGreatDoorM2
import Derived.KernelRfl
import Derived.Lib.SlTrimSet
import Derived.Shelf.Strings.SlTrimAscii
import GoSem.Core.Float
import Derived.Test.YtfdnhkjeoeffoaaGreatDoorM1
import Derived.StillTailTactics
import Derived.Deep.RegionHeld3
import Derived.BigRegion
section
/- Package dec: rounded. -/
namespace Go.Proofs.YtfdnhkjeoeffoaaGreatDoor
open Go.RowKit
set_option linter.unusedVariables false

/-- the whole number nearest to a fraction, ties to the even one -/
def rnd (x y : Nat) : Nat := if y < 2 * (x % y) ∨ 2 * (x % y) = y ∧ x / y % 2 = 1 then x / y + 1 else x / y
theorem rnd_le (x y : Nat) : rnd x y ≤ x / y + 1 := by unfold rnd; split <;> omega

theorem Cmp_V (va vb : Value) (x y : Nat) (w : World) (ha : NatV w va x) (hb : NatV w vb y) :
    Calls Tryz.prog 232 #[va, vb] w fun e w' => e = .returned (.int .i64 (cmpN x y)) ∧ Below w.heap.size w w' := by
  obtain ⟨a, ca, rfl, ha⟩ := ha
  obtain ⟨b, cb, rfl, hb⟩ := hb
  exact Cmp_any a ca x b cb y w ha hb

theorem u32_odd (x : Nat) (hx : x < 4294967296) : bits .and .u32 (x : Int) 1 = ((x % 2 : Nat) : Int) := by
  have h3 := u32_and_nat x 1 hx (by decide)
  rw [nat_mask1] at h3
  exact h3

theorem limbs_head {q : Nat} (h : 0 < (limbs q).length) : (limbs q)[0] % 2 = q % 2 := by
  have hq : q ≠ 0 := by rintro rfl; rw [limbs_zero] at h; simp at h
  have e := limbs_pos hq
  have : (limbs q)[0] = q % B32 := by simp [e]
  rw [this, B32]; omega

set_option maxRecDepth 100000 in
set_option maxHeartbeats 4000000 in
theorem rounded_any (va vb : Value) (x y : Nat) (w : World) (hx : NatV w va x) (hy : NatV w vb y) (hX : (limbs x).length ≤ 256) (hY : (limbs (2 * y)).length ≤ 256) (hy0 : 0 < y) (hQ : (limbs (x / y + 1)).length ≤ 256) :
    Calls Tryz.prog 182 #[va, vb] w fun e w' => ∃ v, e = .returned v ∧ NatV w' v (rnd x y) ∧ Below w.heap.size w w' := by
  have hY1 : (limbs y).length ≤ 256 := limbs_le_of_le (by omega) hY
  have HX := Lib.hid hx
  have HY := Lib.hid hy
  clear hx hy
  go_enter Tryz.func182, Tryz.ntmps182
  go_wp2_with fail
  refine (Div_any va vb x y w HX.out HY.out hX hY1 hy0).mono ?_
  rintro e w1 ⟨q, r, rfl, hq, hr, hb1⟩
  have HQ := Lib.hid hq
  have HR := Lib.hid hr
  have HB1 := Lib.hid hb1
  have HY1 := Lib.hid (HY.out.below hb1)
  have hs1 := hb1.size
  clear hq hr hb1 HX HY
  go_wp2_with fail
  have hr2 : x % y * 2 ^ (Int.toNat 1) = 2 * (x % y) := by
    rw [show Int.toNat 1 = 1 from rfl, Nat.pow_one, Nat.mul_comm]
  have hrl : (limbs (2 * (x % y))).length ≤ 256 := limbs_le_of_le (by have := Nat.mod_lt x hy0; omega) hY
  have HS := shifted_any r (x % y) 1 w1 HR.out (by decide) (by decide) (by rw [hr2]; exact hrl)
  rw [hr2] at HS
  refine HS.mono ?_
  rintro e w2 ⟨v2, rfl, hn2, hb2⟩
  have HN2 := Lib.hid hn2
  have HB2 := Lib.hid (HB1.out.trans (hb2.mono hs1))
  have HQ2 := Lib.hid (HQ.out.below hb2)
  have HY2 := Lib.hid (HY1.out.below hb2)
  have hs2 := hb2.size
  clear hn2 hb2 HS HQ HR HY1 HB1 hr2 hrl
  obtain ⟨aq, cq, rfl, hlq⟩ := HQ2.out
  have hq0 : (limbs (x / y)).length ≠ 0 → ∃ b, ∃ off, aq = some ⟨b, off, none⟩ ∧ ∃ t, w2.cell? ⟨b, off, none⟩ = some (.int .u32 (t : Nat)) ∧ t < 4294967296 ∧ t % 2 = x / y % 2 := by
    intro h
    obtain ⟨b, off, e, hc⟩ := hlq.at_ 0 (by omega)
    have h0 : 0 < (limbs (x / y)).length := Nat.pos_of_ne_zero h
    have h1 := limbs_head h0
    have h2 := hlq.lt _ (List.getElem_mem h0)
    exact ⟨b, off, e, (limbs (x / y))[0], by simpa using hc, h2, h1⟩
  have hql : (limbs (x / y)).length ≤ 256 := limbs_le_of_le (Nat.div_le_self _ _) hX
  have HC := Lib.hid (Cmp_V v2 vb (2 * (x % y)) y w2 HN2.out HY2.out)
  have HADD := Lib.hid (fun (v1 : Value) (w' : World) (h : NatV w' (.slice aq (limbs (x / y)).length cq) (x / y)) (h1 : NatV w' v1 1) => Add_any _ v1 (x / y) 1 w' h h1 hql (limbs_length_le (by decide)) hQ)
  clear hQ hX hY hY1
  have hqv : Hid ((limbs (x / y)).length = 0 → x / y = 0) := fun h => limbs_eq_nil.1 (List.eq_nil_of_length_eq_zero h)
  clear hlq
  have hup : Hid (y < 2 * (x % y) → rnd x y = x / y + 1) := by
    show _ → _; intro h; unfold rnd; rw [if_pos (.inl h)]
  have hdn : Hid (2 * (x % y) < y → rnd x y = x / y) := by
    show _ → _; intro h; unfold rnd; rw [if_neg (by omega)]
  have heq1 : Hid (2 * (x % y) = y → x / y % 2 = 1 → rnd x y = x / y + 1) := by
    show _ → _; intro h h1; unfold rnd; rw [if_pos (.inr ⟨h, h1⟩)]
  have heq0 : Hid (2 * (x % y) = y → x / y % 2 = 0 → rnd x y = x / y) := by
    show _ → _; intro h h1; unfold rnd; rw [if_neg (by omega)]
  generalize hrn : rnd x y = rn at *
  have HRN := Lib.hid hrn
  clear hrn
  have hq0' : (limbs (x / y)).length = 0 ∨ 0 < (limbs (x / y)).length := Nat.eq_zero_or_pos _
  generalize limbs (x / y) = Q at *
  generalize x / y = q at *
  generalize 2 * (x % y) = r2 at *
  rcases Nat.lt_trichotomy r2 y with hlt | hlt | hlt
  · have hcm : cmpN r2 y = -1 := by simp only [cmpN]; rw [if_pos hlt]
    rw [hcm] at HC
    clear hcm
    rcases hq0' with h0 | h0
    · have hq00 : q = 0 := hqv.out h0
      rw [h0] at HQ2 HADD
      have HRN2 : Hid (rnd x y = q) := by show _ = _; rw [HRN.out]; exact hdn.out hlt
      clear HRN hup hdn heq1 heq0 hlt
      go_wp2_with fail
      refine HC.out.mono ?_
      rintro e w3 ⟨rfl, hb3⟩
      have HQ3 := Lib.hid (HQ2.out.below hb3)
      have HB3 := Lib.hid (HB2.out.trans (hb3.mono (by omega)))
      clear hb3 HQ2 HB2
      go_wp2_with fail
      go_ret
      exact ⟨_, rfl, by rw [HRN2.out]; exact HQ3.out, HB3.out⟩

    rcases Nat.mod_two_eq_zero_or_one q with hp | hp
    · obtain ⟨b, off, rfl, t, hc, ht, htq⟩ := hq0 (by omega)
      have hodd := u32_odd t ht
      rw [htq, hp] at hodd
      have HRN2 : Hid (rnd x y = q) := by show _ = _; rw [HRN.out]; exact hdn.out hlt
      clear HRN hup hdn heq1 heq0 hlt
      go_wp2_with fail
      refine HC.out.mono ?_
      rintro e w3 ⟨rfl, hb3⟩
      have HQ3 := Lib.hid (HQ2.out.below hb3)
      have HB3 := Lib.hid (HB2.out.trans (hb3.mono (by omega)))
      clear hb3 HQ2 HB2
      go_wp2_with fail
      go_ret
      exact ⟨_, rfl, by rw [HRN2.out]; exact HQ3.out, HB3.out⟩

    · obtain ⟨b, off, rfl, t, hc, ht, htq⟩ := hq0 (by omega)
      have hodd := u32_odd t ht
      rw [htq, hp] at hodd
      have HRN2 : Hid (rnd x y = q) := by show _ = _; rw [HRN.out]; exact hdn.out hlt
      clear HRN hup hdn heq1 heq0 hlt
      go_wp2_with fail
      refine HC.out.mono ?_
      rintro e w3 ⟨rfl, hb3⟩
      have HQ3 := Lib.hid (HQ2.out.below hb3)
      have HB3 := Lib.hid (HB2.out.trans (hb3.mono (by omega)))
      clear hb3 HQ2 HB2
      go_wp2_with fail
      go_ret
      exact ⟨_, rfl, by rw [HRN2.out]; exact HQ3.out, HB3.out⟩

  · have hcm : cmpN r2 y = 0 := by simp only [cmpN]; rw [if_neg (by omega), if_pos hlt]
    rw [hcm] at HC
    clear hcm
    rcases hq0' with h0 | h0
    · have hq00 : q = 0 := hqv.out h0
      rw [h0] at HQ2 HADD
      have HRN2 : Hid (rnd x y = q) := by show _ = _; rw [HRN.out]; exact heq0.out hlt (by omega)
      clear HRN hup hdn heq1 heq0 hlt
      go_wp2_with fail
      refine HC.out.mono ?_
      rintro e w3 ⟨rfl, hb3⟩
      have HQ3 := Lib.hid (HQ2.out.below hb3)
      have HB3 := Lib.hid (HB2.out.trans (hb3.mono (by omega)))
      clear hb3 HQ2 HB2
      go_wp2_with fail
      go_ret
      exact ⟨_, rfl, by rw [HRN2.out]; exact HQ3.out, HB3.out⟩

    rcases Nat.mod_two_eq_zero_or_one q with hp | hp
    · obtain ⟨b, off, rfl, t, hc, ht, htq⟩ := hq0 (by omega)
      have hodd := u32_odd t ht
      rw [htq, hp] at hodd
      have HRN2 : Hid (rnd x y = q) := by show _ = _; rw [HRN.out]; exact heq0.out hlt hp
      clear HRN hup hdn heq1 heq0 hlt
      go_wp2_with fail
      refine HC.out.mono ?_
      rintro e w3 ⟨rfl, hb3⟩
      have HQ3 := Lib.hid (HQ2.out.below hb3)
      have HB3 := Lib.hid (HB2.out.trans (hb3.mono (by omega)))
      clear hb3 HQ2 HB2
      go_wp2_with fail
      go_ret
      exact ⟨_, rfl, by rw [HRN2.out]; exact HQ3.out, HB3.out⟩

    · obtain ⟨b, off, rfl, t, hc, ht, htq⟩ := hq0 (by omega)
      have hodd := u32_odd t ht
      rw [htq, hp] at hodd
      have HRN2 : Hid (rnd x y = q + 1) := by show _ = _; rw [HRN.out]; exact heq1.out hlt hp
      clear HRN hup hdn heq1 heq0 hlt
      go_wp2_with fail
      refine HC.out.mono ?_
      rintro e w3 ⟨rfl, hb3⟩
      have HQ3 := Lib.hid (HQ2.out.below hb3)
      have HB3 := Lib.hid (HB2.out.trans (hb3.mono (by omega)))
      have hs3 := hb3.size
      clear hb3 HQ2 HB2
      go_wp2_with fail
      refine (FromV 1 1 rfl (by decide) w3).mono ?_
      rintro e w4 ⟨v4, rfl, hn4, hb4⟩
      have HN4 := Lib.hid hn4
      have HQ4 := Lib.hid (HQ3.out.below hb4)
      have HB4 := Lib.hid (HB3.out.trans (hb4.mono (by omega)))
      have hs4 := hb4.size
      clear hn4 hb4 HQ3 HB3
      go_wp2_with fail
      refine (HADD.out v4 w4 HQ4.out HN4.out).mono ?_
      rintro e w5 ⟨v5, rfl, hn5, hb5⟩
      have HN5 := Lib.hid hn5
      have HB5 := Lib.hid (HB4.out.trans (hb5.mono (by omega)))
      clear hn5 hb5 HQ4 HB4 HN4
      go_wp2_with fail
      go_ret
      exact ⟨_, rfl, by rw [HRN2.out]; exact HN5.out, HB5.out⟩

  · have hcm : cmpN r2 y = 1 := by simp only [cmpN]; rw [if_neg (by omega), if_neg (by omega)]
    rw [hcm] at HC
    clear hcm
    rcases hq0' with h0 | h0
    · have hq00 : q = 0 := hqv.out h0
      rw [h0] at HQ2 HADD
      have HRN2 : Hid (rnd x y = q + 1) := by show _ = _; rw [HRN.out]; exact hup.out hlt
      clear HRN hup hdn heq1 heq0 hlt
      go_wp2_with fail
      refine HC.out.mono ?_
      rintro e w3 ⟨rfl, hb3⟩
      have HQ3 := Lib.hid (HQ2.out.below hb3)
      have HB3 := Lib.hid (HB2.out.trans (hb3.mono (by omega)))
      have hs3 := hb3.size
      clear hb3 HQ2 HB2
      go_wp2_with fail
      refine (FromV 1 1 rfl (by decide) w3).mono ?_
      rintro e w4 ⟨v4, rfl, hn4, hb4⟩
      have HN4 := Lib.hid hn4
      have HQ4 := Lib.hid (HQ3.out.below hb4)
      have HB4 := Lib.hid (HB3.out.trans (hb4.mono (by omega)))
      have hs4 := hb4.size
      clear hn4 hb4 HQ3 HB3
      go_wp2_with fail
      refine (HADD.out v4 w4 HQ4.out HN4.out).mono ?_
      rintro e w5 ⟨v5, rfl, hn5, hb5⟩
      have HN5 := Lib.hid hn5
      have HB5 := Lib.hid (HB4.out.trans (hb5.mono (by omega)))
      clear hn5 hb5 HQ4 HB4 HN4
      go_wp2_with fail
      go_ret
      exact ⟨_, rfl, by rw [HRN2.out]; exact HN5.out, HB5.out⟩

    rcases Nat.mod_two_eq_zero_or_one q with hp | hp
    · obtain ⟨b, off, rfl, t, hc, ht, htq⟩ := hq0 (by omega)
      have hodd := u32_odd t ht
      rw [htq, hp] at hodd
      have HRN2 : Hid (rnd x y = q + 1) := by show _ = _; rw [HRN.out]; exact hup.out hlt
      clear HRN hup hdn heq1 heq0 hlt
      go_wp2_with fail
      refine HC.out.mono ?_
      rintro e w3 ⟨rfl, hb3⟩
      have HQ3 := Lib.hid (HQ2.out.below hb3)
      have HB3 := Lib.hid (HB2.out.trans (hb3.mono (by omega)))
      have hs3 := hb3.size
      clear hb3 HQ2 HB2
      go_wp2_with fail
      refine (FromV 1 1 rfl (by decide) w3).mono ?_
      rintro e w4 ⟨v4, rfl, hn4, hb4⟩
      have HN4 := Lib.hid hn4
      have HQ4 := Lib.hid (HQ3.out.below hb4)
      have HB4 := Lib.hid (HB3.out.trans (hb4.mono (by omega)))
      have hs4 := hb4.size
      clear hn4 hb4 HQ3 HB3
      go_wp2_with fail
      refine (HADD.out v4 w4 HQ4.out HN4.out).mono ?_
      rintro e w5 ⟨v5, rfl, hn5, hb5⟩
      have HN5 := Lib.hid hn5
      have HB5 := Lib.hid (HB4.out.trans (hb5.mono (by omega)))
      clear hn5 hb5 HQ4 HB4 HN4
      go_wp2_with fail
      go_ret
      exact ⟨_, rfl, by rw [HRN2.out]; exact HN5.out, HB5.out⟩

    · obtain ⟨b, off, rfl, t, hc, ht, htq⟩ := hq0 (by omega)
      have hodd := u32_odd t ht
      rw [htq, hp] at hodd
      have HRN2 : Hid (rnd x y = q + 1) := by show _ = _; rw [HRN.out]; exact hup.out hlt
      clear HRN hup hdn heq1 heq0 hlt
      go_wp2_with fail
      refine HC.out.mono ?_
      rintro e w3 ⟨rfl, hb3⟩
      have HQ3 := Lib.hid (HQ2.out.below hb3)
      have HB3 := Lib.hid (HB2.out.trans (hb3.mono (by omega)))
      have hs3 := hb3.size
      clear hb3 HQ2 HB2
      go_wp2_with fail
      refine (FromV 1 1 rfl (by decide) w3).mono ?_
      rintro e w4 ⟨v4, rfl, hn4, hb4⟩
      have HN4 := Lib.hid hn4
      have HQ4 := Lib.hid (HQ3.out.below hb4)
      have HB4 := Lib.hid (HB3.out.trans (hb4.mono (by omega)))
      have hs4 := hb4.size
      clear hn4 hb4 HQ3 HB3
      go_wp2_with fail
      refine (HADD.out v4 w4 HQ4.out HN4.out).mono ?_
      rintro e w5 ⟨v5, rfl, hn5, hb5⟩
      have HN5 := Lib.hid hn5
      have HB5 := Lib.hid (HB4.out.trans (hb5.mono (by omega)))
      clear hn5 hb5 HQ4 HB4 HN4
      go_wp2_with fail
      go_ret
      exact ⟨_, rfl, by rw [HRN2.out]; exact HN5.out, HB5.out⟩

end Go.Proofs.YtfdnhkjeoeffoaaGreatDoor
end

section
/- Package dec: nearest. -/
namespace Go.Proofs.YtfdnhkjeoeffoaaGreatDoor
open Go.RowKit
set_option linter.unusedVariables false

@[go_sem] theorem callFfb (n : Int) (w : World) : (callFunc 13 #[.int .u64 n]).run Tryz.prog w = .ok (.value (.float .f64 n.toNat)) w := by
  rw [run_callFunc_extern Tryz.func13 (by kernel_rfl) (by kernel_rfl) (by kernel_rfl) (e := Extern.MathFloatBits.float64frombits) (by kernel_rfl)]
  rfl
@[go_sem] theorem callFb (b : Nat) (w : World) : (callFunc 54 #[.float .f64 b]).run Tryz.prog w = .ok (.value (.int .u64 b)) w := by
  rw [run_callFunc_extern Tryz.func54 (by kernel_rfl) (by kernel_rfl) (by kernel_rfl) (e := Extern.MathFloatBits.float64bits) (by kernel_rfl)]
  rfl

/-- a fraction over 2^e, rounded down -/
def qat (x y : Nat) (e : Int) : Nat := x * 2 ^ (-e).toNat / (y * 2 ^ e.toNat)
def e0 (x y : Nat) : Int := max ((nbits x : Int) - nbits y - 54) (-1074)
/-- E is the least exponent from e0 on at which the quotient has 53 bits -/
structure LeastE (x y : Nat) (E : Int) : Prop where
  ge : e0 x y ≤ E
  bits : nbits (qat x y E) ≤ 53
  least : ∀ e, e0 x y ≤ e → e < E → ¬ nbits (qat x y e) ≤ 53
/-- the bits of the float -/
def nearBits (x y : Nat) (E : Int) : Nat := min ((E + 1074).toNat * 2 ^ 52 + rnd (x * 2 ^ (-E).toNat) (y * 2 ^ E.toNat)) 9218868437227405312

theorem limbs_of_bits {n : Nat} (h : nbits n ≤ 8192) : (limbs n).length ≤ 256 := by
  refine limbs_length_le ?_
  have h2 : nbits n ≤ 32 * 256 := by omega
  exact Nat.lt_of_lt_of_eq (nbits_le.1 h2) (b32_pow 256).symm
theorem nbits_add {a b k : Nat} (ha : nbits a ≤ k) (h : b ≤ a + 1) : nbits b ≤ k + 1 := by
  refine nbits_le.2 ?_
  have h1 := nbits_le.1 ha
  rw [Nat.pow_succ]
  omega
theorem nbits_shift {n k m : Nat} (h : nbits n + k ≤ m) : nbits (n * 2 ^ k) ≤ m := by
  refine nbits_le.2 ?_
  have h1 := nbits_le.1 (Nat.le_refl (nbits n))
  have h2 : n * 2 ^ k < 2 ^ nbits n * 2 ^ k := Nat.mul_lt_mul_of_pos_right h1 (Nat.pow_pos (by decide))
  rw [← Nat.pow_add] at h2
  exact Nat.lt_of_lt_of_le h2 (Nat.pow_le_pow_right (by decide) h)
theorem Bits_V (va : Value) (n : Nat) (w : World) (h : NatV w va n) (hl : (limbs n).length ≤ 256) :
    Calls Tryz.prog 244 #[va] w fun e w' => e = .returned (.int .i64 (nbits n : Nat)) ∧ w = w' := by
  obtain ⟨a, ca, rfl, ha⟩ := h
  exact Bits_any a ca n w ha hl

end Go.Proofs.YtfdnhkjeoeffoaaGreatDoor
end

section
/- Package dec: Parts, scaled. -/
namespace Go.Proofs.YtfdnhkjeoeffoaaGreatDoor
open Go.RowKit
set_option linter.unusedVariables false

/-- a float's bits: natural, power of two, is it finite -/
def mant (b : Nat) : Nat := if b % 9223372036854775808 / 4503599627370496 = 2047 then 0 else if b % 9223372036854775808 / 4503599627370496 = 0 then b % 4503599627370496 else b % 4503599627370496 + 4503599627370496
def expo (b : Nat) : Int := if b % 9223372036854775808 / 4503599627370496 = 2047 then 0 else if b % 9223372036854775808 / 4503599627370496 = 0 then -1074 else (b % 9223372036854775808 / 4503599627370496 : Nat) - 1075
def fin (b : Nat) : Bool := !(b % 9223372036854775808 / 4503599627370496 == 2047)

theorem mask63 (b : Nat) (h : b < 18446744073709551616) : bits .andNot .u64 (b : Int) 9223372036854775808 = ((b % 9223372036854775808 : Nat) : Int) := by
  have h3 := u64_andNot_nat b 9223372036854775808 h (by decide)
  rw [show 18446744073709551615 - 9223372036854775808 = 2 ^ 63 - 1 by decide, Nat.and_two_pow_sub_one_eq_mod] at h3
  exact h3
theorem mask52 (b : Nat) (h : b < 18446744073709551616) : bits .and .u64 (b : Int) 4503599627370495 = ((b % 4503599627370496 : Nat) : Int) := by
  have h3 := u64_and_nat b 4503599627370495 h (by decide)
  rw [show (4503599627370495 : Nat) = 2 ^ 52 - 1 by decide, Nat.and_two_pow_sub_one_eq_mod] at h3
  exact h3
theorem or52 (m : Nat) (h : m < 4503599627370496) : bits .or .u64 (m : Int) 4503599627370496 = ((m + 4503599627370496 : Nat) : Int) := by
  have h3 := u64_or_nat m 4503599627370496 (by omega) (by decide)
  rw [Nat.or_comm, nat_join 52 4503599627370496 m (by decide) h, Nat.add_comm] at h3
  exact h3

set_option maxHeartbeats 2000000 in
theorem Parts_any (b : Nat) (w : World) (hb : b < 18446744073709551616) :
    Calls Tryz.prog 55 #[.float .f64 b] w fun e w' => e = .returned (.tuple #[.int .u64 (mant b : Nat), .int .i64 (expo b), .bool (fin b)]) ∧ w = w' := by
  have e1 := mask63 b hb
  obtain ⟨c, hc⟩ : ∃ c, c = b % 9223372036854775808 := ⟨_, rfl⟩
  have e2 := mask52 c (by omega)
  have hm0 : c % 4503599627370496 = b % 4503599627370496 := by omega
  obtain ⟨m, hm⟩ : ∃ m, m = b % 4503599627370496 := ⟨_, rfl⟩
  have hml : m < 4503599627370496 := by omega
  have e3 := or52 m hml
  obtain ⟨q, hq⟩ : ∃ q, q = c / 4503599627370496 := ⟨_, rfl⟩
  have hql : q ≤ 2047 := by omega
  have e4 : (c : Int) / 4503599627370496 = (q : Int) := by omega
  rw [hm0, ← hm] at e2
  rw [← hc] at e1
  obtain ⟨m2, hm2⟩ : ∃ m2, m2 = m + 4503599627370496 := ⟨_, rfl⟩
  rw [← hm2] at e3
  have HM : Hid (mant b = if q = 2047 then 0 else if q = 0 then m else m2) := by show _ = _; rw [mant, hm2, hq, hc, hm]
  have HE : Hid (expo b = if q = 2047 then 0 else if q = 0 then -1074 else (q : Int) - 1075) := by show _ = _; rw [expo, hq, hc]
  have HF : Hid (fin b = !(q == 2047)) := by show _ = _; rw [fin, hq, hc]
  clear hc hm hq hm0 hm2 hml hb
  go_enter Tryz.func55, Tryz.ntmps55
  by_cases h1 : q = 2047
  · subst h1
    go_wp2_with fail
    go_ret3
    exact ⟨by rw [HM.out, HE.out, HF.out]; rfl, rfl⟩
  · have h1' : ((q : Int) == 2047) = false := beq_eq_false_iff_ne.2 (by omega)
    by_cases h2 : q = 0
    · subst h2
      go_wp2_with fail
      go_ret3
      exact ⟨by rw [HM.out, HE.out, HF.out]; rfl, rfl⟩
    · have h2' : ((q : Int) == 0) = false := beq_eq_false_iff_ne.2 (by omega)
      have h3 : Hid ((q == 2047) = false) := beq_eq_false_iff_ne.2 h1
      go_wp2_with fail
      go_ret3
      exact ⟨by rw [HM.out, HE.out, HF.out, if_neg h1, if_neg h2, if_neg h1, if_neg h2, h3.out]; rfl, rfl⟩

theorem pow10_bits {j : Nat} (h : j ≤ 600) : nbits (10 ^ j) ≤ 2000 := by
  have h1 : nbits (10 ^ j) ≤ 10 * 200 := nbits_le.2 (Nat.lt_of_le_of_lt (p10_le (b := 3 * 200) (by omega)) (thousand (i := 200) (by decide)))
  omega
theorem nbits_mul {a b i j k : Nat} (ha : nbits a ≤ i) (hb : nbits b ≤ j) (hk : i + j ≤ k) : nbits (a * b) ≤ k := by
  refine nbits_le.2 (Nat.lt_of_lt_of_le ?_ (Nat.pow_le_pow_right (by decide) hk))
  rw [Nat.pow_add]
  have h1 := nbits_le.1 ha
  have h2 := nbits_le.1 hb
  calc a * b ≤ a * 2 ^ j := Nat.mul_le_mul_left _ (Nat.le_of_lt h2)
    _ < 2 ^ i * 2 ^ j := Nat.mul_lt_mul_of_pos_right h1 (Nat.pow_pos (by decide))
theorem two_pow_bits (j : Nat) : nbits (2 ^ j) ≤ j + 1 := nbits_le.2 (Nat.pow_lt_pow_right (by decide) (by omega))

set_option maxRecDepth 100000 in
set_option maxHeartbeats 2000000 in
theorem scaled_any (m : Nat) (e k : Int) (w : World) (hm : m < 18446744073709551616) (he1 : -1100 ≤ e) (he2 : e ≤ 1000) (hk1 : -600 ≤ k) (hk2 : k ≤ 600) :
    Calls Tryz.prog 113 #[.int .u64 m, .int .i64 e, .int .i64 k] w fun r w' => ∃ v, r = .returned v ∧ NatV w' v (rnd (m * 10 ^ k.toNat * 2 ^ e.toNat) (10 ^ (-k).toNat * 2 ^ (-e).toNat)) ∧ Below w.heap.size w w' := by
  have hmb : nbits m ≤ 64 := nbits_le.2 (by rw [show (2 : Nat) ^ 64 = 18446744073709551616 by decide]; exact hm)
  have hp1 : nbits (10 ^ k.toNat) ≤ 2000 := pow10_bits (by omega)
  have hp2 : nbits (10 ^ (-k).toNat) ≤ 2000 := pow10_bits (by omega)
  have hn : nbits (m * 10 ^ k.toNat) ≤ 2064 := nbits_mul hmb hp1 (by omega)
  have hX : nbits (m * 10 ^ k.toNat * 2 ^ e.toNat) ≤ 4000 := nbits_shift (by omega)
  have hY : nbits (10 ^ (-k).toNat * 2 ^ (-e).toNat) ≤ 4000 := nbits_shift (by omega)
  have hY2 : nbits (2 * (10 ^ (-k).toNat * 2 ^ (-e).toNat)) ≤ 4002 := nbits_mul (two_pow_bits 1) hY (by omega)
  have hQ : nbits (m * 10 ^ k.toNat * 2 ^ e.toNat / (10 ^ (-k).toNat * 2 ^ (-e).toNat) + 1) ≤ 4001 := by
    exact nbits_add (k := 4000) hX (Nat.succ_le_succ (Nat.div_le_self _ _))
  have hy0 : 0 < 10 ^ (-k).toNat * 2 ^ (-e).toNat := Nat.mul_pos (Nat.pow_pos (by decide)) (Nat.pow_pos (by decide))
  have P1 := Lib.hid (fun W => pow10_any k.toNat W (limbs_of_bits (by omega)) (by omega))
  have P2 := Lib.hid (fun W => pow10_any (-k).toNat W (limbs_of_bits (by omega)) (by omega))
  have M1 := Lib.hid (fun W va vb h1 h2 => Mul_any va vb m (10 ^ k.toNat) W h1 h2 (limbs_of_bits (by omega)) (limbs_of_bits (by omega)) (limbs_of_bits (by omega)))
  have S1 := Lib.hid (fun W va h => shifted_any va (m * 10 ^ k.toNat) e W h (by omega) (by omega) (limbs_of_bits (by omega)))
  have S2 := Lib.hid (fun W va h => shifted_any va (10 ^ (-k).toNat) (-e) W h (by omega) (by omega) (limbs_of_bits (by omega)))
  have R1 := Lib.hid (fun W va vb h1 h2 => rounded_any va vb _ _ W h1 h2 (limbs_of_bits (show nbits (m * 10 ^ k.toNat * 2 ^ e.toNat) ≤ 8192 by omega)) (limbs_of_bits (by omega)) hy0 (limbs_of_bits (by omega)))
  have em1 : max k 0 = (k.toNat : Int) := by omega
  have em2 : max (-k) 0 = ((-k).toNat : Int) := by omega
  clear hmb hp1 hp2 hn hX hY hY2 hQ hy0
  generalize k.toNat = k1 at *
  generalize (-k).toNat = k2 at *
  generalize rnd (m * 10 ^ k1 * 2 ^ e.toNat) (10 ^ k2 * 2 ^ (-e).toNat) = RR at *
  go_enter Tryz.func113, Tryz.ntmps113
  go_wp2_with fail
  refine (FromV m m rfl hm w).mono ?_
  rintro r w1 ⟨v1, rfl, hn1, hb1⟩
  have HN1 := Lib.hid hn1
  have HB1 := Lib.hid hb1
  have hs1 := hb1.size
  clear hn1 hb1
  go_wp2_with fail
  refine (P1.out w1).mono ?_
  rintro r w2 ⟨v2, rfl, hn2, hb2⟩
  have HN2 := Lib.hid hn2
  have HN12 := Lib.hid (HN1.out.below hb2)
  have HB2 := Lib.hid (HB1.out.trans (hb2.mono hs1))
  have hs2 := hb2.size
  clear hn2 hb2 HN1 HB1 P1
  go_wp2_with fail
  refine (M1.out w2 _ _ HN12.out HN2.out).mono ?_
  rintro r w3 ⟨v3, rfl, hn3, hb3⟩
  have HN3 := Lib.hid hn3
  have HB3 := Lib.hid (HB2.out.trans (hb3.mono (by omega)))
  have hs3 := hb3.size
  clear hn3 hb3 HN2 HN12 HB2 M1
  go_wp2_with fail
  refine (P2.out w3).mono ?_
  rintro r w4 ⟨v4, rfl, hn4, hb4⟩
  have HN4 := Lib.hid hn4
  have HN34 := Lib.hid (HN3.out.below hb4)
  have HB4 := Lib.hid (HB3.out.trans (hb4.mono (by omega)))
  have hs4 := hb4.size
  clear hn4 hb4 HN3 HB3 P2
  go_wp2_with fail
  refine (S1.out w4 _ HN34.out).mono ?_
  rintro r w5 ⟨v5, rfl, hn5, hb5⟩
  have HN5 := Lib.hid hn5
  have HN45 := Lib.hid (HN4.out.below hb5)
  have HB5 := Lib.hid (HB4.out.trans (hb5.mono (by omega)))
  have hs5 := hb5.size
  clear hn5 hb5 HN4 HB4 HN34 S1
  go_wp2_with fail
  refine (S2.out w5 _ HN45.out).mono ?_
  rintro r w6 ⟨v6, rfl, hn6, hb6⟩
  have HN6 := Lib.hid hn6
  have HN56 := Lib.hid (HN5.out.below hb6)
  have HB6 := Lib.hid (HB5.out.trans (hb6.mono (by omega)))
  have hs6 := hb6.size
  clear hn6 hb6 HN5 HB5 HN45 S2
  go_wp2_with fail
  refine (R1.out w6 _ _ HN56.out HN6.out).mono ?_
  rintro r w7 ⟨v7, rfl, hn7, hb7⟩
  have HN7 := Lib.hid hn7
  have HB7 := Lib.hid (HB6.out.trans (hb7.mono (by omega)))
  clear hn7 hb7
  go_wp2_with fail
  go_ret
  exact ⟨_, rfl, HN7.out, HB7.out⟩
end Go.Proofs.YtfdnhkjeoeffoaaGreatDoor
end

section
/- Package dec: Fixed. -/
namespace Go.Proofs.YtfdnhkjeoeffoaaGreatDoor
open Go.RowKit
set_option linter.unusedVariables false

def fixedL (l : List UInt8) (p : Nat) : List UInt8 :=
  let q := if l.length ≤ p then List.replicate (p + 1 - l.length) 48 ++ l else l
  if 0 < p then q.take (q.length - p) ++ 46 :: q.drop (q.length - p) else q
/-- the natural that Fixed writes -/
def scaledN (b : Nat) (k : Int) : Nat := rnd (mant b * 10 ^ k.toNat * 2 ^ (expo b).toNat) (10 ^ (-k).toNat * 2 ^ (-(expo b)).toNat)

theorem digVal_from (l : List UInt8) (n : Nat) : l.foldl (fun n c => 10 * n + (c.toNat - 48)) n = n * 10 ^ l.length + digVal l := by
  induction l generalizing n with
  | nil => simp [digVal]
  | cons c l ih =>
    have h1 := ih (10 * n + (c.toNat - 48))
    have h2 := ih (10 * 0 + (c.toNat - 48))
    simp only [digVal, List.foldl_cons, List.length_cons, Nat.pow_succ] at *
    rw [h1, h2, Nat.add_mul]
    simp only [Nat.mul_zero, Nat.zero_add]
    rw [← Nat.add_assoc]; congr 2; ac_rfl
theorem digVal_cons (c : UInt8) (l : List UInt8) : digVal (c :: l) = (c.toNat - 48) * 10 ^ l.length + digVal l := by
  have := digVal_from l (10 * 0 + (c.toNat - 48))
  simpa [digVal] using this
theorem digVal_lt {l : List UInt8} (h : Digits l) : digVal l < 10 ^ l.length := by
  induction l with
  | nil => simp [digVal]
  | cons c l ih =>
    have h1 := h c (by simp)
    have h2 := ih (fun x hx => h x (by simp [hx]))
    rw [digVal_cons, List.length_cons, Nat.pow_succ]
    have h3 : (c.toNat - 48) * 10 ^ l.length ≤ 9 * 10 ^ l.length := Nat.mul_le_mul_right _ (by omega)
    omega
theorem canon_len {l : List UInt8} {x k : Nat} (h : Canon l x) (hx : x < 10 ^ k) (hk : 0 < k) : l.length ≤ k := by
  rcases l with _ | ⟨c, r⟩
  · simp
  · rcases Nat.eq_zero_or_pos r.length with h0 | h0
    · simp; omega
    · have h1 := h.dig c (by simp)
      have h2 : c.toNat ≠ 48 := fun e => by
        have := h.top c r rfl e
        rw [this] at h0; simp at h0
      have h3 := h.val
      rw [digVal_cons] at h3
      have h4 : 1 * 10 ^ r.length ≤ (c.toNat - 48) * 10 ^ r.length := Nat.mul_le_mul_right _ (by omega)
      rcases Nat.lt_or_ge r.length k with h5 | h5
      · exact h5
      · have := Nat.pow_le_pow_right (n := 10) (by decide) h5
        omega
theorem mant_lt (b : Nat) : mant b < 9007199254740992 := by
  unfold mant; split
  · omega
  · split <;> omega
theorem expo_bounds {b : Nat} : -1074 ≤ expo b ∧ expo b ≤ 971 := by
  unfold expo; split
  · omega
  · split <;> omega

theorem scaledN_lt {b : Nat} {k : Int} (h1 : -600 ≤ k) (h2 : k ≤ 600) : nbits (scaledN b k) ≤ 4001 := by
  have hm := mant_lt b
  have he := expo_bounds (b := b)
  have hmb : nbits (mant b) ≤ 53 := nbits_le.2 (by rw [show (2 : Nat) ^ 53 = 9007199254740992 by decide]; exact hm)
  have hn : nbits (mant b * 10 ^ k.toNat) ≤ 2064 := nbits_mul hmb (pow10_bits (by omega)) (by omega)
  have hX : nbits (mant b * 10 ^ k.toNat * 2 ^ (expo b).toNat) ≤ 4000 := nbits_shift (by omega)
  exact nbits_add (k := 4000) hX (Nat.le_trans (rnd_le _ _) (Nat.succ_le_succ (Nat.div_le_self _ _)))
theorem scaled_b (b : Nat) (k : Int) (w : World) (h1 : -600 ≤ k) (h2 : k ≤ 600) :
    Calls Tryz.prog 113 #[.int .u64 (mant b : Nat), .int .i64 (expo b), .int .i64 k] w fun r w' => ∃ v, r = .returned v ∧ NatV w' v (scaledN b k) ∧ Below w.heap.size w w' := by
  have hm := mant_lt b
  have he := expo_bounds (b := b)
  exact scaled_any (mant b) (expo b) k w (by omega) (by omega) (by omega) h1 h2
theorem text_b {b : Nat} {k : Int} {v : Value} {w : World} (h1 : -600 ≤ k) (h2 : k ≤ 600) (h : NatV w v (scaledN b k)) :
    Calls Tryz.prog 112 #[v] w fun e w' => ∃ s : ByteArray, e = .returned (.tuple #[.string s, .int .i64 0]) ∧ Canon s.data.toList (scaledN b k) ∧ s.data.toList.length ≤ 4001 ∧ Below w.heap.size w w' := by
  refine (Text_all v _ w h (limbs_of_bits (Nat.le_trans (scaledN_lt h1 h2) (by decide)))).mono ?_
  rintro e w' ⟨s, rfl, hc, hb⟩
  refine ⟨s, rfl, hc, canon_len (k := 4001) hc (Nat.lt_of_lt_of_le (nbits_le.1 (scaledN_lt h1 h2)) (two_ten 4001)) (by decide), hb⟩
end Go.Proofs.YtfdnhkjeoeffoaaGreatDoor
end

section
/- Package dec: Fixed. -/
namespace Go.Proofs.YtfdnhkjeoeffoaaGreatDoor
open Go.RowKit
set_option linter.unusedVariables false

theorem point_list (s : ByteArray) (k n : Nat) (hn : s.data.toList.length = n) : (s.extract 0 k ++ ⟨#[46]⟩ ++ s.extract k n).data.toList = s.data.toList.take k ++ 46 :: s.data.toList.drop k := by
  have h2 : List.take (n - k) (List.drop k s.data.toList) = List.drop k s.data.toList := List.take_of_length_le (by rw [List.length_drop]; omega)
  simp [ByteArray.data_append, ByteArray.data_extract, List.extract_eq_take_drop, h2]
theorem repeatL_one (x : UInt8) : ∀ c, Lib.repeatL [x] c = List.replicate c x
  | 0 => rfl
  | c + 1 => by rw [Lib.repeatL, repeatL_one x c]; rfl

set_option maxRecDepth 100000 in
set_option maxHeartbeats 2000000 in
theorem Fixed_ok (b : Nat) (p : Nat) (w : World) (hb : b < 18446744073709551616) (hf : fin b = true) (hp : p ≤ 200) :
    Calls Tryz.prog 51 #[.float .f64 b, .int .i64 p] w fun e w' => ∃ s l, e = .returned (.tuple #[.string s, .int .i64 0]) ∧ Canon l (scaledN b p) ∧ s.data.toList = fixedL l p ∧ Below w.heap.size w w' := by
  have HP := Lib.hid (Parts_any b w hb)
  have HS := Lib.hid (fun W => scaled_b b p W (by omega) (by omega))
  have HT := Lib.hid (fun v W h => text_b (b := b) (k := p) (v := v) (w := W) (by omega) (by omega) h)
  rw [hf] at HP
  generalize scaledN b p = N at *
  generalize mant b = m at *
  generalize expo b = x at *
  clear hb hf
  have hpi : (p : Int) ≤ 200 := by omega
  go_enter Tryz.func51, Tryz.ntmps51
  go_wp2_with fail
  refine HP.out.mono ?_
  rintro e w1 ⟨rfl, rfl⟩
  clear HP
  go_wp2_with fail
  refine (HS.out w).mono ?_
  rintro e w1 ⟨v1, rfl, hn1, hb1⟩
  have HT1 := Lib.hid (HT.out v1 w1 hn1)
  have HB1 := Lib.hid hb1
  have hs1 := hb1.size
  clear hn1 hb1 HS HT
  go_wp2_with fail
  refine HT1.out.mono ?_
  rintro e w2 ⟨s, rfl, hc, hl, hb2⟩
  have HB2 := Lib.hid (HB1.out.trans (hb2.mono hs1))
  have hs2 := hb2.size
  have HC := Lib.hid hc
  have hsz : s.size = s.data.toList.length := by simp
  obtain ⟨n, hn⟩ : ∃ n, n = s.size := ⟨_, rfl⟩
  have HN : Hid (s.data.toList.length = n) := by show _ = _; rw [hn, hsz]
  have hn1 : s.size = n := hn.symm
  rw [HN.out] at hl
  clear hc hb2 HB1 HT1 hsz hn
  by_cases hle : n ≤ p
  · have hle' : (n : Int) ≤ (p : Int) := by omega
    go_wp2_with fail
    have e1 : (p : Int) + 1 - n = ((p + 1 - n : Nat) : Int) := by omega
    have hn0 : 0 < n := by
      rw [← HN.out]; exact List.length_pos_iff.2 HC.out.ne
    obtain ⟨c, hc⟩ : ∃ c, c = p + 1 - n := ⟨_, rfl⟩
    have e2 : (p : Int) + 1 - n = (c : Int) := by omega
    rw [e2]
    have hcn : (c : Int) + n = p + 1 := by omega
    have hRP := Tryz.strings_Repeat ⟨#[48]⟩ c w2 (by omega) (by show 1 * c ≤ _; omega)
    obtain ⟨R, hR⟩ : ∃ R : ByteArray, R = ⟨(Lib.repeatL [48] c).toArray⟩ := ⟨_, rfl⟩
    have hRP' : Calls Tryz.prog 114 #[.string ⟨#[48]⟩, .int .i64 c] w2 fun e w' => e = .returned (.string R) ∧ Below w2.heap.size w2 w' := by rw [hR]; exact hRP
    have hRl : Hid (R.data.toList = List.replicate c 48) := by
      show R.data.toList = _
      rw [hR]
      exact repeatL_one 48 c
    have hRs : R.size = c := by
      have := congrArg List.length hRl.out
      simpa using this
    clear hR hRP e1 e2 hle
    refine hRP'.mono ?_
    rintro e w3 ⟨rfl, hb3⟩
    have HB3 := Lib.hid (HB2.out.trans (hb3.mono (by omega)))
    clear hb3 hRP'
    have hp0' : (0 : Int) < (p : Int) := by omega
    go_wp2_with fail
    have hT : Hid ((R ++ s).data.toList = List.replicate c 48 ++ s.data.toList) := by show _ = _; rw [ByteArray.data_append, Array.toList_append, hRl.out]
    have hnp : 0 ≤ (c : Int) + n - p := by omega
    have hnp2 : (c : Int) + n - p ≤ c + n := by omega
    go_region
    go_wp2_with fail
    go_ret2
    refine ⟨_, _, rfl, HC.out, ?_, by first | exact HB3.out | exact HB3.out.drew | exact HB3.out.drewN _⟩
    have hcc : p + 1 - n = c := by omega
    have hql : (R ++ s).data.toList.length = p + 1 - n + n := by rw [hT.out, List.length_append, List.length_replicate, HN.out, hcc]
    refine (point_list (R ++ s) _ _ hql).trans ?_
    rw [hT.out]
    have h1 : n ≤ p := by omega
    have h2 : 0 < p := by omega
    simp only [fixedL, HN.out, if_pos h1, if_pos h2, List.length_append, List.length_replicate, hcc]
  · have hle' : ¬ (n : Int) ≤ (p : Int) := by omega
    by_cases hp0 : p = 0
    · subst hp0
      go_wp2_with fail
      go_ret2
      exact ⟨s, _, rfl, HC.out, by simp [fixedL, HN.out]; omega, HB2.out⟩
    · have hp0' : (0 : Int) < (p : Int) := by omega
      go_wp2_with fail
      have hnp : 0 ≤ (n : Int) - p := by omega
      have hnp2 : (n : Int) - p ≤ n := by omega
      go_region
      go_wp2_with fail
      go_ret2
      refine ⟨_, _, rfl, HC.out, ?_, by first | exact HB2.out | exact HB2.out.drew | exact HB2.out.drewN _⟩
      refine (point_list s (n - p) n HN.out).trans ?_
      simp only [fixedL, HN.out, if_neg hle, if_pos (Nat.pos_of_ne_zero hp0)]
end Go.Proofs.YtfdnhkjeoeffoaaGreatDoor
end

section
/- Package dec: Sci. -/
namespace Go.Proofs.YtfdnhkjeoeffoaaGreatDoor
open Go.RowKit
set_option linter.unusedVariables false

set_option maxRecDepth 100000 in
set_option maxHeartbeats 2000000 in
theorem Sci_zero (b : Nat) (p : Nat) (w : World) (hb : b < 18446744073709551616) (hf : fin b = true) (hp : p ≤ 200) (hm : mant b = 0) :
    Calls Tryz.prog 195 #[.float .f64 b, .int .i64 p] w fun e w' => ∃ s : ByteArray, e = .returned (.tuple #[.string s, .int .i64 0, .int .i64 0]) ∧ s.data.toList = List.replicate (p + 1) 48 ∧ Below w.heap.size w w' := by
  have HP := Lib.hid (Parts_any b w hb)
  rw [hf, hm] at HP
  generalize expo b = x at *
  clear hb hf hm
  have hpi : (p : Int) ≤ 200 := by omega
  have HRP := Lib.hid (Tryz.strings_Repeat ⟨#[48]⟩ (p + 1) w (by omega) (by show 1 * (p + 1) ≤ _; omega))
  go_enter Tryz.func195, Tryz.ntmps195
  go_wp2_with fail
  refine HP.out.mono ?_
  rintro e w1 ⟨rfl, rfl⟩
  clear HP
  go_wp2_with fail
  refine HRP.out.mono ?_
  rintro e w3 ⟨rfl, hb3⟩
  have HB3 := Lib.hid hb3
  clear hb3
  have hR : Hid ((ByteArray.mk (Lib.repeatL [48] (p + 1)).toArray).data.toList = List.replicate (p + 1) 48) := repeatL_one 48 (p + 1)
  obtain ⟨R, hR2⟩ : ∃ R : ByteArray, R = ⟨(Lib.repeatL [48] (p + 1)).toArray⟩ := ⟨_, rfl⟩
  rw [← hR2] at hR
  clear HRP
  go_wp2_with fail
  go_ret3
  exact ⟨_, rfl, repeatL_one 48 (p + 1), HB3.out⟩
end Go.Proofs.YtfdnhkjeoeffoaaGreatDoor
end

section
/- Plain: the nearest whole number to a fraction. -/
namespace Go.Proofs.YtfdnhkjeoeffoaaGreatDoor

theorem rnd_spec {x y : Nat} (hy : 0 < y) : 2 * x ≤ (2 * rnd x y + 1) * y ∧ 2 * rnd x y * y ≤ 2 * x + y := by
  have h := Nat.div_add_mod x y
  have hm := Nat.mod_lt x hy
  unfold rnd
  generalize x / y = q at *
  generalize x % y = r at *
  have e1 : (2 * (q + 1) + 1) * y = 2 * (y * q) + 3 * y := by rw [Nat.add_mul, Nat.mul_assoc, Nat.add_mul, Nat.mul_comm q y]; omega
  have e2 : 2 * (q + 1) * y = 2 * (y * q) + 2 * y := by rw [Nat.mul_assoc, Nat.add_mul, Nat.mul_comm q y]; omega
  have e3 : (2 * q + 1) * y = 2 * (y * q) + y := by rw [Nat.add_mul, Nat.mul_assoc, Nat.mul_comm q y]; omega
  have e4 : 2 * q * y = 2 * (y * q) := by rw [Nat.mul_assoc, Nat.mul_comm q y]
  split
  · rw [e1, e2]; omega
  · rw [e3, e4]; omega
theorem rnd_ge {x y n : Nat} (hy : 0 < y) (h : n * y ≤ x) : n ≤ rnd x y := by
  have h1 : n ≤ x / y := (Nat.le_div_iff_mul_le hy).2 h
  unfold rnd; split <;> omega
theorem rnd_le_of {x y n : Nat} (hy : 0 < y) (h : x ≤ n * y) : rnd x y ≤ n := by
  rcases Nat.lt_or_ge n (rnd x y) with h1 | h1
  · exfalso
    have h2 := (rnd_spec (x := x) hy).2
    have h3 : 2 * (n + 1) * y ≤ 2 * rnd x y * y := Nat.mul_le_mul_right _ (Nat.mul_le_mul_left _ h1)
    have e : 2 * (n + 1) * y = 2 * (n * y) + 2 * y := by rw [Nat.mul_assoc, Nat.add_mul]; omega
    omega
  · exact h1

end Go.Proofs.YtfdnhkjeoeffoaaGreatDoor
end

section
/- Plain: a fraction times a power of ten. -/
namespace Go.Proofs.YtfdnhkjeoeffoaaGreatDoor

/-- A/B times 10^k is at least n -/
def GeT (A B : Nat) (k : Int) (n : Nat) : Prop := n * (10 ^ (-k).toNat * B) ≤ A * 10 ^ k.toNat
theorem GeT_step (A B : Nat) (k : Int) (n : Nat) : GeT A B (k + 1) (10 * n) ↔ GeT A B k n := by
  unfold GeT
  rcases (by omega : k < 0 ∨ 0 ≤ k) with h | h
  · have e1 : (k + 1).toNat = 0 := by omega
    have e2 : k.toNat = 0 := by omega
    have e3 : (-k).toNat = (-(k + 1)).toNat + 1 := by omega
    rw [e1, e2, e3, Nat.pow_succ]
    rw [show 10 * n * (10 ^ (-(k + 1)).toNat * B) = n * (10 ^ (-(k + 1)).toNat * 10 * B) by ac_rfl]
  · have e1 : (-(k + 1)).toNat = 0 := by omega
    have e2 : (-k).toNat = 0 := by omega
    have e3 : (k + 1).toNat = k.toNat + 1 := by omega
    rw [e1, e2, e3, Nat.pow_succ, show 10 * n * (10 ^ 0 * B) = 10 * (n * (10 ^ 0 * B)) by ac_rfl, show A * (10 ^ k.toNat * 10) = 10 * (A * 10 ^ k.toNat) by ac_rfl]
    exact Nat.mul_le_mul_left_iff (by decide)

def ratN (A B : Nat) (k : Int) : Nat := rnd (A * 10 ^ k.toNat) (10 ^ (-k).toNat * B)
theorem rat_pos {B : Nat} (hB : 0 < B) (k : Int) : 0 < 10 ^ (-k).toNat * B := Nat.mul_pos (Nat.pow_pos (by decide)) hB
theorem ratN_ge {A B n : Nat} {k : Int} (hB : 0 < B) (h : GeT A B k n) : n ≤ ratN A B k := rnd_ge (rat_pos hB k) h
theorem ratN_le {A B n : Nat} {k : Int} (hB : 0 < B) (h : ¬ GeT A B k n) : ratN A B k ≤ n := rnd_le_of (rat_pos hB k) (by unfold GeT at h; omega)
theorem rat_cross (A B : Nat) (k : Int) : A * 10 ^ (k + 1).toNat * (10 ^ (-k).toNat * B) = 10 * (A * 10 ^ k.toNat) * (10 ^ (-(k + 1)).toNat * B) := by
  rcases (by omega : k < 0 ∨ 0 ≤ k) with h | h
  · have e1 : (k + 1).toNat = 0 := by omega
    have e2 : k.toNat = 0 := by omega
    have e3 : (-k).toNat = (-(k + 1)).toNat + 1 := by omega
    rw [e1, e2, e3, Nat.pow_succ]; ac_rfl
  · have e1 : (-(k + 1)).toNat = 0 := by omega
    have e2 : (-k).toNat = 0 := by omega
    have e3 : (k + 1).toNat = k.toNat + 1 := by omega
    rw [e1, e2, e3, Nat.pow_succ]; ac_rfl
/-- what is rounded up to ten times n is, with one digit less, n -/
theorem ratN_carry {A B n : Nat} {k : Int} (hB : 0 < B) (h1 : ¬ GeT A B (k + 1) (10 * n)) (h2 : ratN A B (k + 1) = 10 * n) : ratN A B k = n := by
  have h3 : ¬ GeT A B k n := fun h => h1 ((GeT_step A B k n).2 h)
  have h4 := ratN_le hB h3
  rcases Nat.lt_or_ge (ratN A B k) n with hlt | hge
  · exfalso
    have s1 := (rnd_spec (x := A * 10 ^ (k + 1).toNat) (rat_pos hB (k + 1))).2
    have s2 := (rnd_spec (x := A * 10 ^ k.toNat) (rat_pos hB k)).1
    have hc := rat_cross A B k
    have hy := rat_pos hB k
    have hy' := rat_pos hB (k + 1)
    change 2 * ratN A B (k + 1) * _ ≤ _ at s1
    change _ ≤ (2 * ratN A B k + 1) * _ at s2
    rw [h2] at s1
    generalize ratN A B k = q at *
    generalize A * 10 ^ (k + 1).toNat = x at *
    generalize A * 10 ^ k.toNat = x' at *
    generalize 10 ^ (-k).toNat * B = y' at *
    generalize 10 ^ (-(k + 1)).toNat * B = y at *
    have t1 : 2 * (10 * n) * y * y' ≤ (2 * x + y) * y' := Nat.mul_le_mul_right _ s1
    have t2 : 2 * x' * (10 * y) ≤ (2 * q + 1) * y' * (10 * y) := Nat.mul_le_mul_right _ s2
    have t3 : (2 * q + 2) * (10 * (y * y')) ≤ 2 * n * (10 * (y * y')) := Nat.mul_le_mul_right _ (by omega)
    have hP : 0 < y * y' := Nat.mul_pos hy' hy
    have a1 : 2 * (10 * n) * y * y' = 2 * n * (10 * (y * y')) := by ac_rfl
    have a2 : (2 * x + y) * y' = 2 * (x * y') + y * y' := by rw [Nat.add_mul, Nat.mul_assoc]
    have a3 : 2 * x' * (10 * y) = 2 * (10 * x' * y) := by ac_rfl
    have a4 : (2 * q + 1) * y' * (10 * y) = (2 * q + 1) * (10 * (y * y')) := by ac_rfl
    have a5 : (2 * q + 2) * (10 * (y * y')) = (2 * q + 1) * (10 * (y * y')) + 10 * (y * y') := by rw [← Nat.succ_mul]
    omega
  · omega
end Go.Proofs.YtfdnhkjeoeffoaaGreatDoor
end

section
/- Plain: the rounds of Sci. -/
namespace Go.Proofs.YtfdnhkjeoeffoaaGreatDoor

theorem canon_len_gt {l : List UInt8} {x k : Nat} (h : Canon l x) (hx : 10 ^ k ≤ x) : k < l.length := by
  have h1 := digVal_lt h.dig
  rw [h.val] at h1
  exact (Nat.pow_lt_pow_iff_right (by decide)).1 (Nat.lt_of_le_of_lt hx h1)
theorem scaledN_rat (b : Nat) (k : Int) : scaledN b k = ratN (mant b * 2 ^ (expo b).toNat) (2 ^ (-(expo b)).toNat) k := by
  unfold scaledN ratN
  congr 1
  ac_rfl
/-- a round of Sci that does not go up has all its digits -/
theorem sci_down {A B p : Nat} {k : Int} (hB : 0 < B) (h : GeT A B k (10 ^ p) ∨ 10 ^ (p + 1) ≤ ratN A B (k + 1)) : 10 ^ p ≤ ratN A B k := by
  rcases h with h | h
  · exact ratN_ge hB h
  · rw [Nat.pow_succ, Nat.mul_comm] at h
    by_cases hg : GeT A B (k + 1) (10 * 10 ^ p)
    · exact ratN_ge hB ((GeT_step A B k _).1 hg)
    · have h1 := ratN_le hB hg
      exact Nat.le_of_eq (ratN_carry hB hg (by omega)).symm
end Go.Proofs.YtfdnhkjeoeffoaaGreatDoor
end

section
/- Plain: the first power of ten that Sci tries is low enough. -/
namespace Go.Proofs.YtfdnhkjeoeffoaaGreatDoor
open Go

def exp0 (t : Int) : Int := (t * 30103).tdiv 100000 - 2
def lowOk (i : Nat) : Bool := decide (10 ^ (exp0 ((i : Int) - 1074)).toNat * 2 ^ (-((i : Int) - 1074)).toNat ≤ 2 ^ ((i : Int) - 1074).toNat * 10 ^ (-(exp0 ((i : Int) - 1074))).toNat)
theorem lowAll : (List.range 2100).all lowOk = true := by kernel_rfl
theorem low_ok {t : Int} (h1 : -1074 ≤ t) (h2 : t ≤ 1023) : 10 ^ (exp0 t).toNat * 2 ^ (-t).toNat ≤ 2 ^ t.toNat * 10 ^ (-(exp0 t)).toNat := by
  have h := List.all_eq_true.1 lowAll (t + 1074).toNat (List.mem_range.2 (by omega))
  have e : (((t + 1074).toNat : Nat) : Int) - 1074 = t := by omega
  unfold lowOk at h
  rw [e] at h
  exact of_decide_eq_true h
end Go.Proofs.YtfdnhkjeoeffoaaGreatDoor
end

section
/- Plain: GeT along powers; where Sci starts. -/
namespace Go.Proofs.YtfdnhkjeoeffoaaGreatDoor
theorem GeT_up (A B : Nat) (k : Int) : ∀ p : Nat, GeT A B k 1 → GeT A B (k + p) (10 ^ p)
  | 0, h => by simpa using h
  | p + 1, h => by
    have h1 := GeT_up A B k p h
    have h2 := (GeT_step A B (k + p) (10 ^ p)).2 h1
    rw [show k + ((p + 1 : Nat) : Int) = k + p + 1 by omega, Nat.pow_succ, Nat.mul_comm]; exact h2

theorem sci_start {m j : Nat} {e : Int} (hm : 2 ^ j ≤ m) (h1 : -1074 ≤ (j : Int) + e) (h2 : (j : Int) + e ≤ 1023) (p : Nat) : GeT (m * 2 ^ e.toNat) (2 ^ (-e).toNat) ((p : Int) - exp0 (j + e)) (10 ^ p) := by
  have h := low_ok h1 h2
  generalize exp0 ((j : Int) + e) = x at *
  have hg : GeT (m * 2 ^ e.toNat) (2 ^ (-e).toNat) (-x) 1 := by
    unfold GeT
    rw [Int.neg_neg, Nat.one_mul]
    refine Nat.le_trans ?_ (Nat.mul_le_mul_right _ (Nat.mul_le_mul_right _ hm))
    have hk : (-e).toNat + ((j : Int) + e).toNat = j + e.toNat + (-((j : Int) + e)).toNat := by omega
    have hp : 2 ^ (-e).toNat * 2 ^ ((j : Int) + e).toNat = 2 ^ j * 2 ^ e.toNat * 2 ^ (-((j : Int) + e)).toNat := by
      rw [← Nat.pow_add, ← Nat.pow_add, ← Nat.pow_add, hk]
    have h3 := Nat.mul_le_mul_right (2 ^ (-e).toNat) h
    have hpos : 0 < 2 ^ (-((j : Int) + e)).toNat := Nat.pow_pos (by decide)
    refine Nat.le_of_mul_le_mul_right ?_ hpos
    calc 10 ^ x.toNat * 2 ^ (-e).toNat * 2 ^ (-((j : Int) + e)).toNat = 10 ^ x.toNat * 2 ^ (-((j : Int) + e)).toNat * 2 ^ (-e).toNat := by ac_rfl
      _ ≤ 2 ^ ((j : Int) + e).toNat * 10 ^ (-x).toNat * 2 ^ (-e).toNat := h3
      _ = (2 ^ (-e).toNat * 2 ^ ((j : Int) + e).toNat) * 10 ^ (-x).toNat := by ac_rfl
      _ = 2 ^ j * 2 ^ e.toNat * 10 ^ (-x).toNat * 2 ^ (-((j : Int) + e)).toNat := by rw [hp]; ac_rfl
  have h4 := GeT_up _ _ (-x) p hg
  rw [show -x + (p : Int) = (p : Int) - x by omega] at h4
  exact h4
end Go.Proofs.YtfdnhkjeoeffoaaGreatDoor
end

section
/- Plain: a power at which too few digits are asked is small. -/
namespace Go.Proofs.YtfdnhkjeoeffoaaGreatDoor
/-- a power at which p + 1 digits are not enough is small -/
theorem sci_high {A B p : Nat} {x : Int} {H : Nat} (hB : 0 < B) (hA : A < 10 ^ H * B) (h : 10 ^ (p + 1) ≤ ratN A B (p - x)) : x < H := by
  rcases Int.lt_or_le x H with hx | hx
  · exact hx
  · exfalso
    have hlt : ¬ GeT A B (p - x) (10 ^ p) := by
      unfold GeT
      rw [Nat.not_le]
      have h1 : A * 10 ^ ((p : Int) - x).toNat < 10 ^ H * B * 10 ^ ((p : Int) - x).toNat := Nat.mul_lt_mul_of_pos_right hA (Nat.pow_pos (by decide))
      have h2 : 10 ^ H * B * 10 ^ ((p : Int) - x).toNat ≤ 10 ^ p * (10 ^ (-((p : Int) - x)).toNat * B) := by
        have e1 : 10 ^ H * B * 10 ^ ((p : Int) - x).toNat = 10 ^ (H + ((p : Int) - x).toNat) * B := by rw [Nat.pow_add, Nat.mul_right_comm]
        have e2 : 10 ^ p * (10 ^ (-((p : Int) - x)).toNat * B) = 10 ^ (p + (-((p : Int) - x)).toNat) * B := by rw [Nat.pow_add, Nat.mul_assoc]
        rw [e1, e2]
        exact Nat.mul_le_mul_right _ (Nat.pow_le_pow_right (by decide) (by omega))
      omega
    have h3 := ratN_le hB hlt
    have h4 : (10 : Nat) ^ p < 10 ^ (p + 1) := Nat.pow_lt_pow_right (by decide) (by omega)
    omega
theorem ten309 {i : Nat} (h : 0 < i) : (2 : Nat) ^ (83 * i + 29) < 10 ^ (25 * i + 9) * 1 := by
  rw [Nat.pow_add 2, Nat.pow_add 10, Nat.pow_mul 2, Nat.pow_mul 10, Nat.mul_one]
  exact Nat.mul_lt_mul_of_lt_of_lt (Nat.pow_lt_pow_left (by decide) (by omega)) (by decide)
theorem fin_lt {m j i : Nat} (k : Nat) (hm : m < 2 ^ 53) (hj : 53 + j ≤ 83 * i + 29) (hi : 0 < i) : m * 2 ^ j < 10 ^ (25 * i + 9) * 2 ^ k := by
  have h1 : m * 2 ^ j ≤ 2 ^ 53 * 2 ^ j := Nat.mul_le_mul_right _ (Nat.le_of_lt hm)
  rw [← Nat.pow_add] at h1
  have h2 := p2_le hj
  have h3 : 10 ^ (25 * i + 9) * 1 ≤ 10 ^ (25 * i + 9) * 2 ^ k := Nat.mul_le_mul_left _ (Nat.pow_pos (by decide))
  exact Nat.lt_of_le_of_lt h1 (Nat.lt_of_le_of_lt h2 (Nat.lt_of_lt_of_le (ten309 hi) h3))
theorem exp0_bounds {t : Int} (h1 : -1074 ≤ t) (h2 : t ≤ 1023) : -325 ≤ exp0 t ∧ exp0 t ≤ 306 := by
  unfold exp0
  rcases Int.lt_or_le t 0 with h | h
  · have e : (t * 30103).tdiv 100000 = -((-t * 30103).tdiv 100000) := by rw [← Int.neg_tdiv]; congr 1; omega
    rw [e, Int.tdiv_eq_ediv_of_nonneg (by omega)]
    omega
  · rw [Int.tdiv_eq_ediv_of_nonneg (by omega)]
    omega
theorem nbits_pos {m : Nat} (h : 0 < m) : 2 ^ (nbits m - 1) ≤ m ∧ 0 < nbits m := by
  have h2 : nbits m ≠ 0 := fun h3 => by have := nbits_le.1 (Nat.le_of_eq h3); simp at this; omega
  refine ⟨?_, by omega⟩
  rcases Nat.lt_or_ge m (2 ^ (nbits m - 1)) with h1 | h1
  · have := nbits_le.2 h1; omega
  · exact h1
end Go.Proofs.YtfdnhkjeoeffoaaGreatDoor
end

section
/- Plain: the nearest float, in steps of the least one; greater numbers, greater floats. -/
namespace Go.Proofs.YtfdnhkjeoeffoaaGreatDoor
/-- the step of the float that is nearest to X/y (in steps of the least float) -/
structure Step (X y j : Nat) : Prop where
  lt : X < 2 ^ 53 * (2 ^ j * y)
  ge : j = 0 ∨ 2 ^ 52 * (2 ^ j * y) ≤ X
/-- its bits -/
def nb (X y j : Nat) : Nat := min (j * 2 ^ 52 + rnd X (2 ^ j * y)) 9218868437227405312

/-- the least float's share of one -/
def bias : Nat := 1074
def kk : Nat := 2 ^ bias
theorem pow2_gen {E : Int} {K : Nat} {k : Int} (hk : (K : Int) = k) (h : -k ≤ E) : 2 ^ (-E).toNat * 2 ^ (E + k).toNat = 2 ^ K * 2 ^ E.toNat := by
  rw [← Nat.pow_add, ← Nat.pow_add]
  exact congrArg (2 ^ ·) (by omega)
theorem pow2_int {E : Int} (h : -1074 ≤ E) : 2 ^ (-E).toNat * 2 ^ (E + 1074).toNat = kk * 2 ^ E.toNat := pow2_gen (K := bias) (k := 1074) rfl h
theorem two53 : (2 : Nat) ^ 53 = 2 ^ 52 * 2 := by decide
theorem pow2_pos (k : Nat) : 0 < 2 ^ k := Nat.pow_pos (by decide)
end Go.Proofs.YtfdnhkjeoeffoaaGreatDoor
end

section
/- Plain: the floats themselves, and numbers near to them. -/
namespace Go.Proofs.YtfdnhkjeoeffoaaGreatDoor
/-- the float's steps -/
def jof (b : Nat) : Nat := b / 2 ^ 52 - 1
/-- the float's whole number of steps -/
def mof (b : Nat) : Nat := if b / 2 ^ 52 = 0 then b else b % 2 ^ 52 + 2 ^ 52
theorem bits_parts (b : Nat) : b = jof b * 2 ^ 52 + mof b := by unfold jof mof; split <;> omega
theorem mof_lt (b : Nat) : mof b < 2 ^ 53 := by unfold mof; split <;> omega
theorem mof_ge (b : Nat) : jof b = 0 ∨ 2 ^ 52 ≤ mof b := by unfold jof mof; split <;> omega
theorem rnd_close {X G m : Nat} (h1 : 2 * X < 2 * (m * G) + G) (h2 : 2 * (m * G) < 2 * X + G) : rnd X G = m := by
  have hG : 0 < G := by
    rcases Nat.eq_zero_or_pos G with h | h
    · subst h; simp at h1
    · exact h
  have hs := rnd_spec (x := X) hG
  generalize rnd X G = r at hs
  have e1 : (2 * r + 1) * G = 2 * (r * G) + G := by rw [Nat.succ_mul, Nat.mul_assoc]
  have e2 : 2 * r * G = 2 * (r * G) := Nat.mul_assoc _ _ _
  rw [e1, e2] at hs
  rcases Nat.lt_trichotomy r m with h | h | h
  · have h3 : (r + 1) * G ≤ m * G := Nat.mul_le_mul_right _ h
    rw [Nat.succ_mul] at h3
    omega
  · exact h
  · have h3 : (m + 1) * G ≤ r * G := Nat.mul_le_mul_right _ h
    rw [Nat.succ_mul] at h3
    omega
end Go.Proofs.YtfdnhkjeoeffoaaGreatDoor
end

section
/- Plain: the nearest float as a function; the bounds of what is read. -/
namespace Go.Proofs.YtfdnhkjeoeffoaaGreatDoor
open Go
/-- the step, reckoned -/
def stepOf (X y : Nat) : Nat := nbits (X / y) - 53
/-- the bits of the float nearest to x/y -/
def near (x y : Nat) : Nat := nb (x * kk) y (stepOf (x * kk) y)
/-- the digits without the noughts ahead -/
def bare (l : List UInt8) : List UInt8 := l.dropWhile (· == 48)
/-- what Read answers for digits -/
def readB (l : List UInt8) (e : Int) : Nat :=
  if (bare l).length = 0 ∨ e < -4000 then 0
  else if 2000 < e ∨ 310 < (bare l).length + e then 9218868437227405312
  else if (bare l).length + e < -330 then 0
  else near (digVal (bare l) * 10 ^ e.toNat) (10 ^ (-e).toNat)
def digs : List UInt8 := [48, 49, 50, 51, 52, 53, 54, 55, 56, 57]
end Go.Proofs.YtfdnhkjeoeffoaaGreatDoor
end

section
/- Package dec: Sci, the loop. -/
namespace Go.Proofs.YtfdnhkjeoeffoaaGreatDoor
open Go.RowKit
set_option linter.unusedVariables false

/-- what Sci answers: the digits and the power of ten: the least one from the start on at which p + 1 digits are enough -/
structure SciAt (b p : Nat) (x : Int) : Prop where
  ge : 10 ^ p ≤ scaledN b (p - x)
  lt : scaledN b (p - x) < 10 ^ (p + 1)
  least : ∃ y0, y0 ≤ x ∧ GeT (mant b * 2 ^ (expo b).toNat) (2 ^ (-(expo b)).toNat) (p - y0) (10 ^ p) ∧ ∀ y, y0 ≤ y → y < x → 10 ^ (p + 1) ≤ scaledN b (p - y)

theorem canon_ne_zero {l : List UInt8} {x : Nat} (h : Canon l x) (hx : 0 < x) : l ≠ [48] := by
  intro hl
  have h1 := h.val
  rw [hl] at h1
  have h2 : digVal [48] = 0 := by decide
  omega

set_option maxRecDepth 100000 in
set_option maxHeartbeats 4000000 in
theorem Sci_loop (b : Nat) (p : Nat) (w : World) (hb : b < 18446744073709551616) (hf : fin b = true) (hp : p ≤ 200) (hm : 0 < mant b) :
    Calls Tryz.prog 195 #[.float .f64 b, .int .i64 p] w fun e w' => ∃ (s : ByteArray) (x : Int), e = .returned (.tuple #[.string s, .int .i64 x, .int .i64 0]) ∧ Canon s.data.toList (scaledN b (p - x)) ∧ s.data.toList.length = p + 1 ∧ SciAt b p x ∧ -325 ≤ x ∧ x ≤ 309 ∧ Below w.heap.size w w' := by
  have HP := Lib.hid (Parts_any b w hb)
  rw [hf] at HP
  have hm1 := mant_lt b
  have he := expo_bounds (b := b)
  obtain ⟨hm2, hm3⟩ := nbits_pos hm
  have hm4 : nbits (mant b) ≤ 53 := nbits_le.2 (by rw [show (2 : Nat) ^ 53 = 9007199254740992 by decide]; exact hm1)
  obtain ⟨t, ht⟩ : ∃ t : Int, t = (nbits (mant b) : Int) - 1 + expo b := ⟨_, rfl⟩
  obtain ⟨x0, hx0⟩ : ∃ x0 : Int, x0 = exp0 t := ⟨_, rfl⟩
  have hx0' : (t * 30103).tdiv 100000 - 2 = x0 := hx0.symm
  have hx1 : -325 ≤ x0 := by rw [hx0]; exact (exp0_bounds (by omega) (by omega)).1
  have hx2 : x0 ≤ 306 := by rw [hx0]; exact (exp0_bounds (by omega) (by omega)).2
  have hB : 0 < 2 ^ (-(expo b)).toNat := Nat.pow_pos (by decide)
  have hA := fin_lt (m := mant b) (j := (expo b).toNat) (i := 12) (-(expo b)).toNat (by rw [show (2 : Nat) ^ 53 = 9007199254740992 by decide]; exact hm1) (by omega) (by decide)
  have hst : GeT (mant b * 2 ^ (expo b).toNat) (2 ^ (-(expo b)).toNat) ((p : Int) - x0) (10 ^ p) := by
    have h := sci_start hm2 (e := expo b) (by omega) (by omega) p
    rw [show ((nbits (mant b) - 1 : Nat) : Int) + expo b = t by omega, ← hx0] at h
    exact h
  have HX : Hid (∀ x : Int, x0 ≤ x → (∀ y, x0 ≤ y → y < x → 10 ^ (p + 1) ≤ scaledN b (p - y)) → x ≤ 309) := by
    intro x h1 h2
    rcases Int.lt_or_le x0 x with h | h
    · have h3 := h2 (x - 1) (by omega) (by omega)
      rw [scaledN_rat] at h3
      have := sci_high (H := 25 * 12 + 9) hB hA h3
      omega
    · omega
  have HRD : Hid (∀ (x : Int) (l : List UInt8), x0 ≤ x → (∀ y, x0 ≤ y → y < x → 10 ^ (p + 1) ≤ scaledN b (p - y)) → Canon l (scaledN b (p - x)) →
      (p + 1 < l.length ∧ 10 ^ (p + 1) ≤ scaledN b (p - x)) ∨ (l.length = p + 1 ∧ l ≠ [48] ∧ SciAt b p x)) := by
    intro x l h1 h2 hc
    rcases Nat.lt_or_ge (scaledN b (p - x)) (10 ^ (p + 1)) with h | h
    · have h3 : 10 ^ p ≤ scaledN b (p - x) := by
        rw [scaledN_rat]
        refine sci_down hB ?_
        rcases Int.lt_or_le x0 x with h4 | h4
        · refine .inr ?_
          have h5 := h2 (x - 1) (by omega) (by omega)
          rw [scaledN_rat] at h5
          rwa [show (p : Int) - x + 1 = p - (x - 1) by omega]
        · refine .inl ?_
          rwa [show x = x0 by omega]
      refine .inr ⟨Nat.le_antisymm (canon_len hc h (by omega)) (canon_len_gt hc h3), canon_ne_zero hc (Nat.lt_of_lt_of_le (Nat.pow_pos (by decide)) h3), h3, h, x0, h1, hst, h2⟩
    · exact .inl ⟨canon_len_gt hc h, h⟩
  have HS : Hid (∀ (x : Int) (W : World), x0 ≤ x → x ≤ 309 → Calls Tryz.prog 113 #[.int .u64 (mant b : Nat), .int .i64 (expo b), .int .i64 (p - x)] W fun r w' => ∃ v, r = .returned v ∧ NatV w' v (scaledN b (p - x)) ∧ Below W.heap.size W w') :=
    fun x W h1 h2 => scaled_b b (p - x) W (by omega) (by omega)
  have HT : Hid (∀ (x : Int) (W : World) (v : Value), x0 ≤ x → x ≤ 309 → NatV W v (scaledN b (p - x)) → Calls Tryz.prog 112 #[v] W fun e w' => ∃ s : ByteArray, e = .returned (.tuple #[.string s, .int .i64 0]) ∧ Canon s.data.toList (scaledN b (p - x)) ∧ s.data.toList.length ≤ 4001 ∧ Below W.heap.size W w') :=
    fun x W v h1 h2 h => text_b (by omega) (by omega) h
  have HF := Lib.hid (fun W => FromV (mant b) _ rfl (by omega) W)
  have HBT : Hid (∀ (v : Value) (W : World), NatV W v (mant b) → Calls Tryz.prog 244 #[v] W fun r W' => r = .returned (.int .i64 (nbits (mant b) : Nat)) ∧ W = W') :=
    fun v W h => Bits_V v _ W h (limbs_of_bits (by omega))
  have hm0 : (mant b : Int) ≠ 0 := by omega
  generalize scaledN b = N at *
  generalize nbits (mant b) = nm at *
  generalize mant b = m at *
  generalize expo b = x at *
  clear hb hf hB hA hst hx0 hm hm2
  have hpi : (p : Int) ≤ 200 := by omega
  go_enter Tryz.func195, Tryz.ntmps195
  go_wp2_with fail
  refine HP.out.mono ?_
  rintro e w1 ⟨rfl, rfl⟩
  clear HP
  go_wp2_with fail
  refine (HF.out w).mono ?_
  rintro e w1 ⟨v1, rfl, hn1, hb1⟩
  have HBT1 := Lib.hid (HBT.out v1 w1 hn1)
  have HB1 := Lib.hid hb1
  have hs1 := hb1.size
  clear hn1 hb1 HBT HF
  go_wp2_with fail
  refine HBT1.out.mono ?_
  rintro e w2 ⟨rfl, rfl⟩
  clear HBT1
  have et : (nm : Int) - 1 + x = t := ht.symm
  clear ht
  have het : (t * 30103).tdiv 100000 = x0 + 2 := by omega
  go_wp2_with fail
  go_loopw [10] (fun ev wr => ∃ (y : Int), x0 ≤ y ∧ y ≤ 309 ∧ ev = .int .i64 y ∧ Below w.heap.size w wr ∧ w.heap.size ≤ wr.heap.size ∧ ∀ z, x0 ≤ z → z < y → 10 ^ (p + 1) ≤ N (p - z)) (fun ev _ => (400 - intOf ev).toNat)
  case atStart =>
    refine ⟨x0, Int.le_refl _, by omega, ?_, HB1.out, hs1, fun z h1 h2 => by omega⟩
    first | rfl | (congr 1; omega)
  case round =>
    obtain ⟨y, hy1, hy2, rfl, hbw, hsw, hl⟩ := hrel
    have HB := Lib.hid hbw; have HL := Lib.hid hl
    clear hbw hl HB1 het et
    have hc1 : x0 ≤ y := hy1
    go_wp2_with fail
    refine (HS.out y wr hy1 hy2).mono ?_
    rintro e w3 ⟨v3, rfl, hn3, hb3⟩
    have HT3 := Lib.hid (HT.out y w3 v3 hy1 hy2 hn3)
    have HB3 := Lib.hid (HB.out.trans (hb3.mono hsw))
    have hs3 := hb3.size
    clear hn3 hb3 HB
    go_wp2_with fail
    refine HT3.out.mono ?_
    rintro e w4 ⟨s, rfl, hc, hl4, hb4⟩
    have HB4 := Lib.hid (HB3.out.trans (hb4.mono (by omega)))
    have hs4 := hb4.size
    have HC := Lib.hid hc
    have hR := HRD.out y s.data.toList hy1 HL.out hc
    have hsz : s.size = s.data.toList.length := by simp
    obtain ⟨n, hn⟩ : ∃ n, n = s.size := ⟨_, rfl⟩
    rw [← hsz, ← hn] at hR hl4
    have hn1 : s.size = n := hn.symm
    clear hc hb4 HB3 HT3 hsz hn
    rcases hR with ⟨h1, h2⟩ | ⟨h1, h2, h3⟩
    · have h1' : (p : Int) + 1 < (n : Int) := by omega
      have HG := Lib.hid h2
      clear h2 h1
      have HL2 : Hid (∀ z, x0 ≤ z → z < y + 1 → 10 ^ (p + 1) ≤ N (p - z)) := by
        intro z hz1 hz2
        rcases Int.lt_or_le z y with h | h
        · exact HL.out z hz1 h
        · rw [show z = y by omega]; exact HG.out
      have hy3 : y + 1 ≤ 309 := HX.out (y + 1) (by omega) HL2.out
      go_wp2_with fail
      go_roundw
      case rel => exact ⟨y + 1, by omega, hy3, rfl, HB4.out, by omega, HL2.out⟩
      case measure => show (400 - (y + 1)).toNat < (400 - y).toNat; omega
    · have h1' : (n : Int) = (p : Int) + 1 := by omega
      have hne : (s.toList == [48]) = false := beq_eq_false_iff_ne.2 (by rw [ByteArray.toList_eq]; exact h2)
      have HG := Lib.hid h3
      clear h2 h1 h3
      have HN : Hid (s.data.toList.length = p + 1) := by
        have hsz : s.size = s.data.toList.length := by simp
        show _ = _
        omega
      go_wp2_with fail
      go_ret3
      exact ⟨s, y, rfl, HC.out, HN.out, HG.out, by omega, hy2, HB4.out⟩
end Go.Proofs.YtfdnhkjeoeffoaaGreatDoor
end

section
/- Package dec: Read. -/
namespace Go.Proofs.YtfdnhkjeoeffoaaGreatDoor
open Go.RowKit
set_option linter.unusedVariables false

end Go.Proofs.YtfdnhkjeoeffoaaGreatDoor
end

section
/- thresherlaw03: text, same. -/
namespace Go.Proofs.YtfdnhkjeoeffoaaGreatDoor
open Go.RowKit
set_option linter.unusedVariables false

/-- the sign of a digit -/
def dig (r : Nat) : UInt8 := UInt8.ofNat (48 + r)
theorem dig_nat (r : Nat) (h : r < 10) : (dig r).toNat = 48 + r := by
  unfold dig; rw [UInt8.toNat_ofNat', Nat.mod_eq_of_lt (by omega)]
/-- the digits of n so far: the least of them are r, m is what is left -/
structure Left (n m : Nat) (l r : List UInt8) : Prop where
  eq : l = dig (m % 10) :: r
  val : n = m * 10 ^ r.length + digVal r
  dig : Digits r
  pos : r = [] ∨ 0 < m
theorem Left.start (n : Nat) : Left n n [Go.Proofs.YtfdnhkjeoeffoaaGreatDoor.dig (n % 10)] [] := ⟨rfl, by simp [digVal], by intro c hc; simp at hc, .inl rfl⟩
theorem Left.digits {n m : Nat} {l r : List UInt8} (h : Left n m l r) : Digits l := by
  rw [h.eq]
  intro c hc
  rcases List.mem_cons.1 hc with rfl | h2
  · rw [dig_nat _ (by omega)]; omega
  · exact h.dig c h2
theorem Left.digVal {n m : Nat} {l r : List UInt8} (h : Left n m l r) : digVal l = (m % 10) * 10 ^ r.length + Go.Proofs.YtfdnhkjeoeffoaaGreatDoor.digVal r := by
  rw [h.eq, digVal_cons, dig_nat _ (by omega)]
  congr 2
  omega
theorem Left.step {n m : Nat} {l r : List UInt8} (h : Left n m l r) (hm : 10 ≤ m) : Left n (m / 10) (Go.Proofs.YtfdnhkjeoeffoaaGreatDoor.dig (m / 10 % 10) :: l) l := by
  refine ⟨rfl, ?_, h.digits, .inr (by omega)⟩
  rw [h.digVal]
  have h1 := h.val
  have e : l.length = r.length + 1 := by rw [h.eq]; rfl
  rw [e, Nat.pow_succ]
  generalize 10 ^ r.length = P at *
  have e2 : m = 10 * (m / 10) + m % 10 := by omega
  rw [h1]
  generalize m / 10 = a at *
  generalize m % 10 = b at *
  subst e2
  have e3 : (10 * a + b) * P = a * (P * 10) + b * P := by rw [Nat.add_mul, Nat.mul_comm 10 a, Nat.mul_assoc, Nat.mul_comm 10 P]
  omega
theorem Left.short {n m : Nat} {l r : List UInt8} (h : Left n m l r) (hn : n < 18446744073709551616) : l.length ≤ 20 := by
  have e : l.length = r.length + 1 := by rw [h.eq]; rfl
  rcases h.pos with h1 | h1
  · rw [e, h1]; decide
  · have h2 : 10 ^ r.length ≤ n := by
      rw [h.val]
      have : 1 * 10 ^ r.length ≤ m * 10 ^ r.length := Nat.mul_le_mul_right _ h1
      omega
    have h3 : r.length < 20 := (Nat.pow_lt_pow_iff_right (a := 10) (by decide)).1 (Nat.lt_of_le_of_lt h2 (Nat.lt_of_lt_of_le hn (by decide)))
    omega

end Go.Proofs.YtfdnhkjeoeffoaaGreatDoor
end

section
/- thresherlaw03: fixed; a number has one text. -/
namespace Go.Proofs.YtfdnhkjeoeffoaaGreatDoor
open Go.RowKit
set_option linter.unusedVariables false

theorem digits_unique : ∀ l l' : List UInt8, Digits l → Digits l' → l.length = l'.length → digVal l = digVal l' → l = l'
  | [], [], _, _, _, _ => rfl
  | [], _ :: _, _, _, h, _ => by simp at h
  | _ :: _, [], _, _, h, _ => by simp at h
  | c :: r, c' :: r', hd, hd', hl, hv => by
    have hl2 : r.length = r'.length := by simpa using hl
    have h1 := hd c (by simp)
    have h1' := hd' c' (by simp)
    have hr : Digits r := fun x hx => hd x (by simp [hx])
    have hr' : Digits r' := fun x hx => hd' x (by simp [hx])
    rw [digVal_cons, digVal_cons, hl2] at hv
    have h2 := digVal_lt hr
    have h2' := digVal_lt hr'
    rw [hl2] at h2
    have hP : 0 < 10 ^ r'.length := Nat.pow_pos (by decide)
    generalize 10 ^ r'.length = P at *
    have ha : (digVal r + P * (c.toNat - 48)) / P = (digVal r' + P * (c'.toNat - 48)) / P := by
      rw [Nat.mul_comm P, Nat.mul_comm P, Nat.add_comm, hv, Nat.add_comm]
    rw [Nat.add_mul_div_left _ _ hP, Nat.add_mul_div_left _ _ hP, Nat.div_eq_of_lt h2, Nat.div_eq_of_lt h2'] at ha
    have hc : c = c' := UInt8.toNat_inj.1 (by omega)
    subst hc
    rw [digits_unique r r' hr hr' hl2 (by omega)]
theorem canon_low {l : List UInt8} {x : Nat} (h : Canon l x) (hl : 1 < l.length) : 10 ^ (l.length - 1) ≤ x := by
  cases h1 : l with
  | nil => exact absurd h1 h.ne
  | cons c r =>
    have h2 := h.dig c (by rw [h1]; simp)
    have h3 : c.toNat ≠ 48 := fun h4 => by
      have := h.top c r h1 h4
      rw [h1, this] at hl; simp at hl
    have h5 := h.val
    rw [h1, digVal_cons] at h5
    have h6 : 1 * 10 ^ r.length ≤ (c.toNat - 48) * 10 ^ r.length := Nat.mul_le_mul_right _ (by omega)
    simp only [List.length_cons, Nat.add_sub_cancel]
    omega
theorem canon_length {l l' : List UInt8} {x : Nat} (h : Canon l x) (h' : Canon l' x) : l.length ≤ l'.length := by
  rcases Nat.lt_or_ge l'.length l.length with h1 | h1
  · exfalso
    have h0 : 0 < l'.length := List.length_pos_iff.2 h'.ne
    have h2 := canon_low h (by omega)
    have h3 := digVal_lt h'.dig
    rw [h'.val] at h3
    have h4 : 10 ^ l'.length ≤ 10 ^ (l.length - 1) := Nat.pow_le_pow_right (by decide) (by omega)
    omega
  · exact h1
/-- a number has one text -/
theorem canon_unique {l l' : List UInt8} {x : Nat} (h : Canon l x) (h' : Canon l' x) : l = l' :=
  digits_unique l l' h.dig h'.dig (Nat.le_antisymm (canon_length h h') (canon_length h' h)) (by rw [h.val, h'.val])
theorem canon_mk {l : List UInt8} {x : Nat} (h : (l.all fun c => decide (48 ≤ c.toNat) && decide (c.toNat ≤ 57)) = true) (hne : l ≠ []) (hv : digVal l = x) (ht : l.length = 1 ∨ l.head? ≠ some 48) : Canon l x := by
  refine ⟨hne, ?_, hv, ?_⟩
  · intro c hc
    have := List.all_eq_true.1 h c hc
    simpa using this
  · intro c r hl hc
    rcases ht with h1 | h1
    · rw [hl] at h1; simpa using h1
    · rw [hl] at h1
      exact absurd (by simp; exact UInt8.toNat_inj.1 hc) h1

def okAt (i : Nat) : Bool := !(decide (1000 ≤ scaledN 4653144203864309760 (3 - ((i : Int) - 325))) && decide (scaledN 4653144203864309760 (3 - ((i : Int) - 325)) < 10000)) || i == 328
theorem toBytes {s : ByteArray} {l : List UInt8} (h : s.data.toList = l) : s = ⟨l.toArray⟩ := by
  cases s; simp at h; subst h; rfl

end Go.Proofs.YtfdnhkjeoeffoaaGreatDoor
end

section
/- Plain: how the model reads a float's bits, and compares them. -/
namespace Go.Proofs.YtfdnhkjeoeffoaaGreatDoor
open Go

/-- the float in steps of the least one -/
def vl (b : Nat) : Nat := mof b * 2 ^ jof b
theorem vl_lt {x y : Nat} (h : x < y) : vl x < vl y := by
  unfold vl
  have hx := bits_parts x
  have hy := bits_parts y
  have h1 := mof_lt x
  have h2 := mof_lt y
  have h3 := mof_ge x
  have h4 := mof_ge y
  rcases Nat.lt_trichotomy (jof x) (jof y) with hj | hj | hj
  · have h5 : 2 ^ 52 ≤ mof y := by rcases h4 with h | h; omega; exact h
    calc mof x * 2 ^ jof x < 2 ^ 53 * 2 ^ jof x := Nat.mul_lt_mul_of_pos_right h1 (pow2_pos _)
      _ = 2 ^ 52 * 2 ^ (jof x + 1) := by rw [two53, Nat.pow_succ 2 (jof x), Nat.mul_assoc, Nat.mul_comm 2]
      _ ≤ 2 ^ 52 * 2 ^ jof y := Nat.mul_le_mul_left _ (Nat.pow_le_pow_right (by decide) hj)
      _ ≤ mof y * 2 ^ jof y := Nat.mul_le_mul_right _ h5
  · rw [hj]
    exact Nat.mul_lt_mul_of_pos_right (by rw [hj] at hx; omega) (pow2_pos _)
  · exfalso
    have h5 : (jof y + 1) * 2 ^ 52 ≤ jof x * 2 ^ 52 := Nat.mul_le_mul_right _ hj
    rw [Nat.add_mul] at h5
    have h6 : 2 ^ 52 ≤ mof x := by rcases h3 with h | h; omega; exact h
    have h7 : (2 : Nat) ^ 53 = 2 ^ 52 + 2 ^ 52 := by decide
    omega
theorem read_inf : FloatKind.f64.format.read 9218868437227405312 = .infinity false := by decide
theorem read_fin {b : Nat} (h : b < 9218868437227405312) : FloatKind.f64.format.read b = .number false (mof b) ((jof b : Int) - 1074) := by
  have e1 : FloatKind.f64.format.signWeight = 9223372036854775808 := by decide
  have e2 : FloatKind.f64.format.binade = 4503599627370496 := by decide
  have e3 : FloatKind.f64.format.infRung = 9218868437227405312 := by decide
  have e4 : FloatKind.f64.format.leastPlace = -1074 := by decide
  have e5 : (b / 9223372036854775808 % 2 == 1) = false := by rw [Nat.div_eq_of_lt (by omega)]; rfl
  have e6 : b % 9223372036854775808 = b := Nat.mod_eq_of_lt (by omega)
  unfold Ieee.Format.read
  simp only [e1, e2, e3, e4, e5, e6]
  have e7 : (2 : Nat) ^ 52 = 4503599627370496 := by decide
  unfold mof jof
  rw [e7]
  by_cases hs : b < 4503599627370496
  · rw [if_pos hs, if_pos (by omega)]
    congr 1
    rw [Nat.div_eq_of_lt hs]
    rfl
  · rw [if_neg hs, if_pos h, if_neg (by omega)]
    congr 1
    all_goals omega
theorem order_fin {x y : Nat} (hx : x < 9218868437227405312) (hy : y < 9218868437227405312) : FloatKind.f64.format.order x y = some (compare x y) := by
  unfold Ieee.Format.order
  rw [read_fin hx, read_fin hy]
  unfold Ieee.Datum.order
  simp only
  congr 1
  obtain ⟨c, hc⟩ : ∃ c, c = min (jof x) (jof y) := ⟨_, rfl⟩
  have e1 : ((jof x : Int) - 1074 - min ((jof x : Int) - 1074) ((jof y : Int) - 1074)).toNat = jof x - c := by omega
  have e2 : ((jof y : Int) - 1074 - min ((jof x : Int) - 1074) ((jof y : Int) - 1074)).toNat = jof y - c := by omega
  rw [e1, e2]
  unfold Ieee.signed
  simp only [Bool.false_eq_true, if_false]
  rw [Nat.shiftLeft_eq, Nat.shiftLeft_eq]
  have h1 : mof x * 2 ^ (jof x - c) * 2 ^ c = vl x := by unfold vl; rw [Nat.mul_assoc, ← Nat.pow_add, Nat.sub_add_cancel (by omega)]
  have h2 : mof y * 2 ^ (jof y - c) * 2 ^ c = vl y := by unfold vl; rw [Nat.mul_assoc, ← Nat.pow_add, Nat.sub_add_cancel (by omega)]
  have hp := pow2_pos c
  generalize mof x * 2 ^ (jof x - c) = a at *
  generalize mof y * 2 ^ (jof y - c) = b at *
  rcases Nat.lt_trichotomy x y with h | h | h
  · have h3 := vl_lt h
    rw [← h1, ← h2] at h3
    have h4 := Nat.lt_of_mul_lt_mul_right h3
    rw [Int.compare_eq_lt.2 (by omega), Nat.compare_eq_lt.2 h]
  · subst h
    have h4 : a = b := Nat.eq_of_mul_eq_mul_right hp (h1.trans h2.symm)
    subst h4
    rw [Int.compare_eq_eq.2 rfl, Nat.compare_eq_eq.2 rfl]
  · have h3 := vl_lt h
    rw [← h1, ← h2] at h3
    have h4 := Nat.lt_of_mul_lt_mul_right h3
    rw [Int.compare_eq_gt.2 (by omega), Nat.compare_eq_gt.2 h]
/-- floats that are not negative, and no NaN, are compared as their bits -/
theorem order_pos {x y : Nat} (hx : x ≤ 9218868437227405312) (hy : y ≤ 9218868437227405312) : FloatKind.f64.format.order x y = some (compare x y) := by
  rcases Nat.eq_or_lt_of_le hx with h1 | h1 <;> rcases Nat.eq_or_lt_of_le hy with h2 | h2
  · subst h1 h2; decide
  · subst h1
    unfold Ieee.Format.order
    rw [read_inf, read_fin h2, Nat.compare_eq_gt.2 h2]
    rfl
  · subst h2
    unfold Ieee.Format.order
    rw [read_inf, read_fin h1, Nat.compare_eq_lt.2 h1]
    rfl
  · exact order_fin h1 h2
theorem order_lt {x y : Nat} (hx : x ≤ 9218868437227405312) (hy : y ≤ 9218868437227405312) (h : x < y) : FloatKind.f64.format.order x y = some .lt := by rw [order_pos hx hy, Nat.compare_eq_lt.2 h]
theorem order_gt {x y : Nat} (hx : x ≤ 9218868437227405312) (hy : y ≤ 9218868437227405312) (h : y < x) : FloatKind.f64.format.order x y = some .gt := by rw [order_pos hx hy, Nat.compare_eq_gt.2 h]
theorem order_eq {x : Nat} (hx : x ≤ 9218868437227405312) : FloatKind.f64.format.order x x = some .eq := by rw [order_pos hx hx, Nat.compare_eq_eq.2 rfl]
end Go.Proofs.YtfdnhkjeoeffoaaGreatDoor
end

section
/- thresherlaw03: DecRises. -/
namespace Go.Proofs.YtfdnhkjeoeffoaaGreatDoor
open Go.RowKit
set_option linter.unusedVariables false

end Go.Proofs.YtfdnhkjeoeffoaaGreatDoor
end

section
/- Plain: seventeen digits tell a float; digits of a float near it. -/
namespace Go.Proofs.YtfdnhkjeoeffoaaGreatDoor
open Go

theorem mant_mof {b : Nat} (h : b < 9218868437227405312) : mant b = mof b ∧ (expo b + 1074).toNat = jof b ∧ -1074 ≤ expo b := by
  have e6 : b % 9223372036854775808 = b := Nat.mod_eq_of_lt (by omega)
  have e7 : (2 : Nat) ^ 52 = 4503599627370496 := by decide
  have hx := expo_bounds (b := b)
  refine ⟨?_, ?_, hx.1⟩
  · unfold mant mof
    rw [e6, e7, if_neg (by omega)]
    by_cases h1 : b / 4503599627370496 = 0
    · rw [if_pos h1, if_pos h1]; omega
    · rw [if_neg h1, if_neg h1]
  · unfold expo jof
    rw [e6, e7, if_neg (by omega)]
    by_cases h1 : b / 4503599627370496 = 0
    · rw [if_pos h1, h1]; rfl
    · rw [if_neg h1]; omega
theorem fin_lt_inf {b : Nat} (hb : b < 9223372036854775808) : fin b = true ↔ b < 9218868437227405312 := by
  unfold fin
  rw [Nat.mod_eq_of_lt hb]
  simp
  omega
/-- the float as the fraction that the digits are rounded from -/
def numP (b : Nat) (k : Int) : Nat := mant b * 10 ^ k.toNat * 2 ^ (expo b).toNat
def denQ (b : Nat) (k : Int) : Nat := 10 ^ (-k).toNat * 2 ^ (-(expo b)).toNat
theorem denQ_pos (b : Nat) (k : Int) : 0 < denQ b k := Nat.mul_pos (Nat.pow_pos (by decide)) (pow2_pos _)
theorem scaledN_spec (b : Nat) (k : Int) : 2 * numP b k ≤ (2 * scaledN b k + 1) * denQ b k ∧ 2 * scaledN b k * denQ b k ≤ 2 * numP b k + denQ b k := rnd_spec (denQ_pos b k)
/-- the float's value, and the digits' value, over one denominator -/
theorem value_P {b : Nat} (h : b < 9218868437227405312) (k : Int) : mof b * (2 ^ jof b * 10 ^ k.toNat) * 2 ^ (-(expo b)).toNat = numP b k * kk := by
  obtain ⟨h1, h2, h3⟩ := mant_mof h
  have h4 := pow2_int h3
  rw [h2] at h4
  unfold numP
  rw [h1]
  calc mof b * (2 ^ jof b * 10 ^ k.toNat) * 2 ^ (-(expo b)).toNat = mof b * 10 ^ k.toNat * (2 ^ (-(expo b)).toNat * 2 ^ jof b) := by ac_rfl
    _ = mof b * 10 ^ k.toNat * 2 ^ (expo b).toNat * kk := by rw [h4]; generalize kk = K; ac_rfl
end Go.Proofs.YtfdnhkjeoeffoaaGreatDoor
end

section
/- thresherlaw03: below. -/
namespace Go.Proofs.YtfdnhkjeoeffoaaGreatDoor
open Go.RowKit
set_option linter.unusedVariables false

/-- the block of a string's bytes -/
structure RowM (w : World) (g : Nat) (L : List UInt8) : Prop where
  row : ∃ cur, w.heap[g]? = some (.cells cur 5 (cur.size, cur.size + 1)) ∧ ∀ i (h : i < L.length), cur[i]? = some (.int .u8 (L[i].toNat : Nat))
theorem RowM.ltg {w : World} {g : Nat} {L : List UInt8} (h : RowM w g L) : g < w.heap.size := by
  obtain ⟨cur, hg, ht⟩ := h.row
  exact lt_of_heap hg
theorem RowM.cell {w : World} {g : Nat} {L : List UInt8} (h : RowM w g L) (i : Nat) (hi : i < L.length) : w.cell? ⟨g, i, none⟩ = some (.int .u8 (L[i].toNat : Nat)) := by
  obtain ⟨cur, hg, ht⟩ := h.row
  simp [World.cell?, hg, ht i hi]
theorem RowM.frozen {w : World} {g : Nat} {L : List UInt8} (h : RowM w g L) (i : Nat) (hi : i < L.length) : w.frozen? ⟨g, i, none⟩ = false := by
  obtain ⟨cur, hg, ht⟩ := h.row
  have h1 : i < cur.size := by
    rcases Nat.lt_or_ge i cur.size with h | h
    · exact h
    · have := ht i hi
      rw [Array.getElem?_eq_none (by omega)] at this; cases this
  simp [World.frozen?, hg]
  omega
theorem RowM.set {w : World} {g : Nat} {L : List UInt8} (h : RowM w g L) (i y : Nat) (hi : i < L.length) (hy : y < 256) : RowM (w.setCell ⟨g, i, none⟩ (.int .u8 (y : Nat))) g (L.set i (UInt8.ofNat y)) := by
  obtain ⟨cur, hg, ht⟩ := h.row
  refine ⟨cur.setIfInBounds i (.int .u8 (y : Nat)), by rw [setCell_heap_same hg i _]; simp, fun j hj => ?_⟩
  rw [List.length_set] at hj
  rw [List.getElem_set, Array.getElem?_setIfInBounds]
  have h1 : i < cur.size := by
    rcases Nat.lt_or_ge i cur.size with h | h
    · exact h
    · have := ht i hi
      rw [Array.getElem?_eq_none (by omega)] at this; cases this
  by_cases hij : i = j
  · subst hij
    rw [if_pos rfl, if_pos h1, if_pos rfl, UInt8.toNat_ofNat', Nat.mod_eq_of_lt hy]
  · rw [if_neg hij, if_neg hij]
    exact ht j hj

/-- the row while the noughts at its end are made nines -/
def bel (l : List UInt8) (k : Nat) : List UInt8 := l.take k ++ List.replicate (l.length - k) 57
end Go.Proofs.YtfdnhkjeoeffoaaGreatDoor
end

section
/- Plain: what Fixed and Sci write, as functions of the float and the number of digits alone. -/
namespace Go.Proofs.YtfdnhkjeoeffoaaGreatDoor
open Go.RowKit
set_option linter.unusedVariables false

theorem GeT_more (A B : Nat) (k : Int) (n : Nat) (h : GeT A B k n) : ∀ d : Nat, GeT A B (k + d) (10 ^ d * n)
  | 0 => by
    have e : k + ((0 : Nat) : Int) = k := by omega
    rw [e, Nat.pow_zero, Nat.one_mul]
    exact h
  | d + 1 => by
    have h1 := (GeT_step A B (k + d) (10 ^ d * n)).2 (GeT_more A B k n h d)
    rw [show k + ((d + 1 : Nat) : Int) = k + d + 1 by omega, show 10 ^ (d + 1) * n = 10 * (10 ^ d * n) by rw [Nat.pow_succ]; ac_rfl]
    exact h1
theorem scaled_rat (b : Nat) (k : Int) : scaledN b k = ratN (mant b * 2 ^ (expo b).toNat) (2 ^ (-(expo b)).toNat) k := by
  unfold scaledN ratN
  rw [show mant b * 10 ^ k.toNat * 2 ^ (expo b).toNat = mant b * 2 ^ (expo b).toNat * 10 ^ k.toNat by ac_rfl]
theorem sci_not_less {b p : Nat} {x y : Int} (hx : SciAt b p x) (hy : SciAt b p y) : ¬ x < y := by
  intro hxy
  have h1 := hx.lt
  obtain ⟨y0, h2, h3, h4⟩ := hy.least
  rcases Int.lt_or_le x y0 with h | h
  · obtain ⟨d, hd⟩ : ∃ d : Nat, y0 - x = ((d + 1 : Nat) : Int) := ⟨(y0 - x - 1).toNat, by omega⟩
    have h5 := GeT_more _ _ _ _ h3 (d + 1)
    rw [show (p : Int) - y0 + ((d + 1 : Nat) : Int) = (p : Int) - x by omega] at h5
    have h6 := ratN_ge (pow2_pos _) h5
    rw [← scaled_rat] at h6
    have h7 : 10 ^ (p + 1) ≤ 10 ^ (d + 1) * 10 ^ p := by
      rw [← Nat.pow_add]
      exact Nat.pow_le_pow_right (by decide) (by omega)
    omega
  · have := h4 x h hxy
    omega
theorem sci_unique {b p : Nat} {x y : Int} (hx : SciAt b p x) (hy : SciAt b p y) : x = y := by
  have h1 := sci_not_less hx hy
  have h2 := sci_not_less hy hx
  omega

open Classical in
/-- a natural's digits -/
noncomputable def dl (n : Nat) : List UInt8 := if h : ∃ l, Canon l n then Classical.choose h else []
theorem dl_eq {l : List UInt8} {n : Nat} (h : Canon l n) : dl n = l := by
  unfold dl
  have hex : ∃ l, Canon l n := ⟨l, h⟩
  rw [dif_pos hex]
  exact canon_unique (Classical.choose_spec hex) h
open Classical in
/-- the power of a float's first digit, rounded to p + 1 digits -/
noncomputable def sciX (b p : Nat) : Int := if h : ∃ x, SciAt b p x then Classical.choose h else 0
theorem sciX_eq {b p : Nat} {x : Int} (h : SciAt b p x) : sciX b p = x := by
  unfold sciX
  have hex : ∃ x, SciAt b p x := ⟨x, h⟩
  rw [dif_pos hex]
  exact sci_unique (Classical.choose_spec hex) h
noncomputable def sciE (b p : Nat) : Int := if mant b = 0 then 0 else sciX b p
noncomputable def sciD (b p : Nat) : List UInt8 := if mant b = 0 then List.replicate (p + 1) 48 else dl (scaledN b (p - sciX b p))
noncomputable def fixT (b p : Nat) : List UInt8 := fixedL (dl (scaledN b p)) p

end Go.Proofs.YtfdnhkjeoeffoaaGreatDoor
end

section
/- Fixed and Sci as functions: what they write is told by the float and the number of digits alone. -/
namespace Go.Proofs.YtfdnhkjeoeffoaaGreatDoor
open Go.RowKit
set_option linter.unusedVariables false

theorem bytes_self (s : ByteArray) : (⟨s.data.toList.toArray⟩ : ByteArray) = s := by cases s; simp
theorem Fixed_det (b p : Nat) (w : World) (hb : b < 18446744073709551616) (hf : fin b = true) (hp : p ≤ 200) :
    Calls Tryz.prog 51 #[.float .f64 b, .int .i64 p] w fun e w' => e = .returned (.tuple #[.string ⟨(fixT b p).toArray⟩, .int .i64 0]) ∧ Below w.heap.size w w' := by
  refine (Fixed_ok b p w hb hf hp).mono ?_
  rintro e w' ⟨s, l, rfl, hc2, hs, hbw⟩
  unfold fixT
  rw [dl_eq hc2, ← hs]
  rw [bytes_self]
  exact ⟨rfl, hbw⟩
/-- what Sci writes: so many digits, and a power within bounds -/
structure SciOk (b p : Nat) : Prop where
  len : (sciD b p).length = p + 1
  lo : -325 ≤ sciE b p
  hi : sciE b p ≤ 309
  dig : Digits (sciD b p)
  fx : (dl (scaledN b ((p : Int) - sciE b p))).length ≤ p + 1
theorem scaled_zero {b : Nat} (k : Int) (h : mant b = 0) : scaledN b k = 0 := by
  have h1 := (scaledN_spec b k).2
  have h2 : numP b k = 0 := by
    unfold numP
    rw [h]
    simp
  rw [h2] at h1
  have h3 := denQ_pos b k
  rcases Nat.eq_zero_or_pos (scaledN b k) with h4 | h4
  · exact h4
  · exfalso
    have h5 : 2 * denQ b k ≤ 2 * scaledN b k * denQ b k := Nat.mul_le_mul_right _ (by omega)
    omega
theorem Sci_det (b p : Nat) (w : World) (hb : b < 18446744073709551616) (hf : fin b = true) (hp : p ≤ 200) :
    Calls Tryz.prog 195 #[.float .f64 b, .int .i64 p] w fun e w' => e = .returned (.tuple #[.string ⟨(sciD b p).toArray⟩, .int .i64 (sciE b p), .int .i64 0]) ∧ SciOk b p ∧ Below w.heap.size w w' := by
  by_cases hm : mant b = 0
  · refine (Sci_zero b p w hb hf hp hm).mono ?_
    rintro e w' ⟨s, rfl, hs, hbw⟩
    have e1 : sciD b p = List.replicate (p + 1) 48 := by unfold sciD; rw [if_pos hm]
    have e2 : sciE b p = 0 := by unfold sciE; rw [if_pos hm]
    refine ⟨?_, ⟨by rw [e1]; simp, by rw [e2]; decide, by rw [e2]; decide, by rw [e1]; intro c hc; rw [List.eq_of_mem_replicate hc]; decide, ?_⟩, hbw⟩
    · rw [e1, e2, ← hs, bytes_self]
    · rw [scaled_zero _ hm, dl_eq (canon_mk (l := [48]) (by decide) (by simp) (by decide) (.inl rfl))]
      simp
  · refine (Sci_loop b p w hb hf hp (Nat.pos_of_ne_zero hm)).mono ?_
    rintro e w' ⟨s, x, rfl, hc, hl, hsa, hx1, hx2, hbw⟩
    have e1 : sciE b p = x := by unfold sciE; rw [if_neg hm, sciX_eq hsa]
    have e2 : sciD b p = s.data.toList := by unfold sciD; rw [if_neg hm, sciX_eq hsa, dl_eq hc]
    refine ⟨?_, ⟨by rw [e2]; exact hl, by rw [e1]; exact hx1, by rw [e1]; exact hx2, by rw [e2]; exact hc.dig, ?_⟩, hbw⟩
    · rw [e1, e2, bytes_self]
    · rw [e1, dl_eq hc, hl]
      exact Nat.le_refl _
end Go.Proofs.YtfdnhkjeoeffoaaGreatDoor
end

section
/- Package format: the reader: next and flags. -/
namespace Go.Proofs.YtfdnhkjeoeffoaaGreatDoor
open Go.RowKit
set_option linter.unusedVariables false

theorem sz_list (s : ByteArray) : s.size = s.data.toList.length := by cases s; simp [ByteArray.size]
/-- the byte at a place; nought where there is none -/
def ch (s : ByteArray) (i : Nat) : Nat := (s.data.toList.getD i 0).toNat
def chr (s : ByteArray) (i : Int) : Nat := if i < 0 then 0 else ch s i.toNat
theorem chr_nat (s : ByteArray) (i : Nat) : chr s (i : Int) = ch s i := by
  unfold chr
  rw [if_neg (by omega)]
  rfl
theorem ch_out {s : ByteArray} {i : Nat} (h : s.size ≤ i) : ch s i = 0 := by
  unfold ch
  rw [List.getD_eq_getElem?_getD, List.getElem?_eq_none (by rw [← sz_list]; exact h)]
  rfl
theorem ch_lt (s : ByteArray) (i : Nat) : ch s i < 256 := by
  unfold ch
  exact UInt8.toNat_lt _
theorem ch_in {s : ByteArray} {i : Nat} (h : i < s.size) : s[i].toNat = ch s i := by
  unfold ch
  have hl : i < s.data.toList.length := by rw [← sz_list]; exact h
  rw [List.getD_eq_getElem?_getD, List.getElem?_eq_getElem hl]
  rfl

/-- the reader's block -/
def RdAt (w : World) (r : Nat) (s : ByteArray) (i : Int) : Prop := w.heap[r]? = some (.cells #[.string s, .int .i64 i] 172 (0, 0))
theorem RdAt.c0 {w : World} {r : Nat} {s : ByteArray} {i : Int} (h : RdAt w r s i) : w.cell? ⟨r, 0, none⟩ = some (.string s) := by rw [Lib.cell_of_heap h]; rfl
theorem RdAt.c1 {w : World} {r : Nat} {s : ByteArray} {i : Int} (h : RdAt w r s i) : w.cell? ⟨r, 1, none⟩ = some (.int .i64 i) := by rw [Lib.cell_of_heap h]; rfl
theorem RdAt.f1 {w : World} {r : Nat} {s : ByteArray} {i : Int} (h : RdAt w r s i) : w.frozen? ⟨r, 1, none⟩ = false := Lib.frozen_of_heap h 1
theorem RdAt.lt {w : World} {r : Nat} {s : ByteArray} {i : Int} (h : RdAt w r s i) : r < w.heap.size := lt_of_heap h
theorem RdAt.keep {w w' : World} {r : Nat} {s : ByteArray} {i : Int} {S : List Nat} (h : RdAt w r s i) (ha : Apart S w w') (hS : r ∉ S) : RdAt w' r s i := (ha.block r h.lt hS).trans h
theorem RdAt.below {w w' : World} {r : Nat} {s : ByteArray} {i : Int} (h : RdAt w r s i) (hb : Below w.heap.size w w') : RdAt w' r s i := (hb.block r h.lt).trans h
theorem RdAt.step {w : World} {r : Nat} {s : ByteArray} {i : Int} (h : RdAt w r s i) (j : Int) : RdAt (w.setCell ⟨r, 1, none⟩ (.int .i64 j)) r s j := setCell_heap_same h 1 _

set_option maxHeartbeats 8000000 in
set_option maxRecDepth 100000 in
theorem next_any (s : ByteArray) (i : Int) (r : Nat) (w : World) (hr : RdAt w r s i) :
    Calls Tryz.prog 121 #[.pointer (some ⟨r, 0, none⟩)] w fun e w' => e = .returned (.int .u8 (chr s i)) ∧ Below w.heap.size w w' := by
  have c0 := hr.c0
  have c1 := hr.c1
  obtain ⟨c, hc⟩ : ∃ c, c = chr s i := ⟨_, rfl⟩
  rw [← hc]
  have HC := Lib.hid hc
  clear hc hr
  rcases Int.lt_or_le i 0 with h | h
  · have h0 : c = 0 := by rw [HC.out]; unfold chr; rw [if_pos h]
    subst h0
    clear HC
    go_enter Tryz.func121, Tryz.ntmps121
    go_wp2_with fail
    go_region
    go_wp2_with fail
    go_ret
    exact ⟨rfl, (Below.refl _ _).drew⟩
  · obtain ⟨k, rfl⟩ : ∃ k : Nat, i = (k : Int) := ⟨i.toNat, by omega⟩
    rw [chr_nat] at HC
    have hneg : ¬ ((k : Int) < 0) := by omega
    rcases Nat.lt_or_ge k s.size with hk | hk
    · have hI : (k : Int) < (s.size : Int) := by omega
      have hcc : s[k].toNat = c := by rw [HC.out]; exact ch_in hk
      go_enter Tryz.func121, Tryz.ntmps121
      go_wp2_with fail
      go_region
      all_goals go_wp2_with fail
      all_goals go_region
      all_goals go_wp2_with fail
      all_goals go_ret
      all_goals exact ⟨rfl, (Below.refl _ _).drew.drew⟩
    · have h0 : c = 0 := by rw [HC.out]; exact ch_out hk
      have hI : (s.size : Int) ≤ (k : Int) := by omega
      subst h0
      clear HC
      go_enter Tryz.func121, Tryz.ntmps121
      go_wp2_with fail
      go_region
      all_goals go_wp2_with fail
      all_goals go_ret
      all_goals exact ⟨rfl, (Below.refl _ _).drew⟩
def isFlag (c : UInt8) : Bool := c == 45 || c == 43 || c == 32 || c == 35 || c == 48
/-- how many signs of flags stand there -/
def flagN (s : ByteArray) (i : Nat) : Nat := ((s.data.toList.drop i).takeWhile isFlag).length
def hasF (c : UInt8) (s : ByteArray) (i n : Nat) : Bool := ((s.data.toList.drop i).take n).contains c

theorem takeWhile_at {α : Type} (p : α → Bool) : ∀ (l : List α) (k : Nat), k < (l.takeWhile p).length → ∃ x, l[k]? = some x ∧ p x = true
  | [], k, h => by simp at h
  | a :: l, k, h => by
    rw [List.takeWhile_cons] at h
    split at h
    · rename_i ha
      cases k with
      | zero => exact ⟨a, rfl, ha⟩
      | succ k =>
        obtain ⟨x, h1, h2⟩ := takeWhile_at p l k (by simpa using h)
        exact ⟨x, by simpa using h1, h2⟩
    · simp at h
theorem takeWhile_stop {α : Type} (p : α → Bool) : ∀ (l : List α) (x : α), l[(l.takeWhile p).length]? = some x → p x = false
  | [], x, h => by simp at h
  | a :: l, x, h => by
    rw [List.takeWhile_cons] at h
    split at h
    · rename_i ha
      exact takeWhile_stop p l x (by simpa using h)
    · rename_i ha
      simp at h
      subst h
      simpa using ha
theorem ch_get {s : ByteArray} {i k : Nat} {x : UInt8} (h : (s.data.toList.drop i)[k]? = some x) : ch s (i + k) = x.toNat := by
  rw [List.getElem?_drop] at h
  unfold ch
  rw [List.getD_eq_getElem?_getD, h]
  rfl
theorem ch_none {s : ByteArray} {i k : Nat} (h : (s.data.toList.drop i)[k]? = none) : ch s (i + k) = 0 := by
  rw [List.getElem?_drop] at h
  unfold ch
  rw [List.getD_eq_getElem?_getD, h]
  rfl
theorem hasF_zero (c : UInt8) (s : ByteArray) (i : Nat) : hasF c s i 0 = false := by simp [hasF]
theorem hasF_step (c : UInt8) (s : ByteArray) (i n : Nat) (x : UInt8) (h : (s.data.toList.drop i)[n]? = some x) : hasF c s i (n + 1) = (hasF c s i n || c == x) := by
  unfold hasF
  rw [List.take_add_one, h]
  simp
  rfl
/-- the byte behind the flags is none -/
theorem flag_stop (s : ByteArray) (i : Nat) : ch s (i + flagN s i) ≠ 45 ∧ ch s (i + flagN s i) ≠ 43 ∧ ch s (i + flagN s i) ≠ 32 ∧ ch s (i + flagN s i) ≠ 35 ∧ ch s (i + flagN s i) ≠ 48 := by
  cases h : (s.data.toList.drop i)[flagN s i]? with
  | none => rw [ch_none h]; decide
  | some x =>
    have := takeWhile_stop isFlag _ x h
    rw [ch_get h]
    unfold isFlag at this
    simp only [Bool.or_eq_false_iff, beq_eq_false_iff_ne] at this
    obtain ⟨⟨⟨⟨h1, h2⟩, h3⟩, h4⟩, h5⟩ := this
    refine ⟨fun e => h1 ?_, fun e => h2 ?_, fun e => h3 ?_, fun e => h4 ?_, fun e => h5 ?_⟩ <;> exact UInt8.toNat_inj.1 e
theorem flag_at {s : ByteArray} {i k : Nat} (h : k < flagN s i) : ∃ x : UInt8, (s.data.toList.drop i)[k]? = some x ∧ ch s (i + k) = x.toNat ∧ (x = 45 ∨ x = 43 ∨ x = 32 ∨ x = 35 ∨ x = 48) := by
  obtain ⟨x, h1, h2⟩ := takeWhile_at isFlag _ k h
  refine ⟨x, h1, ch_get h1, ?_⟩
  unfold isFlag at h2
  simp only [Bool.or_eq_true, beq_iff_eq] at h2
  rcases h2 with (((h | h) | h) | h) | h
  · exact .inl h
  · exact .inr (.inl h)
  · exact .inr (.inr (.inl h))
  · exact .inr (.inr (.inr (.inl h)))
  · exact .inr (.inr (.inr (.inr h)))

/-- a piece's cells -/
def pieceA (m p b a z : Bool) (wd pr : Int) (vb : Int) (sw sp : Bool) (nx : Int) : Array Value := #[.bool m, .bool p, .bool b, .bool a, .bool z, .int .i64 wd, .int .i64 pr, .int .u8 vb, .bool sw, .bool sp, .int .i64 nx]
def PcAt (w : World) (r : Nat) (A : Array Value) : Prop := w.heap[r]? = some (.cells A 101 (0, 0))
theorem PcAt.lt {w : World} {r : Nat} {A : Array Value} (h : PcAt w r A) : r < w.heap.size := lt_of_heap h
theorem PcAt.cell {w : World} {r : Nat} {A : Array Value} (h : PcAt w r A) (i : Nat) : w.cell? ⟨r, i, none⟩ = A[i]? := by rw [Lib.cell_of_heap h]
theorem PcAt.frozen {w : World} {r : Nat} {A : Array Value} (h : PcAt w r A) (i : Nat) : w.frozen? ⟨r, i, none⟩ = false := Lib.frozen_of_heap h i
theorem PcAt.keep {w w' : World} {r : Nat} {A : Array Value} {S : List Nat} (h : PcAt w r A) (ha : Apart S w w') (hS : r ∉ S) : PcAt w' r A := (ha.block r h.lt hS).trans h
theorem PcAt.below {w w' : World} {r : Nat} {A : Array Value} (h : PcAt w r A) (hb : Below w.heap.size w w') : PcAt w' r A := (hb.block r h.lt).trans h
theorem PcAt.set {w : World} {r : Nat} {A : Array Value} (h : PcAt w r A) (i : Nat) (v : Value) : PcAt (w.setCell ⟨r, i, none⟩ v) r (A.setIfInBounds i v) := setCell_heap_same h i v
theorem PcAt.other {w : World} {r q : Nat} {A : Array Value} (h : PcAt w r A) (i : Nat) (v : Value) (hq : r ≠ q) : PcAt (w.setCell ⟨q, i, none⟩ v) r A := (Below.heap_setCell _ _ _ _ hq).trans h
theorem RdAt.other {w : World} {r q : Nat} {s : ByteArray} {j : Int} (h : RdAt w r s j) (i : Nat) (v : Value) (hq : r ≠ q) : RdAt (w.setCell ⟨q, i, none⟩ v) r s j := (Below.heap_setCell _ _ _ _ hq).trans h

end Go.Proofs.YtfdnhkjeoeffoaaGreatDoor
end
