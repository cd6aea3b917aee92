/- Several texts in one (D2, D3, D4, D5, D6, R0, R1, R2, R3, R4, R5, R6, R7, R8, D7, D8, D9, L1, L2, R9, L3). -/
import Derived.Test.YtkaelmbgfcehhaaDoorM2
import Derived.Lib.Repeat
import Derived.KernelRfl
import Derived.Lib.SlTrimSet
import Derived.Shelf.Strings.SlTrimAscii
import GoSem.Core.Float
set_option linter.unusedVariables false
set_option linter.unusedSimpArgs false
section
/- Package dec: rounded. -/
namespace Go.Proofs.YtkaelmbgfcehhaaDoor
open Go.RowKit
set_option linter.unusedVariables false

/-- the whole number nearest to a fraction, ties to the even one -/
def rnd (x y : Nat) : Nat := if y < 2 * (x % y) ∨ 2 * (x % y) = y ∧ x / y % 2 = 1 then x / y + 1 else x / y
theorem rnd_le (x y : Nat) : rnd x y ≤ x / y + 1 := by unfold rnd; split <;> omega

theorem Cmp_V (va vb : Value) (x y : Nat) (w : World) (ha : NatV w va x) (hb : NatV w vb y) :
    Calls Tryd.prog 95 #[va, vb] w fun e w' => e = .returned (.int .i64 (cmpN x y)) ∧ Below w.heap.size w w' := by
  obtain ⟨a, ca, rfl, ha⟩ := ha
  obtain ⟨b, cb, rfl, hb⟩ := hb
  exact Cmp_any a ca x b cb y w ha hb

theorem u32_odd (x : Nat) (hx : x < 4294967296) : bits .and .u32 (x : Int) 1 = ((x % 2 : Nat) : Int) := by
  have h3 := u32_and_nat x 1 hx (by decide)
  rw [nat_mask1] at h3
  exact h3

theorem limbs_head {q : Nat} (h : 0 < (limbs q).length) : (limbs q)[0] % 2 = q % 2 := by
  have hq : q ≠ 0 := by rintro rfl; rw [limbs_zero] at h; simp at h
  have e := limbs_pos hq
  have : (limbs q)[0] = q % B32 := by simp [e]
  rw [this, B32]; omega

set_option maxRecDepth 100000 in
set_option maxHeartbeats 4000000 in
theorem rounded_any (va vb : Value) (x y : Nat) (w : World) (hx : NatV w va x) (hy : NatV w vb y) (hX : (limbs x).length ≤ 256) (hY : (limbs (2 * y)).length ≤ 256) (hy0 : 0 < y) (hQ : (limbs (x / y + 1)).length ≤ 256) :
    Calls Tryd.prog 85 #[va, vb] w fun e w' => ∃ v, e = .returned v ∧ NatV w' v (rnd x y) ∧ Below w.heap.size w w' := by
  have hY1 : (limbs y).length ≤ 256 := limbs_le_of_le (by omega) hY
  have HX := Lib.hid hx
  have HY := Lib.hid hy
  clear hx hy
  go_enter Tryd.func85, Tryd.ntmps85
  go_wp2_with fail
  refine (Div_any va vb x y w HX.out HY.out hX hY1 hy0).mono ?_
  rintro e w1 ⟨q, r, rfl, hq, hr, hb1⟩
  have HQ := Lib.hid hq
  have HR := Lib.hid hr
  have HB1 := Lib.hid hb1
  have HY1 := Lib.hid (HY.out.below hb1)
  have hs1 := hb1.size
  clear hq hr hb1 HX HY
  go_wp2_with fail
  have hr2 : x % y * 2 ^ (Int.toNat 1) = 2 * (x % y) := by
    rw [show Int.toNat 1 = 1 from rfl, Nat.pow_one, Nat.mul_comm]
  have hrl : (limbs (2 * (x % y))).length ≤ 256 := limbs_le_of_le (by have := Nat.mod_lt x hy0; omega) hY
  have HS := shifted_any r (x % y) 1 w1 HR.out (by decide) (by decide) (by rw [hr2]; exact hrl)
  rw [hr2] at HS
  refine HS.mono ?_
  rintro e w2 ⟨v2, rfl, hn2, hb2⟩
  have HN2 := Lib.hid hn2
  have HB2 := Lib.hid (HB1.out.trans (hb2.mono hs1))
  have HQ2 := Lib.hid (HQ.out.below hb2)
  have HY2 := Lib.hid (HY1.out.below hb2)
  have hs2 := hb2.size
  clear hn2 hb2 HS HQ HR HY1 HB1 hr2 hrl
  obtain ⟨aq, cq, rfl, hlq⟩ := HQ2.out
  have hq0 : (limbs (x / y)).length ≠ 0 → ∃ b, ∃ off, aq = some ⟨b, off, none⟩ ∧ ∃ t, w2.cell? ⟨b, off, none⟩ = some (.int .u32 (t : Nat)) ∧ t < 4294967296 ∧ t % 2 = x / y % 2 := by
    intro h
    obtain ⟨b, off, e, hc⟩ := hlq.at_ 0 (by omega)
    have h0 : 0 < (limbs (x / y)).length := Nat.pos_of_ne_zero h
    have h1 := limbs_head h0
    have h2 := hlq.lt _ (List.getElem_mem h0)
    exact ⟨b, off, e, (limbs (x / y))[0], by simpa using hc, h2, h1⟩
  have hql : (limbs (x / y)).length ≤ 256 := limbs_le_of_le (Nat.div_le_self _ _) hX
  have HC := Lib.hid (Cmp_V v2 vb (2 * (x % y)) y w2 HN2.out HY2.out)
  have HADD := Lib.hid (fun (v1 : Value) (w' : World) (h : NatV w' (.slice aq (limbs (x / y)).length cq) (x / y)) (h1 : NatV w' v1 1) => Add_any _ v1 (x / y) 1 w' h h1 hql (limbs_length_le (by decide)) hQ)
  clear hQ hX hY hY1
  have hqv : Hid ((limbs (x / y)).length = 0 → x / y = 0) := fun h => limbs_eq_nil.1 (List.eq_nil_of_length_eq_zero h)
  clear hlq
  have hup : Hid (y < 2 * (x % y) → rnd x y = x / y + 1) := by
    show _ → _; intro h; unfold rnd; rw [if_pos (.inl h)]
  have hdn : Hid (2 * (x % y) < y → rnd x y = x / y) := by
    show _ → _; intro h; unfold rnd; rw [if_neg (by omega)]
  have heq1 : Hid (2 * (x % y) = y → x / y % 2 = 1 → rnd x y = x / y + 1) := by
    show _ → _; intro h h1; unfold rnd; rw [if_pos (.inr ⟨h, h1⟩)]
  have heq0 : Hid (2 * (x % y) = y → x / y % 2 = 0 → rnd x y = x / y) := by
    show _ → _; intro h h1; unfold rnd; rw [if_neg (by omega)]
  generalize hrn : rnd x y = rn at *
  have HRN := Lib.hid hrn
  clear hrn
  have hq0' : (limbs (x / y)).length = 0 ∨ 0 < (limbs (x / y)).length := Nat.eq_zero_or_pos _
  generalize limbs (x / y) = Q at *
  generalize x / y = q at *
  generalize 2 * (x % y) = r2 at *
  rcases Nat.lt_trichotomy r2 y with hlt | hlt | hlt
  · have hcm : cmpN r2 y = -1 := by simp only [cmpN]; rw [if_pos hlt]
    rw [hcm] at HC
    clear hcm
    rcases hq0' with h0 | h0
    · have hq00 : q = 0 := hqv.out h0
      rw [h0] at HQ2 HADD
      have HRN2 : Hid (rnd x y = q) := by show _ = _; rw [HRN.out]; exact hdn.out hlt
      clear HRN hup hdn heq1 heq0 hlt
      go_wp2_with fail
      refine HC.out.mono ?_
      rintro e w3 ⟨rfl, hb3⟩
      have HQ3 := Lib.hid (HQ2.out.below hb3)
      have HB3 := Lib.hid (HB2.out.trans (hb3.mono (by omega)))
      clear hb3 HQ2 HB2
      go_wp2_with fail
      go_ret
      exact ⟨_, rfl, by rw [HRN2.out]; exact HQ3.out, HB3.out⟩

    rcases Nat.mod_two_eq_zero_or_one q with hp | hp
    · obtain ⟨b, off, rfl, t, hc, ht, htq⟩ := hq0 (by omega)
      have hodd := u32_odd t ht
      rw [htq, hp] at hodd
      have HRN2 : Hid (rnd x y = q) := by show _ = _; rw [HRN.out]; exact hdn.out hlt
      clear HRN hup hdn heq1 heq0 hlt
      go_wp2_with fail
      refine HC.out.mono ?_
      rintro e w3 ⟨rfl, hb3⟩
      have HQ3 := Lib.hid (HQ2.out.below hb3)
      have HB3 := Lib.hid (HB2.out.trans (hb3.mono (by omega)))
      clear hb3 HQ2 HB2
      go_wp2_with fail
      go_ret
      exact ⟨_, rfl, by rw [HRN2.out]; exact HQ3.out, HB3.out⟩

    · obtain ⟨b, off, rfl, t, hc, ht, htq⟩ := hq0 (by omega)
      have hodd := u32_odd t ht
      rw [htq, hp] at hodd
      have HRN2 : Hid (rnd x y = q) := by show _ = _; rw [HRN.out]; exact hdn.out hlt
      clear HRN hup hdn heq1 heq0 hlt
      go_wp2_with fail
      refine HC.out.mono ?_
      rintro e w3 ⟨rfl, hb3⟩
      have HQ3 := Lib.hid (HQ2.out.below hb3)
      have HB3 := Lib.hid (HB2.out.trans (hb3.mono (by omega)))
      clear hb3 HQ2 HB2
      go_wp2_with fail
      go_ret
      exact ⟨_, rfl, by rw [HRN2.out]; exact HQ3.out, HB3.out⟩

  · have hcm : cmpN r2 y = 0 := by simp only [cmpN]; rw [if_neg (by omega), if_pos hlt]
    rw [hcm] at HC
    clear hcm
    rcases hq0' with h0 | h0
    · have hq00 : q = 0 := hqv.out h0
      rw [h0] at HQ2 HADD
      have HRN2 : Hid (rnd x y = q) := by show _ = _; rw [HRN.out]; exact heq0.out hlt (by omega)
      clear HRN hup hdn heq1 heq0 hlt
      go_wp2_with fail
      refine HC.out.mono ?_
      rintro e w3 ⟨rfl, hb3⟩
      have HQ3 := Lib.hid (HQ2.out.below hb3)
      have HB3 := Lib.hid (HB2.out.trans (hb3.mono (by omega)))
      clear hb3 HQ2 HB2
      go_wp2_with fail
      go_ret
      exact ⟨_, rfl, by rw [HRN2.out]; exact HQ3.out, HB3.out⟩

    rcases Nat.mod_two_eq_zero_or_one q with hp | hp
    · obtain ⟨b, off, rfl, t, hc, ht, htq⟩ := hq0 (by omega)
      have hodd := u32_odd t ht
      rw [htq, hp] at hodd
      have HRN2 : Hid (rnd x y = q) := by show _ = _; rw [HRN.out]; exact heq0.out hlt hp
      clear HRN hup hdn heq1 heq0 hlt
      go_wp2_with fail
      refine HC.out.mono ?_
      rintro e w3 ⟨rfl, hb3⟩
      have HQ3 := Lib.hid (HQ2.out.below hb3)
      have HB3 := Lib.hid (HB2.out.trans (hb3.mono (by omega)))
      clear hb3 HQ2 HB2
      go_wp2_with fail
      go_ret
      exact ⟨_, rfl, by rw [HRN2.out]; exact HQ3.out, HB3.out⟩

    · obtain ⟨b, off, rfl, t, hc, ht, htq⟩ := hq0 (by omega)
      have hodd := u32_odd t ht
      rw [htq, hp] at hodd
      have HRN2 : Hid (rnd x y = q + 1) := by show _ = _; rw [HRN.out]; exact heq1.out hlt hp
      clear HRN hup hdn heq1 heq0 hlt
      go_wp2_with fail
      refine HC.out.mono ?_
      rintro e w3 ⟨rfl, hb3⟩
      have HQ3 := Lib.hid (HQ2.out.below hb3)
      have HB3 := Lib.hid (HB2.out.trans (hb3.mono (by omega)))
      have hs3 := hb3.size
      clear hb3 HQ2 HB2
      go_wp2_with fail
      refine (FromV 1 1 rfl (by decide) w3).mono ?_
      rintro e w4 ⟨v4, rfl, hn4, hb4⟩
      have HN4 := Lib.hid hn4
      have HQ4 := Lib.hid (HQ3.out.below hb4)
      have HB4 := Lib.hid (HB3.out.trans (hb4.mono (by omega)))
      have hs4 := hb4.size
      clear hn4 hb4 HQ3 HB3
      go_wp2_with fail
      refine (HADD.out v4 w4 HQ4.out HN4.out).mono ?_
      rintro e w5 ⟨v5, rfl, hn5, hb5⟩
      have HN5 := Lib.hid hn5
      have HB5 := Lib.hid (HB4.out.trans (hb5.mono (by omega)))
      clear hn5 hb5 HQ4 HB4 HN4
      go_wp2_with fail
      go_ret
      exact ⟨_, rfl, by rw [HRN2.out]; exact HN5.out, HB5.out⟩

  · have hcm : cmpN r2 y = 1 := by simp only [cmpN]; rw [if_neg (by omega), if_neg (by omega)]
    rw [hcm] at HC
    clear hcm
    rcases hq0' with h0 | h0
    · have hq00 : q = 0 := hqv.out h0
      rw [h0] at HQ2 HADD
      have HRN2 : Hid (rnd x y = q + 1) := by show _ = _; rw [HRN.out]; exact hup.out hlt
      clear HRN hup hdn heq1 heq0 hlt
      go_wp2_with fail
      refine HC.out.mono ?_
      rintro e w3 ⟨rfl, hb3⟩
      have HQ3 := Lib.hid (HQ2.out.below hb3)
      have HB3 := Lib.hid (HB2.out.trans (hb3.mono (by omega)))
      have hs3 := hb3.size
      clear hb3 HQ2 HB2
      go_wp2_with fail
      refine (FromV 1 1 rfl (by decide) w3).mono ?_
      rintro e w4 ⟨v4, rfl, hn4, hb4⟩
      have HN4 := Lib.hid hn4
      have HQ4 := Lib.hid (HQ3.out.below hb4)
      have HB4 := Lib.hid (HB3.out.trans (hb4.mono (by omega)))
      have hs4 := hb4.size
      clear hn4 hb4 HQ3 HB3
      go_wp2_with fail
      refine (HADD.out v4 w4 HQ4.out HN4.out).mono ?_
      rintro e w5 ⟨v5, rfl, hn5, hb5⟩
      have HN5 := Lib.hid hn5
      have HB5 := Lib.hid (HB4.out.trans (hb5.mono (by omega)))
      clear hn5 hb5 HQ4 HB4 HN4
      go_wp2_with fail
      go_ret
      exact ⟨_, rfl, by rw [HRN2.out]; exact HN5.out, HB5.out⟩

    rcases Nat.mod_two_eq_zero_or_one q with hp | hp
    · obtain ⟨b, off, rfl, t, hc, ht, htq⟩ := hq0 (by omega)
      have hodd := u32_odd t ht
      rw [htq, hp] at hodd
      have HRN2 : Hid (rnd x y = q + 1) := by show _ = _; rw [HRN.out]; exact hup.out hlt
      clear HRN hup hdn heq1 heq0 hlt
      go_wp2_with fail
      refine HC.out.mono ?_
      rintro e w3 ⟨rfl, hb3⟩
      have HQ3 := Lib.hid (HQ2.out.below hb3)
      have HB3 := Lib.hid (HB2.out.trans (hb3.mono (by omega)))
      have hs3 := hb3.size
      clear hb3 HQ2 HB2
      go_wp2_with fail
      refine (FromV 1 1 rfl (by decide) w3).mono ?_
      rintro e w4 ⟨v4, rfl, hn4, hb4⟩
      have HN4 := Lib.hid hn4
      have HQ4 := Lib.hid (HQ3.out.below hb4)
      have HB4 := Lib.hid (HB3.out.trans (hb4.mono (by omega)))
      have hs4 := hb4.size
      clear hn4 hb4 HQ3 HB3
      go_wp2_with fail
      refine (HADD.out v4 w4 HQ4.out HN4.out).mono ?_
      rintro e w5 ⟨v5, rfl, hn5, hb5⟩
      have HN5 := Lib.hid hn5
      have HB5 := Lib.hid (HB4.out.trans (hb5.mono (by omega)))
      clear hn5 hb5 HQ4 HB4 HN4
      go_wp2_with fail
      go_ret
      exact ⟨_, rfl, by rw [HRN2.out]; exact HN5.out, HB5.out⟩

    · obtain ⟨b, off, rfl, t, hc, ht, htq⟩ := hq0 (by omega)
      have hodd := u32_odd t ht
      rw [htq, hp] at hodd
      have HRN2 : Hid (rnd x y = q + 1) := by show _ = _; rw [HRN.out]; exact hup.out hlt
      clear HRN hup hdn heq1 heq0 hlt
      go_wp2_with fail
      refine HC.out.mono ?_
      rintro e w3 ⟨rfl, hb3⟩
      have HQ3 := Lib.hid (HQ2.out.below hb3)
      have HB3 := Lib.hid (HB2.out.trans (hb3.mono (by omega)))
      have hs3 := hb3.size
      clear hb3 HQ2 HB2
      go_wp2_with fail
      refine (FromV 1 1 rfl (by decide) w3).mono ?_
      rintro e w4 ⟨v4, rfl, hn4, hb4⟩
      have HN4 := Lib.hid hn4
      have HQ4 := Lib.hid (HQ3.out.below hb4)
      have HB4 := Lib.hid (HB3.out.trans (hb4.mono (by omega)))
      have hs4 := hb4.size
      clear hn4 hb4 HQ3 HB3
      go_wp2_with fail
      refine (HADD.out v4 w4 HQ4.out HN4.out).mono ?_
      rintro e w5 ⟨v5, rfl, hn5, hb5⟩
      have HN5 := Lib.hid hn5
      have HB5 := Lib.hid (HB4.out.trans (hb5.mono (by omega)))
      clear hn5 hb5 HQ4 HB4 HN4
      go_wp2_with fail
      go_ret
      exact ⟨_, rfl, by rw [HRN2.out]; exact HN5.out, HB5.out⟩

end Go.Proofs.YtkaelmbgfcehhaaDoor
end

section
/- Package dec: nearest. -/
namespace Go.Proofs.YtkaelmbgfcehhaaDoor
open Go.RowKit
set_option linter.unusedVariables false

@[go_sem] theorem callFfb (n : Int) (w : World) : (callFunc 76 #[.int .u64 n]).run Tryd.prog w = .ok (.value (.float .f64 n.toNat)) w := by
  rw [run_callFunc_extern Tryd.func76 (by kernel_rfl) (by kernel_rfl) (by kernel_rfl) (e := Extern.MathFloatBits.float64frombits) (by kernel_rfl)]
  rfl
@[go_sem] theorem callFb (b : Nat) (w : World) : (callFunc 25 #[.float .f64 b]).run Tryd.prog w = .ok (.value (.int .u64 b)) w := by
  rw [run_callFunc_extern Tryd.func25 (by kernel_rfl) (by kernel_rfl) (by kernel_rfl) (e := Extern.MathFloatBits.float64bits) (by kernel_rfl)]
  rfl

/-- a fraction over 2^e, rounded down -/
def qat (x y : Nat) (e : Int) : Nat := x * 2 ^ (-e).toNat / (y * 2 ^ e.toNat)
def e0 (x y : Nat) : Int := max ((nbits x : Int) - nbits y - 54) (-1074)
/-- E is the least exponent from e0 on at which the quotient has 53 bits -/
structure LeastE (x y : Nat) (E : Int) : Prop where
  ge : e0 x y ≤ E
  bits : nbits (qat x y E) ≤ 53
  least : ∀ e, e0 x y ≤ e → e < E → ¬ nbits (qat x y e) ≤ 53
/-- the bits of the float -/
def nearBits (x y : Nat) (E : Int) : Nat := min ((E + 1074).toNat * 2 ^ 52 + rnd (x * 2 ^ (-E).toNat) (y * 2 ^ E.toNat)) 9218868437227405312

theorem nbits_lt {n k : Nat} (h : n < 2 ^ k) : nbits n ≤ k := nbits_le.2 h
theorem limbs_of_bits {n : Nat} (h : nbits n ≤ 8192) : (limbs n).length ≤ 256 := by
  refine limbs_length_le ?_
  have h2 : nbits n ≤ 32 * 256 := by omega
  exact Nat.lt_of_lt_of_eq (nbits_le.1 h2) (b32_pow 256).symm
theorem nbits_add {a b k : Nat} (ha : nbits a ≤ k) (h : b ≤ a + 1) : nbits b ≤ k + 1 := by
  refine nbits_le.2 ?_
  have h1 := nbits_le.1 ha
  rw [Nat.pow_succ]
  omega
theorem nbits_shift {n k m : Nat} (h : nbits n + k ≤ m) : nbits (n * 2 ^ k) ≤ m := by
  refine nbits_le.2 ?_
  have h1 := nbits_le.1 (Nat.le_refl (nbits n))
  have h2 : n * 2 ^ k < 2 ^ nbits n * 2 ^ k := Nat.mul_lt_mul_of_pos_right h1 (Nat.pow_pos (by decide))
  rw [← Nat.pow_add] at h2
  exact Nat.lt_of_lt_of_le h2 (Nat.pow_le_pow_right (by decide) h)
theorem nbits_mono {a b : Nat} (h : a ≤ b) : nbits a ≤ nbits b := nbits_le.2 (Nat.lt_of_le_of_lt h (nbits_le.1 (Nat.le_refl _)))

theorem Bits_V (va : Value) (n : Nat) (w : World) (h : NatV w va n) (hl : (limbs n).length ≤ 256) :
    Calls Tryd.prog 81 #[va] w fun e w' => e = .returned (.int .i64 (nbits n : Nat)) ∧ w = w' := by
  obtain ⟨a, ca, rfl, ha⟩ := h
  exact Bits_any a ca n w ha hl

/-- the quotient's bits fall to 53 -/
theorem bits_qat {x y : Nat} {e : Int} (hy : 0 < y) (he : (nbits x : Int) - nbits y - 52 ≤ e) : nbits (qat x y e) ≤ 53 := by
  refine nbits_le.2 ?_
  unfold qat
  have hx := nbits_le.1 (Nat.le_refl (nbits x))
  have hy1 : 2 ^ (nbits y - 1) ≤ y := by
    rcases Nat.lt_or_ge y (2 ^ (nbits y - 1)) with h | h
    · have h1 := nbits_le.2 h
      have h2 : nbits y ≠ 0 := fun h3 => by have := nbits_le.1 (Nat.le_of_eq h3); simp at this; omega
      omega
    · exact h
  have h2 : nbits y ≠ 0 := fun h3 => by have := nbits_le.1 (Nat.le_of_eq h3); simp at this; omega
  rw [Nat.div_lt_iff_lt_mul (Nat.mul_pos hy (Nat.pow_pos (by decide)))]
  have h3 : x * 2 ^ (-e).toNat < 2 ^ (nbits x + (-e).toNat) := by
    rw [Nat.pow_add]; exact Nat.mul_lt_mul_of_pos_right hx (Nat.pow_pos (by decide))
  have h4 : 2 ^ (53 + (nbits y - 1) + e.toNat) ≤ 2 ^ 53 * (y * 2 ^ e.toNat) := by
    rw [Nat.pow_add, Nat.pow_add, Nat.mul_assoc]
    exact Nat.mul_le_mul_left _ (Nat.mul_le_mul_right _ hy1)
  refine Nat.lt_of_lt_of_le h3 (Nat.le_trans (Nat.pow_le_pow_right (by decide) ?_) h4)
  omega

theorem minN (k c R m : Nat) : (min ((k : Int) * (c : Int) + (R : Int)) (m : Int)).toNat = min (k * c + R) m := by
  have : (k : Int) * (c : Int) + (R : Int) = ((k * c + R : Nat) : Int) := by simp
  rw [this]; omega

set_option maxRecDepth 100000 in
set_option maxHeartbeats 1000000 in
theorem nearest_any (va vb : Value) (x y : Nat) (w : World) (hx : NatV w va x) (hy : NatV w vb y) (hy0 : 0 < y) (hX : nbits x ≤ 7000) (hY : nbits y ≤ 7000) (hV : (nbits x : Int) - nbits y ≤ 1100) :
    Calls Tryd.prog 68 #[va, vb] w fun e w' => ∃ E, LeastE x y E ∧ e = .returned (.float .f64 (nearBits x y E)) ∧ Below w.heap.size w w' := by
  have HX := Lib.hid hx
  have HY := Lib.hid hy
  have B1 := Lib.hid (Bits_V va x w hx (limbs_of_bits (by omega)))
  have B2 := Lib.hid (Bits_V vb y w hy (limbs_of_bits (by omega)))
  clear hx hy
  obtain ⟨M, hM⟩ : ∃ M : Int, M = max ((nbits x : Int) - nbits y - 52) (-1074) := ⟨_, rfl⟩
  obtain ⟨ee, hee⟩ : ∃ ee, ee = e0 x y := ⟨_, rfl⟩
  have hee' : ee = max ((nbits x : Int) - nbits y - 54) (-1074) := hee
  have hQL : ∀ e : Int, ee ≤ e → (limbs (x * 2 ^ (-e).toNat)).length ≤ 256 := by
    intro e he
    exact limbs_of_bits (nbits_shift (by omega))
  have hDL : ∀ e : Int, e ≤ M → (limbs (2 * (y * 2 ^ e.toNat))).length ≤ 256 := by
    intro e he
    rw [show 2 * (y * 2 ^ e.toNat) = y * 2 ^ (e.toNat + 1) by rw [Nat.pow_succ]; ac_rfl]
    exact limbs_of_bits (nbits_shift (by omega))
  have HSX : Hid (∀ (e : Int) (W : World), ee ≤ e → e ≤ M → NatV W va x → Calls Tryd.prog 83 #[va, .int .i64 (-e)] W fun r W' => ∃ v, r = .returned v ∧ NatV W' v (x * 2 ^ (-e).toNat) ∧ Below W.heap.size W W') :=
    fun e W h1 h2 h => shifted_any va x (-e) W h (by omega) (by omega) (hQL e h1)
  have HSY : Hid (∀ (e : Int) (W : World), ee ≤ e → e ≤ M → NatV W vb y → Calls Tryd.prog 83 #[vb, .int .i64 e] W fun r W' => ∃ v, r = .returned v ∧ NatV W' v (y * 2 ^ e.toNat) ∧ Below W.heap.size W W') :=
    fun e W h1 h2 h => shifted_any vb y e W h (by omega) (by omega) (limbs_le_of_le (by omega) (hDL e h2))
  have HDV : Hid (∀ (e : Int) (W : World) (v2 v3 : Value), ee ≤ e → e ≤ M → NatV W v2 (x * 2 ^ (-e).toNat) → NatV W v3 (y * 2 ^ e.toNat) → Calls Tryd.prog 82 #[v2, v3] W fun r W' => ∃ q r', r = .returned (.tuple #[q, r', .int .i64 0]) ∧ NatV W' q (qat x y e) ∧ Below W.heap.size W W') :=
    fun e W v2 v3 h1 h2 h3 h4 => (Div_any v2 v3 _ _ W h3 h4 (hQL e h1) (limbs_le_of_le (by omega) (hDL e h2)) (Nat.mul_pos hy0 (Nat.pow_pos (by decide)))).mono (by
      rintro r W' ⟨q, r', rfl, hq, _, hb⟩
      exact ⟨q, r', rfl, hq, hb⟩)
  have HRD : Hid (∀ (e : Int) (W : World) (v2 v3 : Value), ee ≤ e → e ≤ M → NatV W v2 (x * 2 ^ (-e).toNat) → NatV W v3 (y * 2 ^ e.toNat) → nbits (qat x y e) ≤ 53 → Calls Tryd.prog 85 #[v2, v3] W fun r W' => ∃ v, r = .returned v ∧ NatV W' v (rnd (x * 2 ^ (-e).toNat) (y * 2 ^ e.toNat)) ∧ Below W.heap.size W W') :=
    fun e W v2 v3 h1 h2 h3 h4 h5 => rounded_any v2 v3 _ _ W h3 h4 (hQL e h1) (hDL e h2) (Nat.mul_pos hy0 (Nat.pow_pos (by decide))) (limbs_of_bits (Nat.le_trans (nbits_add (a := qat x y e) h5 (Nat.le_refl _)) (by decide)))
  have HBT : Hid (∀ (e : Int) (W : World) (q : Value), ee ≤ e → NatV W q (qat x y e) → Calls Tryd.prog 81 #[q] W fun r W' => r = .returned (.int .i64 (nbits (qat x y e) : Nat)) ∧ W = W') :=
    fun e W q h1 h => Bits_V q _ W h (limbs_le_of_le (Nat.div_le_self _ _) (hQL e h1))
  have hNB : Hid (∀ e : Int, ee ≤ e → nbits (qat x y e) ≤ 8192) := fun e h1 => by
    have h2 : qat x y e < B32 ^ 256 := lt_of_limbs_length (limbs_le_of_le (Nat.div_le_self _ _) (hQL e h1))
    have h3 : nbits (qat x y e) ≤ 32 * 256 := nbits_le.2 (Nat.lt_of_lt_of_eq h2 (b32_pow 256))
    omega
  have HFIN : Hid (∀ e : Int, M ≤ e → nbits (qat x y e) ≤ 53) := fun e h => bits_qat hy0 (by omega)
  have heM : ee ≤ M := by omega
  have hee1 : -1074 ≤ ee := by omega
  have hM1 : M ≤ 1048 := by omega
  have HEE := Lib.hid hee
  obtain ⟨bx, hbx⟩ : ∃ bx, bx = nbits x := ⟨_, rfl⟩
  obtain ⟨by', hby⟩ : ∃ b, b = nbits y := ⟨_, rfl⟩
  have em : max ((bx : Int) - by' - 54) (-1074) = ee := by rw [hee', hbx, hby]
  rw [← hbx] at B1 hX
  rw [← hby] at B2 hY
  clear hbx hby hee hee' hM hQL hDL hV
  go_enter Tryd.func68, Tryd.ntmps68
  go_wp2_with fail
  refine B1.out.mono ?_
  rintro e w1 ⟨rfl, rfl⟩
  go_wp2_with fail
  refine B2.out.mono ?_
  rintro e w1 ⟨rfl, rfl⟩
  clear B1 B2
  go_wp2_with fail
  clear em hX hY
  have HB := Lib.hid (Below.refl w.heap.size w)
  refine (HSX.out ee w (Int.le_refl _) heM HX.out).mono ?_
  rintro e w2 ⟨v2, rfl, hn2, hb2⟩
  have HN2 := Lib.hid hn2
  have HX2 := Lib.hid (HX.out.below hb2)
  have HY2 := Lib.hid (HY.out.below hb2)
  have HB2 := Lib.hid (HB.out.trans (hb2.mono (Nat.le_refl _)))
  have hs2 := hb2.size
  clear hn2 hb2 HX HY HB
  go_wp2_with fail
  refine (HSY.out ee w2 (Int.le_refl _) heM HY2.out).mono ?_
  rintro e w3 ⟨v3, rfl, hn3, hb3⟩
  have HN3 := Lib.hid hn3
  have HN2' := Lib.hid (HN2.out.below hb3)
  have HX3 := Lib.hid (HX2.out.below hb3)
  have HY3 := Lib.hid (HY2.out.below hb3)
  have HB3 := Lib.hid (HB2.out.trans (hb3.mono (by omega)))
  have hs3 := hb3.size
  clear hn3 hb3 HX2 HY2 HB2 HN2
  go_wp2_with fail
  refine (HDV.out ee w3 v2 v3 (Int.le_refl _) heM HN2'.out HN3.out).mono ?_
  rintro e w4 ⟨q, r, rfl, hq, hb4⟩
  have HQ4 := Lib.hid hq
  have HX4 := Lib.hid (HX3.out.below hb4)
  have HY4 := Lib.hid (HY3.out.below hb4)
  have HB4 := Lib.hid (HB3.out.trans (hb4.mono (by omega)))
  have hs4 := hb4.size
  clear hq hb4 HX3 HY3 HB3 HN2' HN3
  go_wp2_with fail
  go_loopw [5, 6] (fun ev qv wr => ∃ (e : Int), ee ≤ e ∧ e ≤ M ∧ ev = .int .i64 e ∧ NatV wr qv (qat x y e) ∧ NatV wr va x ∧ NatV wr vb y ∧ Below w.heap.size w wr ∧ w.heap.size ≤ wr.heap.size ∧ ∀ e', ee ≤ e' → e' < e → ¬ nbits (qat x y e') ≤ 53) (fun ev _ _ => (M - intOf ev).toNat)
  case atStart => exact ⟨ee, Int.le_refl _, heM, rfl, HQ4.out, HX4.out, HY4.out, HB4.out, by omega, by intro e' h1 h2; omega⟩
  case round =>
    obtain ⟨e, he1, he2, rfl, hq, hx, hy, hb, hws, hl⟩ := hrel
    have HX := Lib.hid hx; have HY := Lib.hid hy; have HB := Lib.hid hb; have HL := Lib.hid hl
    have HBQ := Lib.hid (HBT.out e wr _ he1 hq)
    have hbb := hNB.out e he1
    have hfin := HFIN.out e
    clear hq hx hy hb hl HQ4 HX4 HY4 HB4 hs2 hs3 hs4
    obtain ⟨nb, hnb⟩ : ∃ nb, nb = nbits (qat x y e) := ⟨_, rfl⟩
    rw [← hnb] at HBQ hfin hbb
    have HNB := Lib.hid hnb
    clear hnb
    go_wp2_with fail
    refine HBQ.out.mono ?_
    rintro e' w1 ⟨rfl, rfl⟩
    clear HBQ
    by_cases h53 : 53 < nb
    · have h53' : (53 : Int) < (nb : Int) := by omega
      have hne : ¬ M ≤ e := fun h => by have := hfin h; omega
      clear hfin
      obtain ⟨f, hf⟩ : ∃ f, f = e + 1 := ⟨_, rfl⟩
      have hf1 : ee ≤ f := by omega
      have hf2 : f ≤ M := by omega
      have HL2 : Hid (∀ e', ee ≤ e' → e' < f → ¬ nbits (qat x y e') ≤ 53) := by
        show ∀ e', _ → _ → _
        intro e' h1 h2
        rcases Int.lt_or_eq_of_le (show e' ≤ e by omega) with h | h
        · exact HL.out e' h1 h
        · rw [h, ← HNB.out]; omega
      have hef : e + 1 = f := hf.symm
      clear hf HL
      go_wp2_with fail
      refine (HSX.out f wr hf1 hf2 HX.out).mono ?_
      rintro e w2 ⟨v2, rfl, hn2, hb2⟩
      have HN2 := Lib.hid hn2
      have HX2 := Lib.hid (HX.out.below hb2)
      have HY2 := Lib.hid (HY.out.below hb2)
      have HB2 := Lib.hid (HB.out.trans (hb2.mono hws))
      have hs2 := hb2.size
      clear hn2 hb2 HX HY HB
      go_wp2_with fail
      refine (HSY.out f w2 hf1 hf2 HY2.out).mono ?_
      rintro e w3 ⟨v3, rfl, hn3, hb3⟩
      have HN3 := Lib.hid hn3
      have HN2' := Lib.hid (HN2.out.below hb3)
      have HX3 := Lib.hid (HX2.out.below hb3)
      have HY3 := Lib.hid (HY2.out.below hb3)
      have HB3 := Lib.hid (HB2.out.trans (hb3.mono (by omega)))
      have hs3 := hb3.size
      clear hn3 hb3 HX2 HY2 HB2 HN2
      go_wp2_with fail
      refine (HDV.out f w3 v2 v3 hf1 hf2 HN2'.out HN3.out).mono ?_
      rintro e w4 ⟨q, r, rfl, hq, hb4⟩
      have HQ4 := Lib.hid hq
      have HX4 := Lib.hid (HX3.out.below hb4)
      have HY4 := Lib.hid (HY3.out.below hb4)
      have HB4 := Lib.hid (HB3.out.trans (hb4.mono (by omega)))
      have hs4 := hb4.size
      clear hq hb4 HX3 HY3 HB3 HN2' HN3
      go_wp2_with fail
      go_roundw
      case rel => exact ⟨f, hf1, hf2, rfl, HQ4.out, HX4.out, HY4.out, HB4.out, by omega, HL2.out⟩
      case measure => simp [intOf]; omega
    · have h53' : ¬ (53 : Int) < (nb : Int) := by omega
      have hb53 : nbits (qat x y e) ≤ 53 := by rw [← HNB.out]; omega
      have HE : Hid (LeastE x y e) := ⟨by rw [← HEE.out]; exact he1, hb53, by rw [← HEE.out]; exact HL.out⟩
      have HB53 := Lib.hid hb53
      clear hfin HL hb53
      obtain ⟨k, hk⟩ : ∃ k : Nat, e + 1074 = (k : Int) := ⟨(e + 1074).toNat, by omega⟩
      go_wp2_with fail
      refine (HSX.out e wr he1 he2 HX.out).mono ?_
      rintro e w2 ⟨v2, rfl, hn2, hb2⟩
      have HN2 := Lib.hid hn2
      have HX2 := Lib.hid (HX.out.below hb2)
      have HY2 := Lib.hid (HY.out.below hb2)
      have HB2 := Lib.hid (HB.out.trans (hb2.mono hws))
      have hs2 := hb2.size
      clear hn2 hb2 HX HY HB
      go_wp2_with fail
      refine (HSY.out e w2 he1 he2 HY2.out).mono ?_
      rintro e w3 ⟨v3, rfl, hn3, hb3⟩
      have HN3 := Lib.hid hn3
      have HN2' := Lib.hid (HN2.out.below hb3)
      have HX3 := Lib.hid (HX2.out.below hb3)
      have HY3 := Lib.hid (HY2.out.below hb3)
      have HB3 := Lib.hid (HB2.out.trans (hb3.mono (by omega)))
      have hs3 := hb3.size
      clear hn3 hb3 HX2 HY2 HB2 HN2
      go_wp2_with fail
      refine (HRD.out e w3 v2 v3 he1 he2 HN2'.out HN3.out HB53.out).mono ?_
      rintro e' w4 ⟨v4, rfl, hn4, hb4⟩
      have HN4 := Lib.hid hn4
      have HB4 := Lib.hid (HB3.out.trans (hb4.mono (by omega)))
      clear hn4 hb4 HX3 HY3 HB3 HN2' HN3
      go_wp2_with fail
      have hRle := rnd_le (x * 2 ^ (-e).toNat) (y * 2 ^ e.toNat)
      have hq53 := nbits_le.1 HB53.out
      have hNBR : Hid (nearBits x y e = min (k * 4503599627370496 + rnd (x * 2 ^ (-e).toNat) (y * 2 ^ e.toNat)) 9218868437227405312) := by
        show _ = _
        unfold nearBits
        rw [hk]; rfl
      have hR53 : rnd (x * 2 ^ (-e).toNat) (y * 2 ^ e.toNat) ≤ 9007199254740992 := by
        unfold qat at hq53
        have : (2 : Nat) ^ 53 = 9007199254740992 := by decide
        omega
      clear hRle hq53
      generalize rnd (x * 2 ^ (-e).toNat) (y * 2 ^ e.toNat) = R at *
      have hRW : R % 18446744073709551616 = R := Nat.mod_eq_of_lt (by omega)
      have HW := word_any v4 R w4 HN4.out (limbs_length_le (Nat.lt_of_le_of_lt hR53 (by decide)))
      rw [hRW] at HW
      refine HW.mono ?_
      rintro e' w5 ⟨rfl, rfl⟩
      clear HW hRW
      go_wp2_with fail
      go_ret
      have hfin : (min ((k : Int) * 4503599627370496 + (R : Int)) 9218868437227405312).toNat = min (k * 4503599627370496 + R) 9218868437227405312 := minN k 4503599627370496 R 9218868437227405312
      exact ⟨e, HE.out, by rw [hNBR.out, ← hfin]; rfl, HB4.out⟩
end Go.Proofs.YtkaelmbgfcehhaaDoor
end

section
/- Package dec: Parts, scaled. -/
namespace Go.Proofs.YtkaelmbgfcehhaaDoor
open Go.RowKit
set_option linter.unusedVariables false

/-- a float's bits: natural, power of two, is it finite -/
def mant (b : Nat) : Nat := if b % 9223372036854775808 / 4503599627370496 = 2047 then 0 else if b % 9223372036854775808 / 4503599627370496 = 0 then b % 4503599627370496 else b % 4503599627370496 + 4503599627370496
def expo (b : Nat) : Int := if b % 9223372036854775808 / 4503599627370496 = 2047 then 0 else if b % 9223372036854775808 / 4503599627370496 = 0 then -1074 else (b % 9223372036854775808 / 4503599627370496 : Nat) - 1075
def fin (b : Nat) : Bool := !(b % 9223372036854775808 / 4503599627370496 == 2047)

theorem mask63 (b : Nat) (h : b < 18446744073709551616) : bits .andNot .u64 (b : Int) 9223372036854775808 = ((b % 9223372036854775808 : Nat) : Int) := by
  have h3 := u64_andNot_nat b 9223372036854775808 h (by decide)
  rw [show 18446744073709551615 - 9223372036854775808 = 2 ^ 63 - 1 by decide, Nat.and_two_pow_sub_one_eq_mod] at h3
  exact h3
theorem mask52 (b : Nat) (h : b < 18446744073709551616) : bits .and .u64 (b : Int) 4503599627370495 = ((b % 4503599627370496 : Nat) : Int) := by
  have h3 := u64_and_nat b 4503599627370495 h (by decide)
  rw [show (4503599627370495 : Nat) = 2 ^ 52 - 1 by decide, Nat.and_two_pow_sub_one_eq_mod] at h3
  exact h3
theorem or52 (m : Nat) (h : m < 4503599627370496) : bits .or .u64 (m : Int) 4503599627370496 = ((m + 4503599627370496 : Nat) : Int) := by
  have h3 := u64_or_nat m 4503599627370496 (by omega) (by decide)
  rw [Nat.or_comm, nat_join 52 4503599627370496 m (by decide) h, Nat.add_comm] at h3
  exact h3

theorem pow10_bits {j : Nat} (h : j ≤ 600) : nbits (10 ^ j) ≤ 2000 := by
  have h1 : nbits (10 ^ j) ≤ 10 * 200 := nbits_le.2 (Nat.lt_of_le_of_lt (p10_le (b := 3 * 200) (by omega)) (thousand (i := 200) (by decide)))
  omega
theorem nbits_mul {a b i j k : Nat} (ha : nbits a ≤ i) (hb : nbits b ≤ j) (hk : i + j ≤ k) : nbits (a * b) ≤ k := by
  refine nbits_le.2 (Nat.lt_of_lt_of_le ?_ (Nat.pow_le_pow_right (by decide) hk))
  rw [Nat.pow_add]
  have h1 := nbits_le.1 ha
  have h2 := nbits_le.1 hb
  calc a * b ≤ a * 2 ^ j := Nat.mul_le_mul_left _ (Nat.le_of_lt h2)
    _ < 2 ^ i * 2 ^ j := Nat.mul_lt_mul_of_pos_right h1 (Nat.pow_pos (by decide))
theorem two_pow_bits (j : Nat) : nbits (2 ^ j) ≤ j + 1 := nbits_le.2 (Nat.pow_lt_pow_right (by decide) (by omega))

end Go.Proofs.YtkaelmbgfcehhaaDoor
end

section
/- Package dec: Fixed. -/
namespace Go.Proofs.YtkaelmbgfcehhaaDoor
open Go.RowKit
set_option linter.unusedVariables false

def fixedL (l : List UInt8) (p : Nat) : List UInt8 :=
  let q := if l.length ≤ p then List.replicate (p + 1 - l.length) 48 ++ l else l
  if 0 < p then q.take (q.length - p) ++ 46 :: q.drop (q.length - p) else q
/-- the natural that Fixed writes -/
def scaledN (b : Nat) (k : Int) : Nat := rnd (mant b * 10 ^ k.toNat * 2 ^ (expo b).toNat) (10 ^ (-k).toNat * 2 ^ (-(expo b)).toNat)

theorem digVal_from (l : List UInt8) (n : Nat) : l.foldl (fun n c => 10 * n + (c.toNat - 48)) n = n * 10 ^ l.length + digVal l := by
  induction l generalizing n with
  | nil => simp [digVal]
  | cons c l ih =>
    have h1 := ih (10 * n + (c.toNat - 48))
    have h2 := ih (10 * 0 + (c.toNat - 48))
    simp only [digVal, List.foldl_cons, List.length_cons, Nat.pow_succ] at *
    rw [h1, h2, Nat.add_mul]
    simp only [Nat.mul_zero, Nat.zero_add]
    rw [← Nat.add_assoc]; congr 2; ac_rfl
theorem digVal_cons (c : UInt8) (l : List UInt8) : digVal (c :: l) = (c.toNat - 48) * 10 ^ l.length + digVal l := by
  have := digVal_from l (10 * 0 + (c.toNat - 48))
  simpa [digVal] using this
theorem digVal_lt {l : List UInt8} (h : Digits l) : digVal l < 10 ^ l.length := by
  induction l with
  | nil => simp [digVal]
  | cons c l ih =>
    have h1 := h c (by simp)
    have h2 := ih (fun x hx => h x (by simp [hx]))
    rw [digVal_cons, List.length_cons, Nat.pow_succ]
    have h3 : (c.toNat - 48) * 10 ^ l.length ≤ 9 * 10 ^ l.length := Nat.mul_le_mul_right _ (by omega)
    omega
theorem canon_len {l : List UInt8} {x k : Nat} (h : Canon l x) (hx : x < 10 ^ k) (hk : 0 < k) : l.length ≤ k := by
  rcases l with _ | ⟨c, r⟩
  · simp
  · rcases Nat.eq_zero_or_pos r.length with h0 | h0
    · simp; omega
    · have h1 := h.dig c (by simp)
      have h2 : c.toNat ≠ 48 := fun e => by
        have := h.top c r rfl e
        rw [this] at h0; simp at h0
      have h3 := h.val
      rw [digVal_cons] at h3
      have h4 : 1 * 10 ^ r.length ≤ (c.toNat - 48) * 10 ^ r.length := Nat.mul_le_mul_right _ (by omega)
      rcases Nat.lt_or_ge r.length k with h5 | h5
      · exact h5
      · have := Nat.pow_le_pow_right (n := 10) (by decide) h5
        omega
theorem mant_lt (b : Nat) : mant b < 9007199254740992 := by
  unfold mant; split
  · omega
  · split <;> omega
theorem expo_bounds {b : Nat} : -1074 ≤ expo b ∧ expo b ≤ 971 := by
  unfold expo; split
  · omega
  · split <;> omega

theorem scaledN_lt {b : Nat} {k : Int} (h1 : -600 ≤ k) (h2 : k ≤ 600) : nbits (scaledN b k) ≤ 4001 := by
  have hm := mant_lt b
  have he := expo_bounds (b := b)
  have hmb : nbits (mant b) ≤ 53 := nbits_le.2 (by rw [show (2 : Nat) ^ 53 = 9007199254740992 by decide]; exact hm)
  have hn : nbits (mant b * 10 ^ k.toNat) ≤ 2064 := nbits_mul hmb (pow10_bits (by omega)) (by omega)
  have hX : nbits (mant b * 10 ^ k.toNat * 2 ^ (expo b).toNat) ≤ 4000 := nbits_shift (by omega)
  exact nbits_add (k := 4000) hX (Nat.le_trans (rnd_le _ _) (Nat.succ_le_succ (Nat.div_le_self _ _)))
end Go.Proofs.YtkaelmbgfcehhaaDoor
end

section
/- Package dec: Fixed. -/
namespace Go.Proofs.YtkaelmbgfcehhaaDoor
open Go.RowKit
set_option linter.unusedVariables false

theorem point_list (s : ByteArray) (k n : Nat) (hn : s.data.toList.length = n) : (s.extract 0 k ++ ⟨#[46]⟩ ++ s.extract k n).data.toList = s.data.toList.take k ++ 46 :: s.data.toList.drop k := by
  have h2 : List.take (n - k) (List.drop k s.data.toList) = List.drop k s.data.toList := List.take_of_length_le (by rw [List.length_drop]; omega)
  simp [ByteArray.data_append, ByteArray.data_extract, List.extract_eq_take_drop, h2]
theorem repeatL_one (x : UInt8) : ∀ c, Lib.repeatL [x] c = List.replicate c x
  | 0 => rfl
  | c + 1 => by rw [Lib.repeatL, repeatL_one x c]; rfl

end Go.Proofs.YtkaelmbgfcehhaaDoor
end

section
/- Plain: the nearest whole number to a fraction. -/
namespace Go.Proofs.YtkaelmbgfcehhaaDoor

theorem rnd_spec {x y : Nat} (hy : 0 < y) : 2 * x ≤ (2 * rnd x y + 1) * y ∧ 2 * rnd x y * y ≤ 2 * x + y := by
  have h := Nat.div_add_mod x y
  have hm := Nat.mod_lt x hy
  unfold rnd
  generalize x / y = q at *
  generalize x % y = r at *
  have e1 : (2 * (q + 1) + 1) * y = 2 * (y * q) + 3 * y := by rw [Nat.add_mul, Nat.mul_assoc, Nat.add_mul, Nat.mul_comm q y]; omega
  have e2 : 2 * (q + 1) * y = 2 * (y * q) + 2 * y := by rw [Nat.mul_assoc, Nat.add_mul, Nat.mul_comm q y]; omega
  have e3 : (2 * q + 1) * y = 2 * (y * q) + y := by rw [Nat.add_mul, Nat.mul_assoc, Nat.mul_comm q y]; omega
  have e4 : 2 * q * y = 2 * (y * q) := by rw [Nat.mul_assoc, Nat.mul_comm q y]
  split
  · rw [e1, e2]; omega
  · rw [e3, e4]; omega
theorem rnd_ge {x y n : Nat} (hy : 0 < y) (h : n * y ≤ x) : n ≤ rnd x y := by
  have h1 : n ≤ x / y := (Nat.le_div_iff_mul_le hy).2 h
  unfold rnd; split <;> omega
theorem rnd_le_of {x y n : Nat} (hy : 0 < y) (h : x ≤ n * y) : rnd x y ≤ n := by
  rcases Nat.lt_or_ge n (rnd x y) with h1 | h1
  · exfalso
    have h2 := (rnd_spec (x := x) hy).2
    have h3 : 2 * (n + 1) * y ≤ 2 * rnd x y * y := Nat.mul_le_mul_right _ (Nat.mul_le_mul_left _ h1)
    have e : 2 * (n + 1) * y = 2 * (n * y) + 2 * y := by rw [Nat.mul_assoc, Nat.add_mul]; omega
    omega
  · exact h1

theorem rnd_scale (c x y : Nat) (hc : 0 < c) : rnd (c * x) (c * y) = rnd x y := by
  unfold rnd
  rw [Nat.mul_div_mul_left _ _ hc, Nat.mul_mod_mul_left]
  have e : 2 * (c * (x % y)) = c * (2 * (x % y)) := by ac_rfl
  rw [e]
  have h1 : c * y < c * (2 * (x % y)) ↔ y < 2 * (x % y) := Nat.mul_lt_mul_left hc
  have h2 : c * (2 * (x % y)) = c * y ↔ 2 * (x % y) = y := Nat.mul_right_inj (by omega)
  simp only [h1, h2]
theorem rnd_same {x y x' y' : Nat} (hy : 0 < y) (hy' : 0 < y') (h : x * y' = x' * y) : rnd x y = rnd x' y' := by
  rw [← rnd_scale y' x y hy', ← rnd_scale y x' y' hy, Nat.mul_comm y' x, h, Nat.mul_comm x' y, Nat.mul_comm y' y]
theorem rnd_mono {x y x' y' : Nat} (hy : 0 < y) (hy' : 0 < y') (h : x * y' ≤ x' * y) : rnd x y ≤ rnd x' y' := by
  rcases Nat.lt_or_ge (rnd x' y') (rnd x y) with hlt | hge
  · exfalso
    have h1 := (rnd_spec (x := x) hy).2
    have h2 := (rnd_spec (x := x') hy').1
    -- multiply both by the other's denominator
    have h3 : 2 * rnd x y * y * y' ≤ (2 * x + y) * y' := Nat.mul_le_mul_right _ h1
    have h4 : 2 * x' * y ≤ (2 * rnd x' y' + 1) * y' * y := Nat.mul_le_mul_right _ h2
    have h5 : (2 * rnd x' y' + 2) * (y * y') ≤ 2 * rnd x y * (y * y') := Nat.mul_le_mul_right _ (by omega)
    have e3 : 2 * rnd x y * y * y' = 2 * rnd x y * (y * y') := by rw [Nat.mul_assoc]
    have e4 : (2 * rnd x' y' + 1) * y' * y = (2 * rnd x' y' + 1) * (y * y') := by rw [Nat.mul_assoc, Nat.mul_comm y' y]
    have e5 : (2 * x + y) * y' = 2 * (x * y') + y * y' := by rw [Nat.add_mul, Nat.mul_assoc]
    have e6 : 2 * x' * y = 2 * (x' * y) := Nat.mul_assoc _ _ _
    have e7 : (2 * rnd x' y' + 2) * (y * y') = (2 * rnd x' y' + 1) * (y * y') + y * y' := by rw [← Nat.succ_mul]
    have heq : x * y' = x' * y := by omega
    have := rnd_same hy hy' heq
    omega
  · exact hge
end Go.Proofs.YtkaelmbgfcehhaaDoor
end

section
/- Plain: a fraction times a power of ten. -/
namespace Go.Proofs.YtkaelmbgfcehhaaDoor

/-- A/B times 10^k is at least n -/
def GeT (A B : Nat) (k : Int) (n : Nat) : Prop := n * (10 ^ (-k).toNat * B) ≤ A * 10 ^ k.toNat
theorem GeT_step (A B : Nat) (k : Int) (n : Nat) : GeT A B (k + 1) (10 * n) ↔ GeT A B k n := by
  unfold GeT
  rcases (by omega : k < 0 ∨ 0 ≤ k) with h | h
  · have e1 : (k + 1).toNat = 0 := by omega
    have e2 : k.toNat = 0 := by omega
    have e3 : (-k).toNat = (-(k + 1)).toNat + 1 := by omega
    rw [e1, e2, e3, Nat.pow_succ]
    rw [show 10 * n * (10 ^ (-(k + 1)).toNat * B) = n * (10 ^ (-(k + 1)).toNat * 10 * B) by ac_rfl]
  · have e1 : (-(k + 1)).toNat = 0 := by omega
    have e2 : (-k).toNat = 0 := by omega
    have e3 : (k + 1).toNat = k.toNat + 1 := by omega
    rw [e1, e2, e3, Nat.pow_succ, show 10 * n * (10 ^ 0 * B) = 10 * (n * (10 ^ 0 * B)) by ac_rfl, show A * (10 ^ k.toNat * 10) = 10 * (A * 10 ^ k.toNat) by ac_rfl]
    exact Nat.mul_le_mul_left_iff (by decide)

def ratN (A B : Nat) (k : Int) : Nat := rnd (A * 10 ^ k.toNat) (10 ^ (-k).toNat * B)
theorem rat_pos {B : Nat} (hB : 0 < B) (k : Int) : 0 < 10 ^ (-k).toNat * B := Nat.mul_pos (Nat.pow_pos (by decide)) hB
theorem ratN_ge {A B n : Nat} {k : Int} (hB : 0 < B) (h : GeT A B k n) : n ≤ ratN A B k := rnd_ge (rat_pos hB k) h
theorem ratN_le {A B n : Nat} {k : Int} (hB : 0 < B) (h : ¬ GeT A B k n) : ratN A B k ≤ n := rnd_le_of (rat_pos hB k) (by unfold GeT at h; omega)
theorem rat_cross (A B : Nat) (k : Int) : A * 10 ^ (k + 1).toNat * (10 ^ (-k).toNat * B) = 10 * (A * 10 ^ k.toNat) * (10 ^ (-(k + 1)).toNat * B) := by
  rcases (by omega : k < 0 ∨ 0 ≤ k) with h | h
  · have e1 : (k + 1).toNat = 0 := by omega
    have e2 : k.toNat = 0 := by omega
    have e3 : (-k).toNat = (-(k + 1)).toNat + 1 := by omega
    rw [e1, e2, e3, Nat.pow_succ]; ac_rfl
  · have e1 : (-(k + 1)).toNat = 0 := by omega
    have e2 : (-k).toNat = 0 := by omega
    have e3 : (k + 1).toNat = k.toNat + 1 := by omega
    rw [e1, e2, e3, Nat.pow_succ]; ac_rfl
/-- what is rounded up to ten times n is, with one digit less, n -/
theorem ratN_carry {A B n : Nat} {k : Int} (hB : 0 < B) (h1 : ¬ GeT A B (k + 1) (10 * n)) (h2 : ratN A B (k + 1) = 10 * n) : ratN A B k = n := by
  have h3 : ¬ GeT A B k n := fun h => h1 ((GeT_step A B k n).2 h)
  have h4 := ratN_le hB h3
  rcases Nat.lt_or_ge (ratN A B k) n with hlt | hge
  · exfalso
    have s1 := (rnd_spec (x := A * 10 ^ (k + 1).toNat) (rat_pos hB (k + 1))).2
    have s2 := (rnd_spec (x := A * 10 ^ k.toNat) (rat_pos hB k)).1
    have hc := rat_cross A B k
    have hy := rat_pos hB k
    have hy' := rat_pos hB (k + 1)
    change 2 * ratN A B (k + 1) * _ ≤ _ at s1
    change _ ≤ (2 * ratN A B k + 1) * _ at s2
    rw [h2] at s1
    generalize ratN A B k = q at *
    generalize A * 10 ^ (k + 1).toNat = x at *
    generalize A * 10 ^ k.toNat = x' at *
    generalize 10 ^ (-k).toNat * B = y' at *
    generalize 10 ^ (-(k + 1)).toNat * B = y at *
    have t1 : 2 * (10 * n) * y * y' ≤ (2 * x + y) * y' := Nat.mul_le_mul_right _ s1
    have t2 : 2 * x' * (10 * y) ≤ (2 * q + 1) * y' * (10 * y) := Nat.mul_le_mul_right _ s2
    have t3 : (2 * q + 2) * (10 * (y * y')) ≤ 2 * n * (10 * (y * y')) := Nat.mul_le_mul_right _ (by omega)
    have hP : 0 < y * y' := Nat.mul_pos hy' hy
    have a1 : 2 * (10 * n) * y * y' = 2 * n * (10 * (y * y')) := by ac_rfl
    have a2 : (2 * x + y) * y' = 2 * (x * y') + y * y' := by rw [Nat.add_mul, Nat.mul_assoc]
    have a3 : 2 * x' * (10 * y) = 2 * (10 * x' * y) := by ac_rfl
    have a4 : (2 * q + 1) * y' * (10 * y) = (2 * q + 1) * (10 * (y * y')) := by ac_rfl
    have a5 : (2 * q + 2) * (10 * (y * y')) = (2 * q + 1) * (10 * (y * y')) + 10 * (y * y') := by rw [← Nat.succ_mul]
    omega
  · omega
end Go.Proofs.YtkaelmbgfcehhaaDoor
end

section
/- Plain: the rounds of Sci. -/
namespace Go.Proofs.YtkaelmbgfcehhaaDoor

theorem canon_len_gt {l : List UInt8} {x k : Nat} (h : Canon l x) (hx : 10 ^ k ≤ x) : k < l.length := by
  have h1 := digVal_lt h.dig
  rw [h.val] at h1
  exact (Nat.pow_lt_pow_iff_right (by decide)).1 (Nat.lt_of_le_of_lt hx h1)
theorem scaledN_rat (b : Nat) (k : Int) : scaledN b k = ratN (mant b * 2 ^ (expo b).toNat) (2 ^ (-(expo b)).toNat) k := by
  unfold scaledN ratN
  congr 1
  ac_rfl
/-- a round of Sci that does not go up has all its digits -/
theorem sci_down {A B p : Nat} {k : Int} (hB : 0 < B) (h : GeT A B k (10 ^ p) ∨ 10 ^ (p + 1) ≤ ratN A B (k + 1)) : 10 ^ p ≤ ratN A B k := by
  rcases h with h | h
  · exact ratN_ge hB h
  · rw [Nat.pow_succ, Nat.mul_comm] at h
    by_cases hg : GeT A B (k + 1) (10 * 10 ^ p)
    · exact ratN_ge hB ((GeT_step A B k _).1 hg)
    · have h1 := ratN_le hB hg
      exact Nat.le_of_eq (ratN_carry hB hg (by omega)).symm
end Go.Proofs.YtkaelmbgfcehhaaDoor
end

section
/- Plain: the first power of ten that Sci tries is low enough. -/
namespace Go.Proofs.YtkaelmbgfcehhaaDoor
open Go

def exp0 (t : Int) : Int := (t * 30103).tdiv 100000 - 2
def lowOk (i : Nat) : Bool := decide (10 ^ (exp0 ((i : Int) - 1074)).toNat * 2 ^ (-((i : Int) - 1074)).toNat ≤ 2 ^ ((i : Int) - 1074).toNat * 10 ^ (-(exp0 ((i : Int) - 1074))).toNat)
theorem lowAll : (List.range 2100).all lowOk = true := by kernel_rfl
theorem low_ok {t : Int} (h1 : -1074 ≤ t) (h2 : t ≤ 1023) : 10 ^ (exp0 t).toNat * 2 ^ (-t).toNat ≤ 2 ^ t.toNat * 10 ^ (-(exp0 t)).toNat := by
  have h := List.all_eq_true.1 lowAll (t + 1074).toNat (List.mem_range.2 (by omega))
  have e : (((t + 1074).toNat : Nat) : Int) - 1074 = t := by omega
  unfold lowOk at h
  rw [e] at h
  exact of_decide_eq_true h
end Go.Proofs.YtkaelmbgfcehhaaDoor
end

section
/- Plain: GeT along powers; where Sci starts. -/
namespace Go.Proofs.YtkaelmbgfcehhaaDoor
theorem GeT_up (A B : Nat) (k : Int) : ∀ p : Nat, GeT A B k 1 → GeT A B (k + p) (10 ^ p)
  | 0, h => by simpa using h
  | p + 1, h => by
    have h1 := GeT_up A B k p h
    have h2 := (GeT_step A B (k + p) (10 ^ p)).2 h1
    rw [show k + ((p + 1 : Nat) : Int) = k + p + 1 by omega, Nat.pow_succ, Nat.mul_comm]; exact h2

theorem sci_start {m j : Nat} {e : Int} (hm : 2 ^ j ≤ m) (h1 : -1074 ≤ (j : Int) + e) (h2 : (j : Int) + e ≤ 1023) (p : Nat) : GeT (m * 2 ^ e.toNat) (2 ^ (-e).toNat) ((p : Int) - exp0 (j + e)) (10 ^ p) := by
  have h := low_ok h1 h2
  generalize exp0 ((j : Int) + e) = x at *
  have hg : GeT (m * 2 ^ e.toNat) (2 ^ (-e).toNat) (-x) 1 := by
    unfold GeT
    rw [Int.neg_neg, Nat.one_mul]
    refine Nat.le_trans ?_ (Nat.mul_le_mul_right _ (Nat.mul_le_mul_right _ hm))
    have hk : (-e).toNat + ((j : Int) + e).toNat = j + e.toNat + (-((j : Int) + e)).toNat := by omega
    have hp : 2 ^ (-e).toNat * 2 ^ ((j : Int) + e).toNat = 2 ^ j * 2 ^ e.toNat * 2 ^ (-((j : Int) + e)).toNat := by
      rw [← Nat.pow_add, ← Nat.pow_add, ← Nat.pow_add, hk]
    have h3 := Nat.mul_le_mul_right (2 ^ (-e).toNat) h
    have hpos : 0 < 2 ^ (-((j : Int) + e)).toNat := Nat.pow_pos (by decide)
    refine Nat.le_of_mul_le_mul_right ?_ hpos
    calc 10 ^ x.toNat * 2 ^ (-e).toNat * 2 ^ (-((j : Int) + e)).toNat = 10 ^ x.toNat * 2 ^ (-((j : Int) + e)).toNat * 2 ^ (-e).toNat := by ac_rfl
      _ ≤ 2 ^ ((j : Int) + e).toNat * 10 ^ (-x).toNat * 2 ^ (-e).toNat := h3
      _ = (2 ^ (-e).toNat * 2 ^ ((j : Int) + e).toNat) * 10 ^ (-x).toNat := by ac_rfl
      _ = 2 ^ j * 2 ^ e.toNat * 10 ^ (-x).toNat * 2 ^ (-((j : Int) + e)).toNat := by rw [hp]; ac_rfl
  have h4 := GeT_up _ _ (-x) p hg
  rw [show -x + (p : Int) = (p : Int) - x by omega] at h4
  exact h4
end Go.Proofs.YtkaelmbgfcehhaaDoor
end

section
/- Plain: a power at which too few digits are asked is small. -/
namespace Go.Proofs.YtkaelmbgfcehhaaDoor
/-- a power at which p + 1 digits are not enough is small -/
theorem sci_high {A B p : Nat} {x : Int} {H : Nat} (hB : 0 < B) (hA : A < 10 ^ H * B) (h : 10 ^ (p + 1) ≤ ratN A B (p - x)) : x < H := by
  rcases Int.lt_or_le x H with hx | hx
  · exact hx
  · exfalso
    have hlt : ¬ GeT A B (p - x) (10 ^ p) := by
      unfold GeT
      rw [Nat.not_le]
      have h1 : A * 10 ^ ((p : Int) - x).toNat < 10 ^ H * B * 10 ^ ((p : Int) - x).toNat := Nat.mul_lt_mul_of_pos_right hA (Nat.pow_pos (by decide))
      have h2 : 10 ^ H * B * 10 ^ ((p : Int) - x).toNat ≤ 10 ^ p * (10 ^ (-((p : Int) - x)).toNat * B) := by
        have e1 : 10 ^ H * B * 10 ^ ((p : Int) - x).toNat = 10 ^ (H + ((p : Int) - x).toNat) * B := by rw [Nat.pow_add, Nat.mul_right_comm]
        have e2 : 10 ^ p * (10 ^ (-((p : Int) - x)).toNat * B) = 10 ^ (p + (-((p : Int) - x)).toNat) * B := by rw [Nat.pow_add, Nat.mul_assoc]
        rw [e1, e2]
        exact Nat.mul_le_mul_right _ (Nat.pow_le_pow_right (by decide) (by omega))
      omega
    have h3 := ratN_le hB hlt
    have h4 : (10 : Nat) ^ p < 10 ^ (p + 1) := Nat.pow_lt_pow_right (by decide) (by omega)
    omega
theorem ten309 {i : Nat} (h : 0 < i) : (2 : Nat) ^ (83 * i + 29) < 10 ^ (25 * i + 9) * 1 := by
  rw [Nat.pow_add 2, Nat.pow_add 10, Nat.pow_mul 2, Nat.pow_mul 10, Nat.mul_one]
  exact Nat.mul_lt_mul_of_lt_of_lt (Nat.pow_lt_pow_left (by decide) (by omega)) (by decide)
theorem fin_lt {m j i : Nat} (k : Nat) (hm : m < 2 ^ 53) (hj : 53 + j ≤ 83 * i + 29) (hi : 0 < i) : m * 2 ^ j < 10 ^ (25 * i + 9) * 2 ^ k := by
  have h1 : m * 2 ^ j ≤ 2 ^ 53 * 2 ^ j := Nat.mul_le_mul_right _ (Nat.le_of_lt hm)
  rw [← Nat.pow_add] at h1
  have h2 := p2_le hj
  have h3 : 10 ^ (25 * i + 9) * 1 ≤ 10 ^ (25 * i + 9) * 2 ^ k := Nat.mul_le_mul_left _ (Nat.pow_pos (by decide))
  exact Nat.lt_of_le_of_lt h1 (Nat.lt_of_le_of_lt h2 (Nat.lt_of_lt_of_le (ten309 hi) h3))
theorem exp0_bounds {t : Int} (h1 : -1074 ≤ t) (h2 : t ≤ 1023) : -325 ≤ exp0 t ∧ exp0 t ≤ 306 := by
  unfold exp0
  rcases Int.lt_or_le t 0 with h | h
  · have e : (t * 30103).tdiv 100000 = -((-t * 30103).tdiv 100000) := by rw [← Int.neg_tdiv]; congr 1; omega
    rw [e, Int.tdiv_eq_ediv_of_nonneg (by omega)]
    omega
  · rw [Int.tdiv_eq_ediv_of_nonneg (by omega)]
    omega
theorem nbits_pos {m : Nat} (h : 0 < m) : 2 ^ (nbits m - 1) ≤ m ∧ 0 < nbits m := by
  have h2 : nbits m ≠ 0 := fun h3 => by have := nbits_le.1 (Nat.le_of_eq h3); simp at this; omega
  refine ⟨?_, by omega⟩
  rcases Nat.lt_or_ge m (2 ^ (nbits m - 1)) with h1 | h1
  · have := nbits_le.2 h1; omega
  · exact h1
end Go.Proofs.YtkaelmbgfcehhaaDoor
end

section
/- Plain: the nearest float, in steps of the least one; greater numbers, greater floats. -/
namespace Go.Proofs.YtkaelmbgfcehhaaDoor
/-- the step of the float that is nearest to X/y (in steps of the least float) -/
structure Step (X y j : Nat) : Prop where
  lt : X < 2 ^ 53 * (2 ^ j * y)
  ge : j = 0 ∨ 2 ^ 52 * (2 ^ j * y) ≤ X
/-- its bits -/
def nb (X y j : Nat) : Nat := min (j * 2 ^ 52 + rnd X (2 ^ j * y)) 9218868437227405312

/-- the least float's share of one -/
def bias : Nat := 1074
def kk : Nat := 2 ^ bias
theorem pow2_gen {E : Int} {K : Nat} {k : Int} (hk : (K : Int) = k) (h : -k ≤ E) : 2 ^ (-E).toNat * 2 ^ (E + k).toNat = 2 ^ K * 2 ^ E.toNat := by
  rw [← Nat.pow_add, ← Nat.pow_add]
  exact congrArg (2 ^ ·) (by omega)
theorem pow2_gen1 {E : Int} {K : Nat} {k : Int} (hk : (K : Int) = k) (h : 1 - k ≤ E) : 2 ^ (-(E - 1)).toNat * 2 ^ (E + k).toNat = 2 * (2 ^ K * 2 ^ (E - 1).toNat) := by
  rw [← Nat.pow_add, ← Nat.pow_add, Nat.mul_comm 2, ← Nat.pow_succ]
  exact congrArg (2 ^ ·) (by omega)
theorem pow2_int {E : Int} (h : -1074 ≤ E) : 2 ^ (-E).toNat * 2 ^ (E + 1074).toNat = kk * 2 ^ E.toNat := pow2_gen (K := bias) (k := 1074) rfl h
theorem two53 : (2 : Nat) ^ 53 = 2 ^ 52 * 2 := by decide
theorem pow2_pos (k : Nat) : 0 < 2 ^ k := Nat.pow_pos (by decide)
theorem step_of_least {x y : Nat} {E : Int} (hx : 0 < x) (hy : 0 < y) (h : LeastE x y E) : -1074 ≤ E ∧ Step (x * kk) y (E + 1074).toNat := by
  have hge := h.ge
  have h1074 : -1074 ≤ E := by unfold e0 at hge; omega
  refine ⟨h1074, ?_, ?_⟩
  · have h1 := nbits_le.1 h.bits
    unfold qat at h1
    rw [Nat.div_lt_iff_lt_mul (Nat.mul_pos hy (pow2_pos _))] at h1
    have h2 := pow2_int h1074
    have h3 := Nat.mul_lt_mul_of_pos_right h1 (pow2_pos (E + 1074).toNat)
    have e1 : x * 2 ^ (-E).toNat * 2 ^ (E + 1074).toNat = x * kk * 2 ^ E.toNat := by rw [Nat.mul_assoc, h2, Nat.mul_assoc]
    have e2 : 2 ^ 53 * (y * 2 ^ E.toNat) * 2 ^ (E + 1074).toNat = 2 ^ 53 * (2 ^ (E + 1074).toNat * y) * 2 ^ E.toNat := by ac_rfl
    rw [e1, e2] at h3
    exact Nat.lt_of_mul_lt_mul_right h3
  · rcases Nat.eq_zero_or_pos (E + 1074).toNat with h0 | h0
    · exact .inl h0
    · refine .inr ?_
      -- one step lower there is no room
      have hlow : 2 ^ 53 * (y * 2 ^ (E - 1).toNat) ≤ x * 2 ^ (-(E - 1)).toNat := by
        by_cases hE : e0 x y ≤ E - 1
        · have h1 := h.least (E - 1) hE (by omega)
          have h2 : 2 ^ 53 ≤ qat x y (E - 1) := by
            rcases Nat.lt_or_ge (qat x y (E - 1)) (2 ^ 53) with h3 | h3
            · exact absurd (nbits_le.2 h3) h1
            · exact h3
          unfold qat at h2
          exact (Nat.le_div_iff_mul_le (Nat.mul_pos hy (pow2_pos _))).1 h2
        · exfalso
          have hEe : E = (nbits x : Int) - nbits y - 54 := by unfold e0 at hge hE; omega
          have hxb := (nbits_pos hx)
          have hyb := nbits_le.1 (Nat.le_refl (nbits y))
          have h1 := nbits_le.1 h.bits
          unfold qat at h1
          rw [Nat.div_lt_iff_lt_mul (Nat.mul_pos hy (pow2_pos _))] at h1
          have h2 : 2 ^ (nbits x - 1) * 2 ^ (-E).toNat ≤ x * 2 ^ (-E).toNat := Nat.mul_le_mul_right _ hxb.1
          have h3 : 2 ^ 53 * (y * 2 ^ E.toNat) < 2 ^ 53 * (2 ^ nbits y * 2 ^ E.toNat) := Nat.mul_lt_mul_of_pos_left (Nat.mul_lt_mul_of_pos_right hyb (pow2_pos _)) (pow2_pos _)
          have h4 : 2 ^ 53 * (2 ^ nbits y * 2 ^ E.toNat) ≤ 2 ^ (nbits x - 1) * 2 ^ (-E).toNat := by
            rw [← Nat.pow_add, ← Nat.pow_add, ← Nat.pow_add]
            exact Nat.pow_le_pow_right (by decide) (by omega)
          omega
      have h2 : 2 ^ (-(E - 1)).toNat * 2 ^ (E + 1074).toNat = 2 * (kk * 2 ^ (E - 1).toNat) := by exact pow2_gen1 (K := bias) (k := 1074) rfl (by omega)
      have h3 := Nat.mul_le_mul_right (2 ^ (E + 1074).toNat) hlow
      have e1 : x * 2 ^ (-(E - 1)).toNat * 2 ^ (E + 1074).toNat = x * kk * (2 * 2 ^ (E - 1).toNat) := by rw [Nat.mul_assoc, h2, Nat.mul_left_comm 2 kk, Nat.mul_assoc]
      have e2 : 2 ^ 53 * (y * 2 ^ (E - 1).toNat) * 2 ^ (E + 1074).toNat = 2 ^ 52 * (2 ^ (E + 1074).toNat * y) * (2 * 2 ^ (E - 1).toNat) := by rw [two53]; generalize (2 : Nat) ^ 52 = c; ac_rfl
      rw [e1, e2] at h3
      exact Nat.le_of_mul_le_mul_right h3 (Nat.mul_pos (by decide) (pow2_pos _))
theorem nearBits_nb {x y : Nat} {E : Int} (hy : 0 < y) (h : -1074 ≤ E) : nearBits x y E = nb (x * kk) y (E + 1074).toNat := by
  unfold nearBits nb
  refine congrArg (fun n => min ((E + 1074).toNat * 2 ^ 52 + n) 9218868437227405312) ?_
  refine rnd_same (Nat.mul_pos hy (pow2_pos _)) (Nat.mul_pos (pow2_pos _) hy) ?_
  have h2 := pow2_int h
  calc x * 2 ^ (-E).toNat * (2 ^ (E + 1074).toNat * y) = x * (2 ^ (-E).toNat * 2 ^ (E + 1074).toNat) * y := by ac_rfl
    _ = x * kk * (y * 2 ^ E.toNat) := by rw [h2]; generalize kk = K; ac_rfl

theorem step_le {X y j X' y' j' : Nat} (hy : 0 < y) (_ : 0 < y') (h : Step X y j) (h' : Step X' y' j') (hX : X * y' ≤ X' * y) : j ≤ j' := by
  rcases Nat.lt_or_ge j' j with hlt | hge
  · exfalso
    have h1 : 2 ^ 52 * (2 ^ j * y) ≤ X := by
      rcases h.ge with h0 | h0
      · omega
      · exact h0
    have h2 := h'.lt
    have h3 : 2 ^ 53 * (2 ^ j' * y') ≤ 2 ^ 52 * (2 ^ j * y') := by
      have e1 : 2 ^ 53 * (2 ^ j' * y') = 2 ^ 52 * (2 ^ (j' + 1) * y') := by rw [two53, Nat.pow_succ 2 j']; generalize (2 : Nat) ^ 52 = c; ac_rfl
      rw [e1]
      exact Nat.mul_le_mul_left _ (Nat.mul_le_mul_right _ (Nat.pow_le_pow_right (by decide) hlt))
    have h4 : 2 ^ 52 * (2 ^ j * y) * y' ≤ X * y' := Nat.mul_le_mul_right _ h1
    have h5 : X' * y < 2 ^ 52 * (2 ^ j * y') * y := Nat.mul_lt_mul_of_pos_right (Nat.lt_of_lt_of_le h2 h3) hy
    have e6 : 2 ^ 52 * (2 ^ j * y) * y' = 2 ^ 52 * (2 ^ j * y') * y := by ac_rfl
    omega
  · exact hge
theorem step_rnd_le {X y j : Nat} (hy : 0 < y) (h : Step X y j) : rnd X (2 ^ j * y) ≤ 2 ^ 53 := rnd_le_of (Nat.mul_pos (pow2_pos _) hy) (Nat.le_of_lt h.lt)
/-- a greater number has no lesser float -/
theorem nb_mono {X y j X' y' j' : Nat} (hy : 0 < y) (hy' : 0 < y') (h : Step X y j) (h' : Step X' y' j') (hX : X * y' ≤ X' * y) : nb X y j ≤ nb X' y' j' := by
  have hj := step_le hy hy' h h' hX
  have h1 := step_rnd_le hy h
  unfold nb
  rcases Nat.eq_or_lt_of_le hj with he | hlt
  · subst he
    have h2 := rnd_mono (x := X) (y := 2 ^ j * y) (x' := X') (y' := 2 ^ j * y') (Nat.mul_pos (pow2_pos _) hy) (Nat.mul_pos (pow2_pos _) hy') (by
      have e1 : X * (2 ^ j * y') = 2 ^ j * (X * y') := by ac_rfl
      have e2 : X' * (2 ^ j * y) = 2 ^ j * (X' * y) := by ac_rfl
      rw [e1, e2]; exact Nat.mul_le_mul_left _ hX)
    omega
  · have h3 : 2 ^ 52 ≤ rnd X' (2 ^ j' * y') := by
      rcases h'.ge with h0 | h0
      · omega
      · exact rnd_ge (Nat.mul_pos (pow2_pos _) hy') h0
    have h4 : (j + 1) * 2 ^ 52 ≤ j' * 2 ^ 52 := Nat.mul_le_mul_right _ hlt
    have e5 : (2 : Nat) ^ 53 = 2 ^ 52 + 2 ^ 52 := by decide
    rw [Nat.add_mul] at h4
    omega
theorem step_same {X y j X' y' j' : Nat} (hy : 0 < y) (hy' : 0 < y') (h : Step X y j) (h' : Step X' y' j') (hX : X * y' = X' * y) : nb X y j = nb X' y' j' :=
  Nat.le_antisymm (nb_mono hy hy' h h' (Nat.le_of_eq hX)) (nb_mono hy' hy h' h (Nat.le_of_eq hX.symm))
end Go.Proofs.YtkaelmbgfcehhaaDoor
end

section
/- Plain: the floats themselves, and numbers near to them. -/
namespace Go.Proofs.YtkaelmbgfcehhaaDoor
/-- the float's steps -/
def jof (b : Nat) : Nat := b / 2 ^ 52 - 1
/-- the float's whole number of steps -/
def mof (b : Nat) : Nat := if b / 2 ^ 52 = 0 then b else b % 2 ^ 52 + 2 ^ 52
theorem bits_parts (b : Nat) : b = jof b * 2 ^ 52 + mof b := by unfold jof mof; split <;> omega
theorem mof_lt (b : Nat) : mof b < 2 ^ 53 := by unfold mof; split <;> omega
theorem mof_ge (b : Nat) : jof b = 0 ∨ 2 ^ 52 ≤ mof b := by unfold jof mof; split <;> omega
theorem rnd_close {X G m : Nat} (h1 : 2 * X < 2 * (m * G) + G) (h2 : 2 * (m * G) < 2 * X + G) : rnd X G = m := by
  have hG : 0 < G := by
    rcases Nat.eq_zero_or_pos G with h | h
    · subst h; simp at h1
    · exact h
  have hs := rnd_spec (x := X) hG
  generalize rnd X G = r at hs
  have e1 : (2 * r + 1) * G = 2 * (r * G) + G := by rw [Nat.succ_mul, Nat.mul_assoc]
  have e2 : 2 * r * G = 2 * (r * G) := Nat.mul_assoc _ _ _
  rw [e1, e2] at hs
  rcases Nat.lt_trichotomy r m with h | h | h
  · have h3 : (r + 1) * G ≤ m * G := Nat.mul_le_mul_right _ h
    rw [Nat.succ_mul] at h3
    omega
  · exact h
  · have h3 : (m + 1) * G ≤ r * G := Nat.mul_le_mul_right _ h
    rw [Nat.succ_mul] at h3
    omega
theorem nb_exact {X y b : Nat} (hy : 0 < y) (h : X = mof b * (2 ^ jof b * y)) (hb : b ≤ 9218868437227405312) : Step X y (jof b) ∧ nb X y (jof b) = b := by
  have hG : 0 < 2 ^ jof b * y := Nat.mul_pos (pow2_pos _) hy
  have hr : rnd X (2 ^ jof b * y) = mof b := rnd_close (by omega) (by omega)
  refine ⟨⟨?_, ?_⟩, ?_⟩
  · rw [h]; exact Nat.mul_lt_mul_of_pos_right (mof_lt b) hG
  · rcases mof_ge b with h0 | h0
    · exact .inl h0
    · exact .inr (by rw [h]; exact Nat.mul_le_mul_right _ h0)
  · unfold nb
    rw [hr, ← bits_parts]
    omega
/-- a number so near to a float that seventeen digits tell it is rounded to it -/
theorem nb_close {X y b j : Nat} (hy : 0 < y) (hb : b ≤ 9218868437227405312) (hs : Step X y j)
    (h1 : 20000000000000000 * X ≤ 20000000000000000 * (mof b * (2 ^ jof b * y)) + X)
    (h2 : 20000000000000000 * (mof b * (2 ^ jof b * y)) ≤ 20000000000000000 * X + X) : nb X y j = b := by
  have hm := mof_lt b
  have hG : 0 < 2 ^ jof b * y := Nat.mul_pos (pow2_pos _) hy
  have hP : mof b * (2 ^ jof b * y) ≤ (2 ^ 53 - 1) * (2 ^ jof b * y) := Nat.mul_le_mul_right _ (by omega)
  have hbp := bits_parts b
  by_cases hc : jof b = 0 ∨ 2 ^ 52 * (2 ^ jof b * y) ≤ X
  · have hS : Step X y (jof b) := ⟨by omega, hc⟩
    rw [step_same hy hy hs hS rfl]
    unfold nb
    rw [rnd_close (m := mof b) (by omega) (by omega), ← hbp]
    omega
  · have hj : jof b ≠ 0 := fun h => hc (.inl h)
    have hX : X < 2 ^ 52 * (2 ^ jof b * y) := Nat.lt_of_not_le fun h => hc (.inr h)
    have hmg : 2 ^ 52 ≤ mof b := by rcases mof_ge b with h | h; exact absurd h hj; exact h
    have hm2 : mof b = 2 ^ 52 := by
      rcases Nat.lt_or_ge (2 ^ 52) (mof b) with h | h
      · exfalso
        have h3 : (2 ^ 52 + 1) * (2 ^ jof b * y) ≤ mof b * (2 ^ jof b * y) := Nat.mul_le_mul_right _ h
        omega
      · omega
    obtain ⟨j', hj'⟩ : ∃ j', jof b = j' + 1 := ⟨jof b - 1, by omega⟩
    rw [hm2] at h1 h2 hP
    have e : 2 ^ jof b * y = 2 * (2 ^ j' * y) := by rw [hj', Nat.pow_succ 2 j', Nat.mul_comm (2 ^ j') 2, Nat.mul_assoc]
    rw [e] at h1 h2 hX hG
    have hS : Step X y j' := ⟨by omega, .inr (by omega)⟩
    rw [step_same hy hy hs hS rfl]
    unfold nb
    rw [rnd_close (m := 2 ^ 53) (by omega) (by omega)]
    rw [hj', hm2] at hbp
    omega
end Go.Proofs.YtkaelmbgfcehhaaDoor
end

section
/- Plain: the nearest float as a function; the bounds of what is read. -/
namespace Go.Proofs.YtkaelmbgfcehhaaDoor
open Go
/-- the step, reckoned -/
def stepOf (X y : Nat) : Nat := nbits (X / y) - 53
theorem stepOf_step (X : Nat) {y : Nat} (hy : 0 < y) : Step X y (stepOf X y) := by
  have h1 := nbits_le.1 (Nat.le_refl (nbits (X / y)))
  refine ⟨?_, ?_⟩
  · rw [Nat.div_lt_iff_lt_mul hy] at h1
    refine Nat.lt_of_lt_of_le h1 ?_
    rw [← Nat.mul_assoc, ← Nat.pow_add]
    exact Nat.mul_le_mul_right _ (Nat.pow_le_pow_right (by decide) (by unfold stepOf; omega))
  · rcases Nat.eq_zero_or_pos (stepOf X y) with h | h
    · exact .inl h
    · refine .inr ?_
      unfold stepOf at h
      have hq : 0 < X / y := by
        rcases Nat.eq_zero_or_pos (X / y) with h2 | h2
        · rw [h2] at h; have : nbits 0 = 0 := by decide
          omega
        · exact h2
      have h2 := (nbits_pos hq).1
      rw [Nat.le_div_iff_mul_le hy] at h2
      refine Nat.le_trans ?_ h2
      rw [← Nat.mul_assoc, ← Nat.pow_add]
      exact Nat.mul_le_mul_right _ (Nat.pow_le_pow_right (by decide) (by unfold stepOf; omega))
/-- the bits of the float nearest to x/y -/
def near (x y : Nat) : Nat := nb (x * kk) y (stepOf (x * kk) y)
theorem nearBits_near {x y : Nat} {E : Int} (hx : 0 < x) (hy : 0 < y) (h : LeastE x y E) : nearBits x y E = near x y := by
  obtain ⟨h1, h2⟩ := step_of_least hx hy h
  rw [nearBits_nb hy h1]
  exact step_same hy hy h2 (stepOf_step _ hy) rfl
theorem near_mono {x y x' y' : Nat} (hy : 0 < y) (hy' : 0 < y') (h : x * y' ≤ x' * y) : near x y ≤ near x' y' :=
  nb_mono hy hy' (stepOf_step _ hy) (stepOf_step _ hy') (by rw [Nat.mul_right_comm, Nat.mul_right_comm x']; exact Nat.mul_le_mul_right _ h)
theorem near_same {x y x' y' : Nat} (hy : 0 < y) (hy' : 0 < y') (h : x * y' = x' * y) : near x y = near x' y' :=
  Nat.le_antisymm (near_mono hy hy' (Nat.le_of_eq h)) (near_mono hy' hy (Nat.le_of_eq h.symm))
theorem near_le (x y : Nat) : near x y ≤ 9218868437227405312 := Nat.min_le_right _ _
theorem near_exact {x y b : Nat} (hy : 0 < y) (h : x * kk = mof b * (2 ^ jof b * y)) (hb : b ≤ 9218868437227405312) : near x y = b := by
  obtain ⟨h1, h2⟩ := nb_exact hy h hb
  rw [← h2]
  exact step_same hy hy (stepOf_step _ hy) h1 rfl
theorem near_close {x y b : Nat} (hy : 0 < y) (hb : b ≤ 9218868437227405312)
    (h1 : 20000000000000000 * (x * kk) ≤ 20000000000000000 * (mof b * (2 ^ jof b * y)) + x * kk)
    (h2 : 20000000000000000 * (mof b * (2 ^ jof b * y)) ≤ 20000000000000000 * (x * kk) + x * kk) : near x y = b :=
  nb_close hy hb (stepOf_step _ hy) h1 h2
theorem near_zero {y : Nat} (hy : 0 < y) : near 0 y = 0 := near_exact hy (by simp [mof]) (by omega)

theorem pow10_lt (j : Nat) : (10 : Nat) ^ j < 2 ^ (4 * j + 1) := by
  have h1 : (10 : Nat) ^ j ≤ 16 ^ j := Nat.pow_le_pow_left (by decide) j
  have h2 : (16 : Nat) ^ j = 2 ^ (4 * j) := by rw [show (16 : Nat) = 2 ^ 4 by decide, ← Nat.pow_mul]
  have h3 : (2 : Nat) ^ (4 * j) < 2 ^ (4 * j + 1) := Nat.pow_lt_pow_right (by decide) (by omega)
  omega
theorem read_x {D n : Nat} {e : Int} (hD : D < 10 ^ n) (hn : n ≤ 1024) (h1 : n + e ≤ 310) : nbits (D * 10 ^ e.toNat) ≤ 4100 := by
  have h2 : D * 10 ^ e.toNat < 10 ^ n * 10 ^ e.toNat := Nat.mul_lt_mul_of_pos_right hD (Nat.pow_pos (by decide))
  rw [← Nat.pow_add] at h2
  have h4 : nbits (D * 10 ^ e.toNat) ≤ 4 * (n + e.toNat) + 1 := nbits_le.2 (Nat.lt_trans h2 (pow10_lt _))
  omega
theorem read_pow {j : Nat} (h : j ≤ 1400) : nbits (10 ^ j) ≤ 5700 := by
  have h4 : nbits (10 ^ j) ≤ 4 * j + 1 := nbits_le.2 (pow10_lt j)
  omega
theorem read_d {D n : Nat} (hD : D < 10 ^ n) (hn : n ≤ 1024) : nbits D ≤ 4100 := by
  have h4 : nbits D ≤ 4 * n + 1 := nbits_le.2 (Nat.lt_trans hD (pow10_lt n))
  omega
theorem read_gen {D n u v : Nat} {e : Int} (ht : 10 ^ u < 2 ^ v) (hD : D < 10 ^ n) (h1 : n + e ≤ u) : nbits (D * 10 ^ e.toNat) ≤ v + nbits (10 ^ (-e).toNat) := by
  have h2 : D * 10 ^ e.toNat < 10 ^ n * 10 ^ e.toNat := Nat.mul_lt_mul_of_pos_right hD (Nat.pow_pos (by decide))
  rw [← Nat.pow_add] at h2
  have h3 : (10 : Nat) ^ (n + e.toNat) ≤ 10 ^ (u + (-e).toNat) := p10_le (by omega)
  rw [Nat.pow_add 10 u] at h3
  have h4 := nbits_le.1 (Nat.le_refl (nbits (10 ^ (-e).toNat)))
  have h5 := Nat.mul_lt_mul_of_lt_of_lt ht h4
  rw [← Nat.pow_add 2] at h5
  exact nbits_le.2 (Nat.lt_trans h2 (Nat.lt_of_le_of_lt h3 h5))
theorem read_v {D n : Nat} {e : Int} (hD : D < 10 ^ n) (h1 : n + e ≤ 310) : (nbits (D * 10 ^ e.toNat) : Int) - nbits (10 ^ (-e).toNat) ≤ 1100 := by
  have h := read_gen (u := 31 * 10) (v := 103 * 10) (tens (i := 10) (by decide)) hD (e := e) (by omega)
  omega

/-- the digits without the noughts ahead -/
def bare (l : List UInt8) : List UInt8 := l.dropWhile (· == 48)
/-- what Read answers for digits -/
def readB (l : List UInt8) (e : Int) : Nat :=
  if (bare l).length = 0 ∨ e < -4000 then 0
  else if 2000 < e ∨ 310 < (bare l).length + e then 9218868437227405312
  else if (bare l).length + e < -330 then 0
  else near (digVal (bare l) * 10 ^ e.toNat) (10 ^ (-e).toNat)
theorem bare_digits {l : List UInt8} (h : Digits l) : Digits (bare l) := fun c hc => h c ((List.dropWhile_sublist _).subset hc)
theorem bare_length (l : List UInt8) : (bare l).length ≤ l.length := (List.dropWhile_sublist _).length_le
theorem dw_nil (p : UInt8 → Bool) : ∀ l : List UInt8, l.dropWhile p = [] → ∀ x ∈ l, p x = true
  | [], _, x, hx => by simp at hx
  | c :: r, h, x, hx => by
    rw [List.dropWhile_cons] at h
    by_cases hc : p c = true
    · rw [if_pos hc] at h
      rcases List.mem_cons.1 hx with rfl | h2
      · exact hc
      · exact dw_nil p r h x h2
    · rw [if_neg hc] at h; simp at h
theorem dw_head (p : UInt8 → Bool) : ∀ (l : List UInt8) (x : UInt8) (r : List UInt8), l.dropWhile p = x :: r → p x = false
  | [], x, r, h => by simp at h
  | c :: l, x, r, h => by
    rw [List.dropWhile_cons] at h
    by_cases hc : p c = true
    · rw [if_pos hc] at h; exact dw_head p l x r h
    · rw [if_neg hc] at h
      have : c = x := by injection h
      subst this
      simpa using hc
theorem dw_all (p : UInt8 → Bool) : ∀ l : List UInt8, (∀ x ∈ l, p x = true) → l.dropWhile p = []
  | [], _ => rfl
  | c :: r, h => by rw [List.dropWhile_cons, if_pos (h c (by simp))]; exact dw_all p r fun x hx => h x (by simp [hx])
def digs : List UInt8 := [48, 49, 50, 51, 52, 53, 54, 55, 56, 57]
set_option maxRecDepth 100000 in
theorem digs_iff (c : UInt8) : digs.contains c = true ↔ 48 ≤ c.toNat ∧ c.toNat ≤ 57 := by
  have h : ∀ c : Fin 256, (digs.contains (UInt8.ofNat c.1) = true) ↔ 48 ≤ c.1 ∧ c.1 ≤ 57 := by decide
  have h2 := h ⟨c.toNat, c.toNat_lt⟩
  simpa using h2
theorem trimS_digits {l : List UInt8} (h : Digits l) : Lib.trimS l digs = [] := by
  have h1 : Lib.trimRightS l digs = [] := by
    unfold Lib.trimRightS
    rw [dw_all _ l.reverse (fun x hx => (digs_iff x).2 (h x (by simpa using hx)))]
    rfl
  unfold Lib.trimS
  rw [h1]; rfl
theorem trimS_bad {l : List UInt8} (h : Lib.trimS l digs = []) : Digits l := by
  unfold Lib.trimS Lib.trimLeftS at h
  have h1 := dw_nil _ _ h
  unfold Lib.trimRightS at h1
  have h2 : l.reverse.dropWhile (digs.contains ·) = [] := by
    cases h3 : l.reverse.dropWhile (digs.contains ·) with
    | nil => rfl
    | cons x r =>
      have h4 := dw_head _ _ _ _ h3
      rw [h3] at h1
      have h5 := h1 x (by simp)
      rw [h4] at h5; cases h5
  have h3 := dw_nil _ _ h2
  exact fun c hc => (digs_iff c).1 (h3 c (by simpa using hc))
theorem bare_pos {l : List UInt8} (h : Digits l) (hn : (bare l).length ≠ 0) : 0 < digVal (bare l) := by
  have hd := bare_digits h
  cases h1 : bare l with
  | nil => rw [h1] at hn; simp at hn
  | cons c r =>
    have h2 := dw_head _ _ _ _ h1
    rw [h1] at hd
    have h3 := hd c (by simp)
    have h4 : c.toNat ≠ 48 := fun h5 => by
      have : c = 48 := UInt8.toNat_inj.1 h5
      rw [this] at h2; simp at h2
    rw [digVal_cons]
    have h5 : 1 * 10 ^ r.length ≤ (c.toNat - 48) * 10 ^ r.length := Nat.mul_le_mul_right _ (by omega)
    have h6 : 0 < 10 ^ r.length := Nat.pow_pos (by decide)
    omega
end Go.Proofs.YtkaelmbgfcehhaaDoor
end

section
/- Package dec: Sci. -/
namespace Go.Proofs.YtkaelmbgfcehhaaDoor
open Go.RowKit
set_option linter.unusedVariables false

end Go.Proofs.YtkaelmbgfcehhaaDoor
end

section
/- Package dec: Sci, the loop. -/
namespace Go.Proofs.YtkaelmbgfcehhaaDoor
open Go.RowKit
set_option linter.unusedVariables false

/-- what Sci answers: the digits and the power of ten: the least one from the start on at which p + 1 digits are enough -/
structure SciAt (b p : Nat) (x : Int) : Prop where
  ge : 10 ^ p ≤ scaledN b (p - x)
  lt : scaledN b (p - x) < 10 ^ (p + 1)
  least : ∃ y0, y0 ≤ x ∧ GeT (mant b * 2 ^ (expo b).toNat) (2 ^ (-(expo b)).toNat) (p - y0) (10 ^ p) ∧ ∀ y, y0 ≤ y → y < x → 10 ^ (p + 1) ≤ scaledN b (p - y)

theorem canon_ne_zero {l : List UInt8} {x : Nat} (h : Canon l x) (hx : 0 < x) : l ≠ [48] := by
  intro hl
  have h1 := h.val
  rw [hl] at h1
  have h2 : digVal [48] = 0 := by decide
  omega

end Go.Proofs.YtkaelmbgfcehhaaDoor
end

section
/- Package dec: Read. -/
namespace Go.Proofs.YtkaelmbgfcehhaaDoor
open Go.RowKit
set_option linter.unusedVariables false

theorem Trim_digs (s : ByteArray) (w : World) (hs : s.size ≤ 9223372036854775807) :
    Calls Tryd.prog 50 #[.string s, .string ⟨#[48, 49, 50, 51, 52, 53, 54, 55, 56, 57]⟩] w fun e w' => e = .returned (.string ⟨(Lib.trimS s.data.toList digs).toArray⟩) ∧ Below w.heap.size w w' :=
  Any.strings_Trim_laid Tryd.lays160 (by kernel_rfl) s ⟨#[48, 49, 50, 51, 52, 53, 54, 55, 56, 57]⟩ w hs (by decide) (ascii_of_all (by decide))

theorem Inf_pos (w : World) : Calls Tryd.prog 64 #[.int .i64 1] w fun e w' => e = .returned (.float .f64 9218868437227405312) ∧ w' = w := by
  go_enter Tryd.func64, Tryd.ntmps64
  go_wp2_with fail
  go_ret
  exact ⟨rfl, rfl⟩

set_option maxRecDepth 100000 in
set_option maxHeartbeats 2000000 in
theorem Read_bad (s : ByteArray) (x : Int) (w : World) (hs : s.size ≤ 9223372036854775807) (h : s.data.toList = [] ∨ ¬ Digits s.data.toList) :
    Calls Tryd.prog 51 #[.string s, .int .i64 x] w fun e w' => e = .returned (.tuple #[.float .f64 0, .int .i64 30]) ∧ Below w.heap.size w w' := by
  have HT := Lib.hid (Trim_digs s w hs)
  go_enter Tryd.func51, Tryd.ntmps51
  rcases h with h | h
  · have h0 : s.toList.isEmpty = true := by rw [ByteArray.toList_eq, h]; rfl
    clear h
    go_wp2_with fail
    go_ret2
    exact ⟨rfl, Below.refl _ _⟩
  · by_cases he : s.data.toList = []
    · exact absurd (by rw [he]; intro c hc; simp at hc) h
    have h0 : s.toList.isEmpty = false := by rw [ByteArray.toList_eq]; simpa using he
    clear he
    obtain ⟨T, hT⟩ : ∃ T : ByteArray, T = ⟨(Lib.trimS s.data.toList digs).toArray⟩ := ⟨_, rfl⟩
    have h1 : T.toList.isEmpty = false := by
      rw [ByteArray.toList_eq, hT]
      cases h2 : Lib.trimS s.data.toList digs with
      | nil => exact absurd (trimS_bad h2) h
      | cons _ _ => rfl
    rw [← hT] at HT
    clear hT h
    go_wp2_with fail
    refine HT.out.mono ?_
    rintro e w1 ⟨rfl, hb⟩
    have HB := Lib.hid hb
    clear hb HT
    go_wp2_with fail
    go_ret2
    exact ⟨rfl, HB.out⟩

theorem Trim_ok (s : ByteArray) (w : World) (hs : s.size ≤ 9223372036854775807) (h : Digits s.data.toList) :
    Calls Tryd.prog 50 #[.string s, .string ⟨#[48, 49, 50, 51, 52, 53, 54, 55, 56, 57]⟩] w fun e w' => e = .returned (.string ⟨#[]⟩) ∧ Below w.heap.size w w' := by
  have h1 := Trim_digs s w hs
  rw [trimS_digits h] at h1
  exact h1

set_option maxRecDepth 100000 in
set_option maxHeartbeats 2000000 in
theorem Read_long (s : ByteArray) (x : Int) (w : World) (hs : s.size ≤ 9223372036854775807) (hd : Digits s.data.toList) (hl : 1024 < s.data.toList.length) :
    Calls Tryd.prog 51 #[.string s, .int .i64 x] w fun e w' => e = .returned (.tuple #[.float .f64 0, .int .i64 3]) ∧ Below w.heap.size w w' := by
  have HT := Lib.hid (Trim_ok s w hs hd)
  have h0 : s.toList.isEmpty = false := by
    rw [ByteArray.toList_eq]
    cases h : s.data.toList with
    | nil => rw [h] at hl; simp at hl
    | cons _ _ => rfl
  have hl2 : 1024 < (s.size : Int) := by
    have hsz : s.size = s.data.toList.length := by simp
    omega
  clear hd hl
  go_enter Tryd.func51, Tryd.ntmps51
  go_wp2_with fail
  refine HT.out.mono ?_
  rintro e w1 ⟨rfl, hb⟩
  have HB := Lib.hid hb
  clear hb HT
  go_wp2_with fail
  go_ret2
  exact ⟨rfl, HB.out⟩

set_option maxRecDepth 100000 in
set_option maxHeartbeats 4000000 in
theorem Read_ok (s : ByteArray) (x : Int) (w : World) (hn : s.data.toList ≠ []) (hd : Digits s.data.toList) (hl : s.data.toList.length ≤ 1024) (hx1 : -9223372036854775808 ≤ x) (hx2 : x ≤ 9223372036854775807) :
    Calls Tryd.prog 51 #[.string s, .int .i64 x] w fun e w' => e = .returned (.tuple #[.float .f64 (readB s.data.toList x), .int .i64 0]) ∧ Below w.heap.size w w' := by
  have hsz : s.size = s.data.toList.length := by simp
  have HT := Lib.hid (Trim_ok s w (by omega) hd)
  have h0 : s.toList.isEmpty = false := by
    rw [ByteArray.toList_eq]
    simpa using hn
  have hTL : Hid (∀ W, Calls Tryd.prog 49 #[.string s, .string ⟨#[48]⟩] W fun e w' => e = .returned (.string ⟨(bare s.data.toList).toArray⟩) ∧ w' = W) := fun W => Tryd.strings_TrimLeft_one s 48 (by decide) W
  obtain ⟨t, ht⟩ : ∃ t : ByteArray, t = ⟨(bare s.data.toList).toArray⟩ := ⟨_, rfl⟩
  rw [← ht] at hTL
  have htl : t.data.toList = bare s.data.toList := by rw [ht]
  obtain ⟨n, hn0⟩ : ∃ n, n = t.size := ⟨_, rfl⟩
  have hn1 : t.size = n := hn0.symm
  have hn2 : (bare s.data.toList).length = n := by rw [← htl, hn0]; simp
  have hn3 : n ≤ 1024 := by have := bare_length s.data.toList; omega
  have hdt : Digits t.data.toList := by rw [htl]; exact bare_digits hd
  have hR : Hid (readB s.data.toList x = if n = 0 ∨ x < -4000 then 0 else if 2000 < x ∨ 310 < (n : Int) + x then 9218868437227405312 else if (n : Int) + x < -330 then 0 else near (digVal t.data.toList * 10 ^ x.toNat) (10 ^ (-x).toNat)) := by
    show _ = _
    unfold readB
    rw [hn2, htl]
  have HD0 : Hid (n ≠ 0 → 0 < digVal t.data.toList) := fun h => by rw [htl]; exact bare_pos hd (by rw [hn2]; exact h)
  generalize readB s.data.toList x = R at *
  have HDT := Lib.hid hdt
  have hlt : t.data.toList.length = n := by rw [htl, hn2]
  have HLT := Lib.hid hlt
  generalize hLe : s.data.toList = L at *
  have HLe := Lib.hid hLe
  have HD := Lib.hid hd
  clear hd hn hLe ht htl hn0 hn2 hdt hlt
  go_enter Tryd.func51, Tryd.ntmps51
  go_wp2_with fail
  refine HT.out.mono ?_
  rintro e w1 ⟨rfl, hb⟩
  have HB := Lib.hid hb
  have hs1 := hb.size
  clear hb HT
  have hls : (s.size : Int) ≤ 1024 := by omega
  go_wp2_with (refine wpList_bytes _ rfl _ rfl s rfl ?_; rw [HLe.out, hsz]; intro cap1 w2 hl2 hb2 hs2)
  have HB2 := Lib.hid (HB.out.trans (hb2.mono hs1))
  generalize hg1 : w1.heap.size = g1 at *
  have HL1 := Lib.hid hl2
  clear hg1 hl2 hb2 HB hls
  go_wp2_with fail
  go_loop [28] (fun i => ∃ k : Nat, k ≤ L.length ∧ i = .int .i64 k) (fun i => L.length - (intOf i).toNat)
  case atStart => exact ⟨0, Nat.zero_le _, rfl⟩
  case round =>
    obtain ⟨k, hk, rfl⟩ := hrel
    by_cases hlt : k < L.length
    · have hc := HL1.out k hlt
      rw [Nat.zero_add] at hc
      have hdd := HD.out _ (List.getElem_mem hlt)
      generalize L[k].toNat = c at *
      go_wp2_with fail
      go_round
      case rel => exact ⟨k + 1, by omega, by go_num⟩
      case measure => simp [intOf]; omega
    · obtain rfl : k = L.length := by omega
      clear HL1
      go_wp2_with fail
      refine (hTL.out w2).mono ?_
      rintro e w3 ⟨rfl, rfl⟩
      clear hTL
      have HB3 := Lib.hid (HB2.out)
      have hs3 := hs2
      have hbs := HB2.out.size
      clear HB2 hs2 HLe hsz h0 hk hlt HD hl
      by_cases hc0 : n = 0 ∨ x < -4000
      · obtain rfl : R = 0 := by rw [hR.out, if_pos hc0]
        rcases hc0 with h | h
        · clear hn3
          subst h
          go_wp2_with fail
          go_ret2
          exact ⟨rfl, HB3.out⟩
        · by_cases h2 : n = 0
          · subst h2
            go_wp2_with fail
            go_ret2
            exact ⟨rfl, HB3.out⟩
          · have h3 : (n : Int) ≠ 0 := by omega
            go_wp2_with fail
            go_ret2
            exact ⟨rfl, HB3.out⟩
      · have h3 : (n : Int) ≠ 0 := by omega
        have h4 : -4000 ≤ x := by omega
        have hD0 := HD0.out (by omega)
        have hno : ¬ (((n : Int) == 0) = true ∨ x < -4000) := by rw [beq_iff_eq]; omega
        by_cases hc1 : 2000 < x ∨ 310 < (n : Int) + x
        · obtain rfl : R = 9218868437227405312 := by rw [hR.out, if_neg hc0, if_pos hc1]
          clear hR hc0
          by_cases h5 : 2000 < x
          · clear hc1
            go_wp2_with fail
            refine (Inf_pos w3).mono ?_
            rintro e w4 ⟨rfl, rfl⟩
            go_wp2_with fail
            go_ret2
            exact ⟨rfl, HB3.out⟩
          · have h6 : 310 < (n : Int) + x := by omega
            clear hc1
            go_wp2_with fail
            refine (Inf_pos w3).mono ?_
            rintro e w4 ⟨rfl, rfl⟩
            go_wp2_with fail
            go_ret2
            exact ⟨rfl, HB3.out⟩
        · have h5 : x ≤ 2000 := by omega
          have h6 : (n : Int) + x ≤ 310 := by omega
          by_cases hc2 : (n : Int) + x < -330
          · obtain rfl : R = 0 := by rw [hR.out, if_neg hc0, if_neg hc1, if_pos hc2]
            clear hR hc0
            go_wp2_with fail
            go_ret2
            exact ⟨rfl, HB3.out⟩
          · have hR2 : R = near (digVal t.data.toList * 10 ^ x.toNat) (10 ^ (-x).toNat) := by rw [hR.out, if_neg hc0, if_neg hc1, if_neg hc2]
            have HRR := Lib.hid hR2
            have h7 : -330 ≤ (n : Int) + x := by omega
            clear hR hc0 hc1 hc2 hR2
            have hDl : digVal t.data.toList < 10 ^ n := by rw [← HLT.out]; exact digVal_lt HDT.out
            have hB1 : nbits (digVal t.data.toList) ≤ 4100 := read_d hDl hn3
            have hB2 := read_x hDl hn3 h6
            have hB3 := read_v hDl h6
            have hB4 : nbits (10 ^ x.toNat) ≤ 5700 := read_pow (by omega)
            have hB5 : nbits (10 ^ (-x).toNat) ≤ 5700 := read_pow (by omega)
            have hne : t.data.toList ≠ [] := by intro h; have := HLT.out; rw [h] at this; simp at this; omega
            have HPA := Lib.hid (fun W => Parse_any t W hne HDT.out (limbs_of_bits (by omega)) (by have := HLT.out; omega))
            have hp1 : 0 < (10 : Nat) ^ (-x).toNat := Nat.pow_pos (by decide)
            generalize digVal t.data.toList = D at *
            have P1 := Lib.hid (fun W => pow10_any x.toNat W (limbs_of_bits (by omega)) (by omega))
            have P2 := Lib.hid (fun W => pow10_any (-x).toNat W (limbs_of_bits (by omega)) (by omega))
            have M1 := Lib.hid (fun W va vb h1 h2 => Mul_any va vb D (10 ^ x.toNat) W h1 h2 (limbs_of_bits (by omega)) (limbs_of_bits (by omega)) (limbs_of_bits (by omega)))
            have hNE : Hid (∀ (W : World) (va vb : Value), NatV W va (D * 10 ^ x.toNat) → NatV W vb (10 ^ (-x).toNat) → Calls Tryd.prog 68 #[va, vb] W fun e W' => e = .returned (.float .f64 R) ∧ Below W.heap.size W W') := by
              intro W va vb h1 h2
              refine (nearest_any va vb _ _ W h1 h2 hp1 (by omega) (by omega) hB3).mono ?_
              rintro e W' ⟨E, hE, rfl, hb⟩
              rw [nearBits_near (Nat.mul_pos hD0 (Nat.pow_pos (by decide))) hp1 hE]
              exact ⟨by rw [HRR.out], hb⟩
            obtain ⟨k1, hk1⟩ : ∃ k : Nat, k = x.toNat := ⟨_, rfl⟩
            obtain ⟨k2, hk2⟩ : ∃ k : Nat, k = (-x).toNat := ⟨_, rfl⟩
            have e1 : max x 0 = (k1 : Int) := by omega
            have e2 : max (-x) 0 = (k2 : Int) := by omega
            rw [← hk1] at P1 M1 hNE
            rw [← hk2] at P2 hNE
            generalize 10 ^ k1 = p1 at *
            generalize 10 ^ k2 = p2 at *
            clear hDl hB1 hB2 hB3 hB4 hB5 hne hp1 HRR hk1 hk2
            go_wp2_with fail
            refine (HPA.out w3).mono ?_
            rintro e w4 ⟨v4, rfl, hv4, hb4⟩
            have HV4 := Lib.hid hv4
            have HB4 := Lib.hid (HB3.out.trans (hb4.mono hbs))
            have hs4 := hb4.size
            clear hv4 hb4 HB3 HPA
            go_wp2_with fail
            refine (P1.out w4).mono ?_
            rintro e w5 ⟨v5, rfl, hv5, hb5⟩
            have HM := Lib.hid (M1.out w5 v4 v5 (HV4.out.below hb5) hv5)
            have HB5 := Lib.hid (HB4.out.trans (hb5.mono (by omega)))
            have hs5 := hb5.size
            clear hv5 hb5 HB4 HV4 P1 M1
            go_wp2_with fail
            refine HM.out.mono ?_
            rintro e w6 ⟨v6, rfl, hv6, hb6⟩
            have HV6 := Lib.hid hv6
            have HB6 := Lib.hid (HB5.out.trans (hb6.mono (by omega)))
            have hs6 := hb6.size
            clear hv6 hb6 HB5 HM
            go_wp2_with fail
            refine (P2.out w6).mono ?_
            rintro e w7 ⟨v7, rfl, hv7, hb7⟩
            have HN := Lib.hid (hNE.out w7 v6 v7 (HV6.out.below hb7) hv7)
            have HB7 := Lib.hid (HB6.out.trans (hb7.mono (by omega)))
            have hs7 := hb7.size
            clear hv7 hb7 HB6 HV6 P2 hNE
            go_wp2_with fail
            refine HN.out.mono ?_
            rintro e w8 ⟨rfl, hb8⟩
            have HB8 := Lib.hid (HB7.out.trans (hb8.mono (by omega)))
            clear hb8 HN HB7
            go_wp2_with fail
            go_ret2
            exact ⟨rfl, HB8.out⟩
end Go.Proofs.YtkaelmbgfcehhaaDoor
end

section
/- thresherlaw03: text, same. -/
namespace Go.Proofs.YtkaelmbgfcehhaaDoor
open Go.RowKit
set_option linter.unusedVariables false

/-- the sign of a digit -/
def dig (r : Nat) : UInt8 := UInt8.ofNat (48 + r)
theorem dig_nat (r : Nat) (h : r < 10) : (dig r).toNat = 48 + r := by
  unfold dig; rw [UInt8.toNat_ofNat', Nat.mod_eq_of_lt (by omega)]
theorem cell_one (w : World) (t : TypeId) (n : Nat) (v : Int) (hv : v = (48 + n % 10 : Nat)) : ∀ j (hj : j < [dig (n % 10)].length), (w.alloc (.cells #[.int .u8 v] t)).cell? ⟨w.heap.size, j, none⟩ = some (.int .u8 ([dig (n % 10)][j].toNat : Nat)) := by
  intro j hj
  have h1 : j < 1 := hj
  obtain rfl : j = 0 := by omega
  simp only [List.getElem_cons_zero]
  rw [dig_nat _ (by omega), World.cell?_alloc_new, hv]
  rfl

/-- the digits of n so far: the least of them are r, m is what is left -/
structure Left (n m : Nat) (l r : List UInt8) : Prop where
  eq : l = dig (m % 10) :: r
  val : n = m * 10 ^ r.length + digVal r
  dig : Digits r
  pos : r = [] ∨ 0 < m
theorem Left.start (n : Nat) : Left n n [Go.Proofs.YtkaelmbgfcehhaaDoor.dig (n % 10)] [] := ⟨rfl, by simp [digVal], by intro c hc; simp at hc, .inl rfl⟩
theorem Left.digits {n m : Nat} {l r : List UInt8} (h : Left n m l r) : Digits l := by
  rw [h.eq]
  intro c hc
  rcases List.mem_cons.1 hc with rfl | h2
  · rw [dig_nat _ (by omega)]; omega
  · exact h.dig c h2
theorem Left.digVal {n m : Nat} {l r : List UInt8} (h : Left n m l r) : digVal l = (m % 10) * 10 ^ r.length + Go.Proofs.YtkaelmbgfcehhaaDoor.digVal r := by
  rw [h.eq, digVal_cons, dig_nat _ (by omega)]
  congr 2
  omega
theorem Left.step {n m : Nat} {l r : List UInt8} (h : Left n m l r) (hm : 10 ≤ m) : Left n (m / 10) (Go.Proofs.YtkaelmbgfcehhaaDoor.dig (m / 10 % 10) :: l) l := by
  refine ⟨rfl, ?_, h.digits, .inr (by omega)⟩
  rw [h.digVal]
  have h1 := h.val
  have e : l.length = r.length + 1 := by rw [h.eq]; rfl
  rw [e, Nat.pow_succ]
  generalize 10 ^ r.length = P at *
  have e2 : m = 10 * (m / 10) + m % 10 := by omega
  rw [h1]
  generalize m / 10 = a at *
  generalize m % 10 = b at *
  subst e2
  have e3 : (10 * a + b) * P = a * (P * 10) + b * P := by rw [Nat.add_mul, Nat.mul_comm 10 a, Nat.mul_assoc, Nat.mul_comm 10 P]
  omega
theorem Left.canon {n m : Nat} {l r : List UInt8} (h : Left n m l r) (hm : m < 10) : Canon l n := by
  refine ⟨by rw [h.eq]; simp, h.digits, ?_, ?_⟩
  · rw [h.digVal, h.val, Nat.mod_eq_of_lt hm]
  · intro c t hl hc
    rw [h.eq] at hl
    injection hl with h1 h2
    subst h2
    rw [← h1, dig_nat _ (by omega)] at hc
    rcases h.pos with h3 | h3
    · exact h3
    · omega
theorem Left.short {n m : Nat} {l r : List UInt8} (h : Left n m l r) (hn : n < 18446744073709551616) : l.length ≤ 20 := by
  have e : l.length = r.length + 1 := by rw [h.eq]; rfl
  rcases h.pos with h1 | h1
  · rw [e, h1]; decide
  · have h2 : 10 ^ r.length ≤ n := by
      rw [h.val]
      have : 1 * 10 ^ r.length ≤ m * 10 ^ r.length := Nat.mul_le_mul_right _ h1
      omega
    have h3 : r.length < 20 := (Nat.pow_lt_pow_iff_right (a := 10) (by decide)).1 (Nat.lt_of_le_of_lt h2 (Nat.lt_of_lt_of_le hn (by decide)))
    omega

end Go.Proofs.YtkaelmbgfcehhaaDoor
end

section
/- thresherlaw03: fixed; a number has one text. -/
namespace Go.Proofs.YtkaelmbgfcehhaaDoor
open Go.RowKit
set_option linter.unusedVariables false

theorem digits_unique : ∀ l l' : List UInt8, Digits l → Digits l' → l.length = l'.length → digVal l = digVal l' → l = l'
  | [], [], _, _, _, _ => rfl
  | [], _ :: _, _, _, h, _ => by simp at h
  | _ :: _, [], _, _, h, _ => by simp at h
  | c :: r, c' :: r', hd, hd', hl, hv => by
    have hl2 : r.length = r'.length := by simpa using hl
    have h1 := hd c (by simp)
    have h1' := hd' c' (by simp)
    have hr : Digits r := fun x hx => hd x (by simp [hx])
    have hr' : Digits r' := fun x hx => hd' x (by simp [hx])
    rw [digVal_cons, digVal_cons, hl2] at hv
    have h2 := digVal_lt hr
    have h2' := digVal_lt hr'
    rw [hl2] at h2
    have hP : 0 < 10 ^ r'.length := Nat.pow_pos (by decide)
    generalize 10 ^ r'.length = P at *
    have ha : (digVal r + P * (c.toNat - 48)) / P = (digVal r' + P * (c'.toNat - 48)) / P := by
      rw [Nat.mul_comm P, Nat.mul_comm P, Nat.add_comm, hv, Nat.add_comm]
    rw [Nat.add_mul_div_left _ _ hP, Nat.add_mul_div_left _ _ hP, Nat.div_eq_of_lt h2, Nat.div_eq_of_lt h2'] at ha
    have hc : c = c' := UInt8.toNat_inj.1 (by omega)
    subst hc
    rw [digits_unique r r' hr hr' hl2 (by omega)]
theorem canon_low {l : List UInt8} {x : Nat} (h : Canon l x) (hl : 1 < l.length) : 10 ^ (l.length - 1) ≤ x := by
  cases h1 : l with
  | nil => exact absurd h1 h.ne
  | cons c r =>
    have h2 := h.dig c (by rw [h1]; simp)
    have h3 : c.toNat ≠ 48 := fun h4 => by
      have := h.top c r h1 h4
      rw [h1, this] at hl; simp at hl
    have h5 := h.val
    rw [h1, digVal_cons] at h5
    have h6 : 1 * 10 ^ r.length ≤ (c.toNat - 48) * 10 ^ r.length := Nat.mul_le_mul_right _ (by omega)
    simp only [List.length_cons, Nat.add_sub_cancel]
    omega
theorem canon_length {l l' : List UInt8} {x : Nat} (h : Canon l x) (h' : Canon l' x) : l.length ≤ l'.length := by
  rcases Nat.lt_or_ge l'.length l.length with h1 | h1
  · exfalso
    have h0 : 0 < l'.length := List.length_pos_iff.2 h'.ne
    have h2 := canon_low h (by omega)
    have h3 := digVal_lt h'.dig
    rw [h'.val] at h3
    have h4 : 10 ^ l'.length ≤ 10 ^ (l.length - 1) := Nat.pow_le_pow_right (by decide) (by omega)
    omega
  · exact h1
/-- a number has one text -/
theorem canon_unique {l l' : List UInt8} {x : Nat} (h : Canon l x) (h' : Canon l' x) : l = l' :=
  digits_unique l l' h.dig h'.dig (Nat.le_antisymm (canon_length h h') (canon_length h' h)) (by rw [h.val, h'.val])
theorem digits_mk {l : List UInt8} (h : (l.all fun c => decide (48 ≤ c.toNat) && decide (c.toNat ≤ 57)) = true) : Digits l := by
  intro c hc
  have := List.all_eq_true.1 h c hc
  simpa using this
theorem canon_mk {l : List UInt8} {x : Nat} (h : (l.all fun c => decide (48 ≤ c.toNat) && decide (c.toNat ≤ 57)) = true) (hne : l ≠ []) (hv : digVal l = x) (ht : l.length = 1 ∨ l.head? ≠ some 48) : Canon l x := by
  refine ⟨hne, ?_, hv, ?_⟩
  · intro c hc
    have := List.all_eq_true.1 h c hc
    simpa using this
  · intro c r hl hc
    rcases ht with h1 | h1
    · rw [hl] at h1; simpa using h1
    · rw [hl] at h1
      exact absurd (by simp; exact UInt8.toNat_inj.1 hc) h1

def okAt (i : Nat) : Bool := !(decide (1000 ≤ scaledN 4653144203864309760 (3 - ((i : Int) - 325))) && decide (scaledN 4653144203864309760 (3 - ((i : Int) - 325)) < 10000)) || i == 328
theorem okAll : (List.range 635).all okAt = true := by kernel_rfl
theorem sci_fixed {x : Int} (h1 : -325 ≤ x) (h2 : x ≤ 309) (h : SciAt 4653144203864309760 3 x) : x = 3 := by
  have h3 := List.all_eq_true.1 okAll (x + 325).toNat (List.mem_range.2 (by omega))
  unfold okAt at h3
  rw [show (((x + 325).toNat : Nat) : Int) - 325 = x by omega] at h3
  have h4 := h.ge
  have h5 := h.lt
  rw [show (10 : Nat) ^ 3 = 1000 by decide] at h4
  rw [show (10 : Nat) ^ (3 + 1) = 10000 by decide] at h5
  have e : ((3 : Nat) : Int) = 3 := rfl
  rw [e] at h4 h5
  rw [decide_eq_true h4, decide_eq_true h5] at h3
  have h6 : (x + 325).toNat = 328 := by simpa using h3
  omega

theorem toBytes {s : ByteArray} {l : List UInt8} (h : s.data.toList = l) : s = ⟨l.toArray⟩ := by
  cases s; simp at h; subst h; rfl

theorem Read_fixed (w : World) : Calls Tryd.prog 51 #[.string ⟨#[51, 49, 52, 49, 54]⟩, .int .i64 (-4)] w fun e w' => e = .returned (.tuple #[.float .f64 4614256673094690983, .int .i64 0]) ∧ Below w.heap.size w w' := by
  have h := Read_ok ⟨#[51, 49, 52, 49, 54]⟩ (-4) w (by simp) (digits_mk (by decide)) (by decide) (by decide) (by decide)
  rw [show readB (⟨#[51, 49, 52, 49, 54]⟩ : ByteArray).data.toList (-4) = 4614256673094690983 by kernel_rfl] at h
  exact h
end Go.Proofs.YtkaelmbgfcehhaaDoor
end

section
/- Plain: how the model reads a float's bits, and compares them. -/
namespace Go.Proofs.YtkaelmbgfcehhaaDoor
open Go

/-- the float in steps of the least one -/
def vl (b : Nat) : Nat := mof b * 2 ^ jof b
theorem vl_lt {x y : Nat} (h : x < y) : vl x < vl y := by
  unfold vl
  have hx := bits_parts x
  have hy := bits_parts y
  have h1 := mof_lt x
  have h2 := mof_lt y
  have h3 := mof_ge x
  have h4 := mof_ge y
  rcases Nat.lt_trichotomy (jof x) (jof y) with hj | hj | hj
  · have h5 : 2 ^ 52 ≤ mof y := by rcases h4 with h | h; omega; exact h
    calc mof x * 2 ^ jof x < 2 ^ 53 * 2 ^ jof x := Nat.mul_lt_mul_of_pos_right h1 (pow2_pos _)
      _ = 2 ^ 52 * 2 ^ (jof x + 1) := by rw [two53, Nat.pow_succ 2 (jof x), Nat.mul_assoc, Nat.mul_comm 2]
      _ ≤ 2 ^ 52 * 2 ^ jof y := Nat.mul_le_mul_left _ (Nat.pow_le_pow_right (by decide) hj)
      _ ≤ mof y * 2 ^ jof y := Nat.mul_le_mul_right _ h5
  · rw [hj]
    exact Nat.mul_lt_mul_of_pos_right (by rw [hj] at hx; omega) (pow2_pos _)
  · exfalso
    have h5 : (jof y + 1) * 2 ^ 52 ≤ jof x * 2 ^ 52 := Nat.mul_le_mul_right _ hj
    rw [Nat.add_mul] at h5
    have h6 : 2 ^ 52 ≤ mof x := by rcases h3 with h | h; omega; exact h
    have h7 : (2 : Nat) ^ 53 = 2 ^ 52 + 2 ^ 52 := by decide
    omega
theorem vl_le {x y : Nat} (h : x ≤ y) : vl x ≤ vl y := by
  rcases Nat.eq_or_lt_of_le h with rfl | h
  · exact Nat.le_refl _
  · exact Nat.le_of_lt (vl_lt h)
theorem read_inf : FloatKind.f64.format.read 9218868437227405312 = .infinity false := by decide
theorem read_fin {b : Nat} (h : b < 9218868437227405312) : FloatKind.f64.format.read b = .number false (mof b) ((jof b : Int) - 1074) := by
  have e1 : FloatKind.f64.format.signWeight = 9223372036854775808 := by decide
  have e2 : FloatKind.f64.format.binade = 4503599627370496 := by decide
  have e3 : FloatKind.f64.format.infRung = 9218868437227405312 := by decide
  have e4 : FloatKind.f64.format.leastPlace = -1074 := by decide
  have e5 : (b / 9223372036854775808 % 2 == 1) = false := by rw [Nat.div_eq_of_lt (by omega)]; rfl
  have e6 : b % 9223372036854775808 = b := Nat.mod_eq_of_lt (by omega)
  unfold Ieee.Format.read
  simp only [e1, e2, e3, e4, e5, e6]
  have e7 : (2 : Nat) ^ 52 = 4503599627370496 := by decide
  unfold mof jof
  rw [e7]
  by_cases hs : b < 4503599627370496
  · rw [if_pos hs, if_pos (by omega)]
    congr 1
    rw [Nat.div_eq_of_lt hs]
    rfl
  · rw [if_neg hs, if_pos h, if_neg (by omega)]
    congr 1
    all_goals omega
theorem order_fin {x y : Nat} (hx : x < 9218868437227405312) (hy : y < 9218868437227405312) : FloatKind.f64.format.order x y = some (compare x y) := by
  unfold Ieee.Format.order
  rw [read_fin hx, read_fin hy]
  unfold Ieee.Datum.order
  simp only
  congr 1
  obtain ⟨c, hc⟩ : ∃ c, c = min (jof x) (jof y) := ⟨_, rfl⟩
  have e1 : ((jof x : Int) - 1074 - min ((jof x : Int) - 1074) ((jof y : Int) - 1074)).toNat = jof x - c := by omega
  have e2 : ((jof y : Int) - 1074 - min ((jof x : Int) - 1074) ((jof y : Int) - 1074)).toNat = jof y - c := by omega
  rw [e1, e2]
  unfold Ieee.signed
  simp only [Bool.false_eq_true, if_false]
  rw [Nat.shiftLeft_eq, Nat.shiftLeft_eq]
  have h1 : mof x * 2 ^ (jof x - c) * 2 ^ c = vl x := by unfold vl; rw [Nat.mul_assoc, ← Nat.pow_add, Nat.sub_add_cancel (by omega)]
  have h2 : mof y * 2 ^ (jof y - c) * 2 ^ c = vl y := by unfold vl; rw [Nat.mul_assoc, ← Nat.pow_add, Nat.sub_add_cancel (by omega)]
  have hp := pow2_pos c
  generalize mof x * 2 ^ (jof x - c) = a at *
  generalize mof y * 2 ^ (jof y - c) = b at *
  rcases Nat.lt_trichotomy x y with h | h | h
  · have h3 := vl_lt h
    rw [← h1, ← h2] at h3
    have h4 := Nat.lt_of_mul_lt_mul_right h3
    rw [Int.compare_eq_lt.2 (by omega), Nat.compare_eq_lt.2 h]
  · subst h
    have h4 : a = b := Nat.eq_of_mul_eq_mul_right hp (h1.trans h2.symm)
    subst h4
    rw [Int.compare_eq_eq.2 rfl, Nat.compare_eq_eq.2 rfl]
  · have h3 := vl_lt h
    rw [← h1, ← h2] at h3
    have h4 := Nat.lt_of_mul_lt_mul_right h3
    rw [Int.compare_eq_gt.2 (by omega), Nat.compare_eq_gt.2 h]
/-- floats that are not negative, and no NaN, are compared as their bits -/
theorem order_pos {x y : Nat} (hx : x ≤ 9218868437227405312) (hy : y ≤ 9218868437227405312) : FloatKind.f64.format.order x y = some (compare x y) := by
  rcases Nat.eq_or_lt_of_le hx with h1 | h1 <;> rcases Nat.eq_or_lt_of_le hy with h2 | h2
  · subst h1 h2; decide
  · subst h1
    unfold Ieee.Format.order
    rw [read_inf, read_fin h2, Nat.compare_eq_gt.2 h2]
    rfl
  · subst h2
    unfold Ieee.Format.order
    rw [read_inf, read_fin h1, Nat.compare_eq_lt.2 h1]
    rfl
  · exact order_fin h1 h2
theorem order_lt {x y : Nat} (hx : x ≤ 9218868437227405312) (hy : y ≤ 9218868437227405312) (h : x < y) : FloatKind.f64.format.order x y = some .lt := by rw [order_pos hx hy, Nat.compare_eq_lt.2 h]
theorem order_gt {x y : Nat} (hx : x ≤ 9218868437227405312) (hy : y ≤ 9218868437227405312) (h : y < x) : FloatKind.f64.format.order x y = some .gt := by rw [order_pos hx hy, Nat.compare_eq_gt.2 h]
theorem order_eq {x : Nat} (hx : x ≤ 9218868437227405312) : FloatKind.f64.format.order x x = some .eq := by rw [order_pos hx hx, Nat.compare_eq_eq.2 rfl]
end Go.Proofs.YtkaelmbgfcehhaaDoor
end

section
/- thresherlaw03: DecRises. -/
namespace Go.Proofs.YtkaelmbgfcehhaaDoor
open Go.RowKit
set_option linter.unusedVariables false

theorem bare_self {c : UInt8} {r : List UInt8} (h : c ≠ 48) : bare (c :: r) = c :: r := by
  unfold bare
  rw [List.dropWhile_cons, if_neg (by simpa using h)]
theorem bare_nought (l : List UInt8) : bare (48 :: l) = bare l := by
  unfold bare
  rw [List.dropWhile_cons, if_pos (by decide)]
theorem canon_zero_text {l : List UInt8} (h : Canon l 0) : l = [48] :=
  canon_unique h (canon_mk (by decide) (by simp) (by decide) (.inl rfl))
theorem canon_pos_text {l : List UInt8} {n : Nat} (h : Canon l n) (hn : 0 < n) : ∃ c r, l = c :: r ∧ c ≠ 48 := by
  cases h1 : l with
  | nil => exact absurd h1 h.ne
  | cons c r =>
    refine ⟨c, r, rfl, fun hc => ?_⟩
    have h2 := h.top c r h1 (by rw [hc]; decide)
    rw [h1, h2, hc] at h
    have h3 := h.val
    have h4 : digVal [48] = 0 := by decide
    omega
theorem readB_nil {l : List UInt8} (h : bare l = []) (e : Int) : readB l e = 0 := by
  unfold readB
  rw [h, if_pos (.inl rfl)]
theorem readB_le (l : List UInt8) (e : Int) : readB l e ≤ 9218868437227405312 := by
  unfold readB
  split
  · omega
  · split
    · omega
    · split
      · omega
      · exact near_le _ _
theorem readB_inf {l : List UInt8} {e : Int} (h0 : (bare l).length ≠ 0) (h1 : -4000 ≤ e) (h : 310 < (bare l).length + e) : readB l e = 9218868437227405312 := by
  unfold readB
  rw [if_neg (by omega), if_pos (.inr h)]
theorem readB_low {l : List UInt8} {e : Int} (h2 : e ≤ 2000) (h : (bare l).length + e < -330) : readB l e = 0 := by
  unfold readB
  by_cases h3 : (bare l).length = 0 ∨ e < -4000
  · rw [if_pos h3]
  · rw [if_neg h3, if_neg (by omega), if_pos h]
theorem readB_near {l : List UInt8} {e : Int} (h0 : (bare l).length ≠ 0) (h1 : -4000 ≤ e) (h2 : e ≤ 2000) (h3 : -330 ≤ (bare l).length + e) (h4 : (bare l).length + e ≤ 310) : readB l e = near (digVal (bare l) * 10 ^ e.toNat) (10 ^ (-e).toNat) := by
  unfold readB
  rw [if_neg (by omega), if_neg (by omega), if_neg (by omega)]
theorem bare_pos_text {l : List UInt8} {n : Nat} (h : Canon l n) (hn : 0 < n) : bare l = l := by
  obtain ⟨c, r, rfl, hc⟩ := canon_pos_text h hn
  exact bare_self hc
theorem readB_append {l : List UInt8} {n : Nat} {e : Int} (h : Canon l n) (h1 : -700 ≤ e) (h2 : e ≤ 700) : readB (l ++ [48]) (e - 1) = readB l e := by
  rcases Nat.eq_zero_or_pos n with hn | hn
  · subst hn
    rw [canon_zero_text h, readB_nil (by decide), readB_nil (by decide)]
  · have hb0 := bare_pos_text h hn
    have hb : bare (l ++ [48]) = l ++ [48] := by
      obtain ⟨c, r, rfl, hc⟩ := canon_pos_text h hn
      exact bare_self hc
    have hk : (bare (l ++ [48])).length = l.length + 1 := by rw [hb]; simp
    have hk0 : (bare l).length = l.length := by rw [hb0]
    have hk1 : l.length ≠ 0 := by have := List.length_pos_iff.2 h.ne; omega
    rcases Int.lt_or_le 310 (l.length + e) with c2 | c2
    · rw [readB_inf (by omega) (by omega) (by omega), readB_inf (by omega) (by omega) (by omega)]
    · rcases Int.lt_or_le (l.length + e) (-330) with c3 | c3
      · rw [readB_low (by omega) (by omega), readB_low (by omega) (by omega)]
      · rw [readB_near (by omega) (by omega) (by omega) (by omega) (by omega), readB_near (by omega) (by omega) (by omega) (by omega) (by omega), hb, hb0, digVal_snoc, h.val]
        have e0 : (UInt8.toNat 48 - 48 : Nat) = 0 := by decide
        rw [e0, Nat.add_zero]
        refine near_same (Nat.pow_pos (by decide)) (Nat.pow_pos (by decide)) ?_
        rcases Int.lt_or_le 0 e with he | he
        · rw [show e.toNat = (e - 1).toNat + 1 by omega, show (-e).toNat = (-(e - 1)).toNat by omega, Nat.pow_succ]
          generalize 10 ^ (-(e - 1)).toNat = P
          generalize 10 ^ (e - 1).toNat = Q
          ac_rfl
        · rw [show (-(e - 1)).toNat = (-e).toNat + 1 by omega, show (e - 1).toNat = e.toNat by omega, Nat.pow_succ]
          generalize 10 ^ (-e).toNat = P
          generalize 10 ^ e.toNat = Q
          ac_rfl
theorem readB_noughts (l : List UInt8) (e : Int) : readB (48 :: 48 :: l) e = readB l e := by
  unfold readB
  rw [bare_nought, bare_nought]
theorem canon_rise {l l' : List UInt8} {n m : Nat} (h : Canon l n) (h' : Canon l' m) (hn : 0 < n) (hnm : n ≤ m) : l.length ≤ l'.length := by
  have h3 := digVal_lt h'.dig
  rw [h'.val] at h3
  have h0 : 0 < l'.length := List.length_pos_iff.2 h'.ne
  rcases Nat.lt_or_ge l'.length l.length with h1 | h1
  · have h2 := canon_low h (by omega)
    have h4 : 10 ^ l'.length ≤ 10 ^ (l.length - 1) := Nat.pow_le_pow_right (by decide) (by omega)
    omega
  · exact h1
theorem readB_mono {l l' : List UInt8} {n m : Nat} {e : Int} (h : Canon l n) (h' : Canon l' m) (hnm : n ≤ m) (h1 : -700 ≤ e) (h2 : e ≤ 700) : readB l e ≤ readB l' e := by
  rcases Nat.eq_zero_or_pos n with hn | hn
  · subst hn
    rw [canon_zero_text h, readB_nil (by decide)]
    exact Nat.zero_le _
  · have hl := canon_rise h h' hn hnm
    have hk : (bare l).length = l.length := by rw [bare_pos_text h hn]
    have hk' : (bare l').length = l'.length := by rw [bare_pos_text h' (by omega)]
    have hk1 : l.length ≠ 0 := by have := List.length_pos_iff.2 h.ne; omega
    rcases Int.lt_or_le 310 (l'.length + e) with c2 | c2
    · rw [readB_inf (l := l') (by omega) (by omega) (by omega)]
      exact readB_le _ _
    · rcases Int.lt_or_le (l.length + e) (-330) with c3 | c3
      · rw [readB_low (l := l) (by omega) (by omega)]
        exact Nat.zero_le _
      · rw [readB_near (l := l) (by omega) (by omega) (by omega) (by omega) (by omega), readB_near (l := l') (by omega) (by omega) (by omega) (by omega) (by omega), bare_pos_text h hn, bare_pos_text h' (by omega), h.val, h'.val]
        exact near_mono (Nat.pow_pos (by decide)) (Nat.pow_pos (by decide)) (Nat.mul_le_mul_right _ (Nat.mul_le_mul_right _ hnm))

end Go.Proofs.YtkaelmbgfcehhaaDoor
end
