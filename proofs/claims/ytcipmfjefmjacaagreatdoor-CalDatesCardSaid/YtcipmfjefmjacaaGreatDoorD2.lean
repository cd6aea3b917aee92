/- Package dec: rounded. -/
import Derived.Test.YtcipmfjefmjacaaGreatDoorD1
namespace Go.Proofs.YtcipmfjefmjacaaGreatDoor
open Go.RowKit
set_option linter.unusedVariables false

/-- the whole number nearest to a fraction, ties to the even one -/
def rnd (x y : Nat) : Nat := if y < 2 * (x % y) ∨ 2 * (x % y) = y ∧ x / y % 2 = 1 then x / y + 1 else x / y
theorem rnd_le (x y : Nat) : rnd x y ≤ x / y + 1 := by unfold rnd; split <;> omega

theorem Cmp_V (va vb : Value) (x y : Nat) (w : World) (ha : NatV w va x) (hb : NatV w vb y) :
    Calls Tryz.prog 126 #[va, vb] w fun e w' => e = .returned (.int .i64 (cmpN x y)) ∧ Below w.heap.size w w' := by
  obtain ⟨a, ca, rfl, ha⟩ := ha
  obtain ⟨b, cb, rfl, hb⟩ := hb
  exact Cmp_any a ca x b cb y w ha hb

theorem u32_odd (x : Nat) (hx : x < 4294967296) : bits .and .u32 (x : Int) 1 = ((x % 2 : Nat) : Int) := by
  have h3 := u32_and_nat x 1 hx (by decide)
  rw [nat_mask1] at h3
  exact h3

theorem limbs_head {q : Nat} (h : 0 < (limbs q).length) : (limbs q)[0] % 2 = q % 2 := by
  have hq : q ≠ 0 := by rintro rfl; rw [limbs_zero] at h; simp at h
  have e := limbs_pos hq
  have : (limbs q)[0] = q % B32 := by simp [e]
  rw [this, B32]; omega

set_option maxRecDepth 100000 in
set_option maxHeartbeats 4000000 in
theorem rounded_any (va vb : Value) (x y : Nat) (w : World) (hx : NatV w va x) (hy : NatV w vb y) (hX : (limbs x).length ≤ 256) (hY : (limbs (2 * y)).length ≤ 256) (hy0 : 0 < y) (hQ : (limbs (x / y + 1)).length ≤ 256) :
    Calls Tryz.prog 108 #[va, vb] w fun e w' => ∃ v, e = .returned v ∧ NatV w' v (rnd x y) ∧ Below w.heap.size w w' := by
  have hY1 : (limbs y).length ≤ 256 := limbs_le_of_le (by omega) hY
  have HX := Lib.hid hx
  have HY := Lib.hid hy
  clear hx hy
  go_enter Tryz.func108, Tryz.ntmps108
  go_wp2_with fail
  refine (Div_any va vb x y w HX.out HY.out hX hY1 hy0).mono ?_
  rintro e w1 ⟨q, r, rfl, hq, hr, hb1⟩
  have HQ := Lib.hid hq
  have HR := Lib.hid hr
  have HB1 := Lib.hid hb1
  have HY1 := Lib.hid (HY.out.below hb1)
  have hs1 := hb1.size
  clear hq hr hb1 HX HY
  go_wp2_with fail
  have hr2 : x % y * 2 ^ (Int.toNat 1) = 2 * (x % y) := by
    rw [show Int.toNat 1 = 1 from rfl, Nat.pow_one, Nat.mul_comm]
  have hrl : (limbs (2 * (x % y))).length ≤ 256 := limbs_le_of_le (by have := Nat.mod_lt x hy0; omega) hY
  have HS := shifted_any r (x % y) 1 w1 HR.out (by decide) (by decide) (by rw [hr2]; exact hrl)
  rw [hr2] at HS
  refine HS.mono ?_
  rintro e w2 ⟨v2, rfl, hn2, hb2⟩
  have HN2 := Lib.hid hn2
  have HB2 := Lib.hid (HB1.out.trans (hb2.mono hs1))
  have HQ2 := Lib.hid (HQ.out.below hb2)
  have HY2 := Lib.hid (HY1.out.below hb2)
  have hs2 := hb2.size
  clear hn2 hb2 HS HQ HR HY1 HB1 hr2 hrl
  obtain ⟨aq, cq, rfl, hlq⟩ := HQ2.out
  have hq0 : (limbs (x / y)).length ≠ 0 → ∃ b, ∃ off, aq = some ⟨b, off, none⟩ ∧ ∃ t, w2.cell? ⟨b, off, none⟩ = some (.int .u32 (t : Nat)) ∧ t < 4294967296 ∧ t % 2 = x / y % 2 := by
    intro h
    obtain ⟨b, off, e, hc⟩ := hlq.at_ 0 (by omega)
    have h0 : 0 < (limbs (x / y)).length := Nat.pos_of_ne_zero h
    have h1 := limbs_head h0
    have h2 := hlq.lt _ (List.getElem_mem h0)
    exact ⟨b, off, e, (limbs (x / y))[0], by simpa using hc, h2, h1⟩
  have hql : (limbs (x / y)).length ≤ 256 := limbs_le_of_le (Nat.div_le_self _ _) hX
  have HC := Lib.hid (Cmp_V v2 vb (2 * (x % y)) y w2 HN2.out HY2.out)
  have HADD := Lib.hid (fun (v1 : Value) (w' : World) (h : NatV w' (.slice aq (limbs (x / y)).length cq) (x / y)) (h1 : NatV w' v1 1) => Add_any _ v1 (x / y) 1 w' h h1 hql (limbs_length_le (by decide)) hQ)
  clear hQ hX hY hY1
  have hqv : Hid ((limbs (x / y)).length = 0 → x / y = 0) := fun h => limbs_eq_nil.1 (List.eq_nil_of_length_eq_zero h)
  clear hlq
  have hup : Hid (y < 2 * (x % y) → rnd x y = x / y + 1) := by
    show _ → _; intro h; unfold rnd; rw [if_pos (.inl h)]
  have hdn : Hid (2 * (x % y) < y → rnd x y = x / y) := by
    show _ → _; intro h; unfold rnd; rw [if_neg (by omega)]
  have heq1 : Hid (2 * (x % y) = y → x / y % 2 = 1 → rnd x y = x / y + 1) := by
    show _ → _; intro h h1; unfold rnd; rw [if_pos (.inr ⟨h, h1⟩)]
  have heq0 : Hid (2 * (x % y) = y → x / y % 2 = 0 → rnd x y = x / y) := by
    show _ → _; intro h h1; unfold rnd; rw [if_neg (by omega)]
  generalize hrn : rnd x y = rn at *
  have HRN := Lib.hid hrn
  clear hrn
  have hq0' : (limbs (x / y)).length = 0 ∨ 0 < (limbs (x / y)).length := Nat.eq_zero_or_pos _
  generalize limbs (x / y) = Q at *
  generalize x / y = q at *
  generalize 2 * (x % y) = r2 at *
  rcases Nat.lt_trichotomy r2 y with hlt | hlt | hlt
  · have hcm : cmpN r2 y = -1 := by simp only [cmpN]; rw [if_pos hlt]
    rw [hcm] at HC
    clear hcm
    rcases hq0' with h0 | h0
    · have hq00 : q = 0 := hqv.out h0
      rw [h0] at HQ2 HADD
      have HRN2 : Hid (rnd x y = q) := by show _ = _; rw [HRN.out]; exact hdn.out hlt
      clear HRN hup hdn heq1 heq0 hlt
      go_wp2_with fail
      refine HC.out.mono ?_
      rintro e w3 ⟨rfl, hb3⟩
      have HQ3 := Lib.hid (HQ2.out.below hb3)
      have HB3 := Lib.hid (HB2.out.trans (hb3.mono (by omega)))
      clear hb3 HQ2 HB2
      go_wp2_with fail
      go_ret
      exact ⟨_, rfl, by rw [HRN2.out]; exact HQ3.out, HB3.out⟩

    rcases Nat.mod_two_eq_zero_or_one q with hp | hp
    · obtain ⟨b, off, rfl, t, hc, ht, htq⟩ := hq0 (by omega)
      have hodd := u32_odd t ht
      rw [htq, hp] at hodd
      have HRN2 : Hid (rnd x y = q) := by show _ = _; rw [HRN.out]; exact hdn.out hlt
      clear HRN hup hdn heq1 heq0 hlt
      go_wp2_with fail
      refine HC.out.mono ?_
      rintro e w3 ⟨rfl, hb3⟩
      have HQ3 := Lib.hid (HQ2.out.below hb3)
      have HB3 := Lib.hid (HB2.out.trans (hb3.mono (by omega)))
      clear hb3 HQ2 HB2
      go_wp2_with fail
      go_ret
      exact ⟨_, rfl, by rw [HRN2.out]; exact HQ3.out, HB3.out⟩

    · obtain ⟨b, off, rfl, t, hc, ht, htq⟩ := hq0 (by omega)
      have hodd := u32_odd t ht
      rw [htq, hp] at hodd
      have HRN2 : Hid (rnd x y = q) := by show _ = _; rw [HRN.out]; exact hdn.out hlt
      clear HRN hup hdn heq1 heq0 hlt
      go_wp2_with fail
      refine HC.out.mono ?_
      rintro e w3 ⟨rfl, hb3⟩
      have HQ3 := Lib.hid (HQ2.out.below hb3)
      have HB3 := Lib.hid (HB2.out.trans (hb3.mono (by omega)))
      clear hb3 HQ2 HB2
      go_wp2_with fail
      go_ret
      exact ⟨_, rfl, by rw [HRN2.out]; exact HQ3.out, HB3.out⟩

  · have hcm : cmpN r2 y = 0 := by simp only [cmpN]; rw [if_neg (by omega), if_pos hlt]
    rw [hcm] at HC
    clear hcm
    rcases hq0' with h0 | h0
    · have hq00 : q = 0 := hqv.out h0
      rw [h0] at HQ2 HADD
      have HRN2 : Hid (rnd x y = q) := by show _ = _; rw [HRN.out]; exact heq0.out hlt (by omega)
      clear HRN hup hdn heq1 heq0 hlt
      go_wp2_with fail
      refine HC.out.mono ?_
      rintro e w3 ⟨rfl, hb3⟩
      have HQ3 := Lib.hid (HQ2.out.below hb3)
      have HB3 := Lib.hid (HB2.out.trans (hb3.mono (by omega)))
      clear hb3 HQ2 HB2
      go_wp2_with fail
      go_ret
      exact ⟨_, rfl, by rw [HRN2.out]; exact HQ3.out, HB3.out⟩

    rcases Nat.mod_two_eq_zero_or_one q with hp | hp
    · obtain ⟨b, off, rfl, t, hc, ht, htq⟩ := hq0 (by omega)
      have hodd := u32_odd t ht
      rw [htq, hp] at hodd
      have HRN2 : Hid (rnd x y = q) := by show _ = _; rw [HRN.out]; exact heq0.out hlt hp
      clear HRN hup hdn heq1 heq0 hlt
      go_wp2_with fail
      refine HC.out.mono ?_
      rintro e w3 ⟨rfl, hb3⟩
      have HQ3 := Lib.hid (HQ2.out.below hb3)
      have HB3 := Lib.hid (HB2.out.trans (hb3.mono (by omega)))
      clear hb3 HQ2 HB2
      go_wp2_with fail
      go_ret
      exact ⟨_, rfl, by rw [HRN2.out]; exact HQ3.out, HB3.out⟩

    · obtain ⟨b, off, rfl, t, hc, ht, htq⟩ := hq0 (by omega)
      have hodd := u32_odd t ht
      rw [htq, hp] at hodd
      have HRN2 : Hid (rnd x y = q + 1) := by show _ = _; rw [HRN.out]; exact heq1.out hlt hp
      clear HRN hup hdn heq1 heq0 hlt
      go_wp2_with fail
      refine HC.out.mono ?_
      rintro e w3 ⟨rfl, hb3⟩
      have HQ3 := Lib.hid (HQ2.out.below hb3)
      have HB3 := Lib.hid (HB2.out.trans (hb3.mono (by omega)))
      have hs3 := hb3.size
      clear hb3 HQ2 HB2
      go_wp2_with fail
      refine (FromV 1 1 rfl (by decide) w3).mono ?_
      rintro e w4 ⟨v4, rfl, hn4, hb4⟩
      have HN4 := Lib.hid hn4
      have HQ4 := Lib.hid (HQ3.out.below hb4)
      have HB4 := Lib.hid (HB3.out.trans (hb4.mono (by omega)))
      have hs4 := hb4.size
      clear hn4 hb4 HQ3 HB3
      go_wp2_with fail
      refine (HADD.out v4 w4 HQ4.out HN4.out).mono ?_
      rintro e w5 ⟨v5, rfl, hn5, hb5⟩
      have HN5 := Lib.hid hn5
      have HB5 := Lib.hid (HB4.out.trans (hb5.mono (by omega)))
      clear hn5 hb5 HQ4 HB4 HN4
      go_wp2_with fail
      go_ret
      exact ⟨_, rfl, by rw [HRN2.out]; exact HN5.out, HB5.out⟩

  · have hcm : cmpN r2 y = 1 := by simp only [cmpN]; rw [if_neg (by omega), if_neg (by omega)]
    rw [hcm] at HC
    clear hcm
    rcases hq0' with h0 | h0
    · have hq00 : q = 0 := hqv.out h0
      rw [h0] at HQ2 HADD
      have HRN2 : Hid (rnd x y = q + 1) := by show _ = _; rw [HRN.out]; exact hup.out hlt
      clear HRN hup hdn heq1 heq0 hlt
      go_wp2_with fail
      refine HC.out.mono ?_
      rintro e w3 ⟨rfl, hb3⟩
      have HQ3 := Lib.hid (HQ2.out.below hb3)
      have HB3 := Lib.hid (HB2.out.trans (hb3.mono (by omega)))
      have hs3 := hb3.size
      clear hb3 HQ2 HB2
      go_wp2_with fail
      refine (FromV 1 1 rfl (by decide) w3).mono ?_
      rintro e w4 ⟨v4, rfl, hn4, hb4⟩
      have HN4 := Lib.hid hn4
      have HQ4 := Lib.hid (HQ3.out.below hb4)
      have HB4 := Lib.hid (HB3.out.trans (hb4.mono (by omega)))
      have hs4 := hb4.size
      clear hn4 hb4 HQ3 HB3
      go_wp2_with fail
      refine (HADD.out v4 w4 HQ4.out HN4.out).mono ?_
      rintro e w5 ⟨v5, rfl, hn5, hb5⟩
      have HN5 := Lib.hid hn5
      have HB5 := Lib.hid (HB4.out.trans (hb5.mono (by omega)))
      clear hn5 hb5 HQ4 HB4 HN4
      go_wp2_with fail
      go_ret
      exact ⟨_, rfl, by rw [HRN2.out]; exact HN5.out, HB5.out⟩

    rcases Nat.mod_two_eq_zero_or_one q with hp | hp
    · obtain ⟨b, off, rfl, t, hc, ht, htq⟩ := hq0 (by omega)
      have hodd := u32_odd t ht
      rw [htq, hp] at hodd
      have HRN2 : Hid (rnd x y = q + 1) := by show _ = _; rw [HRN.out]; exact hup.out hlt
      clear HRN hup hdn heq1 heq0 hlt
      go_wp2_with fail
      refine HC.out.mono ?_
      rintro e w3 ⟨rfl, hb3⟩
      have HQ3 := Lib.hid (HQ2.out.below hb3)
      have HB3 := Lib.hid (HB2.out.trans (hb3.mono (by omega)))
      have hs3 := hb3.size
      clear hb3 HQ2 HB2
      go_wp2_with fail
      refine (FromV 1 1 rfl (by decide) w3).mono ?_
      rintro e w4 ⟨v4, rfl, hn4, hb4⟩
      have HN4 := Lib.hid hn4
      have HQ4 := Lib.hid (HQ3.out.below hb4)
      have HB4 := Lib.hid (HB3.out.trans (hb4.mono (by omega)))
      have hs4 := hb4.size
      clear hn4 hb4 HQ3 HB3
      go_wp2_with fail
      refine (HADD.out v4 w4 HQ4.out HN4.out).mono ?_
      rintro e w5 ⟨v5, rfl, hn5, hb5⟩
      have HN5 := Lib.hid hn5
      have HB5 := Lib.hid (HB4.out.trans (hb5.mono (by omega)))
      clear hn5 hb5 HQ4 HB4 HN4
      go_wp2_with fail
      go_ret
      exact ⟨_, rfl, by rw [HRN2.out]; exact HN5.out, HB5.out⟩

    · obtain ⟨b, off, rfl, t, hc, ht, htq⟩ := hq0 (by omega)
      have hodd := u32_odd t ht
      rw [htq, hp] at hodd
      have HRN2 : Hid (rnd x y = q + 1) := by show _ = _; rw [HRN.out]; exact hup.out hlt
      clear HRN hup hdn heq1 heq0 hlt
      go_wp2_with fail
      refine HC.out.mono ?_
      rintro e w3 ⟨rfl, hb3⟩
      have HQ3 := Lib.hid (HQ2.out.below hb3)
      have HB3 := Lib.hid (HB2.out.trans (hb3.mono (by omega)))
      have hs3 := hb3.size
      clear hb3 HQ2 HB2
      go_wp2_with fail
      refine (FromV 1 1 rfl (by decide) w3).mono ?_
      rintro e w4 ⟨v4, rfl, hn4, hb4⟩
      have HN4 := Lib.hid hn4
      have HQ4 := Lib.hid (HQ3.out.below hb4)
      have HB4 := Lib.hid (HB3.out.trans (hb4.mono (by omega)))
      have hs4 := hb4.size
      clear hn4 hb4 HQ3 HB3
      go_wp2_with fail
      refine (HADD.out v4 w4 HQ4.out HN4.out).mono ?_
      rintro e w5 ⟨v5, rfl, hn5, hb5⟩
      have HN5 := Lib.hid hn5
      have HB5 := Lib.hid (HB4.out.trans (hb5.mono (by omega)))
      clear hn5 hb5 HQ4 HB4 HN4
      go_wp2_with fail
      go_ret
      exact ⟨_, rfl, by rw [HRN2.out]; exact HN5.out, HB5.out⟩

end Go.Proofs.YtcipmfjefmjacaaGreatDoor
