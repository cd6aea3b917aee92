/- Several texts in one (D1, D2, D3, D4, D5, D6, D7, R0, R1, R2, R3, R4, R5, R6, R7). -/
import Derived.Test.YtcmpdamfeoaapaaGreatDoorM2
import Derived.KernelRfl
section
/- Package dec: pow10, shifted, word. -/
namespace Go.Proofs.YtcmpdamfeoaapaaGreatDoor
open Go.RowKit
set_option linter.unusedVariables false

theorem limbs_le_of_le {x y k : Nat} (h : x ≤ y) (hy : (limbs y).length ≤ k) : (limbs x).length ≤ k :=
  limbs_length_le (Nat.lt_of_le_of_lt h (lt_of_limbs_length hy))

theorem FromV (n : Nat) (m : Int) (hm : m = (n : Int)) (hn : n < 18446744073709551616) (w : World) :
    Calls Tryz.prog 161 #[.int .u64 m] w fun e w' => ∃ v, e = .returned v ∧ NatV w' v n ∧ Below w.heap.size w w' := by
  subst hm
  refine (From_any n hn w).mono ?_
  rintro e w' ⟨a, cap, rfl, hl, hb⟩
  exact ⟨_, rfl, ⟨a, cap, rfl, hl⟩, hb⟩

theorem pow10_sub {k j : Nat} (h : j ≤ k) (hk : (limbs (10 ^ k)).length ≤ 256) : (limbs (10 ^ j)).length ≤ 256 :=
  limbs_le_of_le (Nat.pow_le_pow_right (by decide) h) hk

set_option maxRecDepth 100000 in
set_option maxHeartbeats 4000000 in
theorem pow10_any (k : Nat) (w : World) (hk : (limbs (10 ^ k)).length ≤ 256) (hk2 : k ≤ 100000) :
    Calls Tryz.prog 154 #[.int .i64 k] w fun e w' => ∃ v, e = .returned v ∧ NatV w' v (10 ^ k) ∧ Below w.heap.size w w' := by
  have HK := Lib.hid hk
  clear hk
  go_enter Tryz.func154, Tryz.ntmps154
  go_wp2_with fail
  refine (FromV 1 1 rfl (by decide) w).mono ?_
  rintro e w1 ⟨v1, rfl, hn1, hb1⟩
  have HN1 := Lib.hid hn1
  have HB1 := Lib.hid hb1
  clear hn1 hb1
  go_wp2_with fail
  go_loopw [0, 3] (fun i v wr => ∃ (r j : Nat), r + j = k ∧ i = .int .i64 r ∧ NatV wr v (10 ^ j) ∧ Below w.heap.size w wr) (fun i _ _ => (intOf i).toNat)
  case atStart => exact ⟨k, 0, rfl, rfl, HN1.out, HB1.out⟩
  case round =>
    obtain ⟨r, j, hrj, rfl, hn, hb⟩ := hrel
    have HN := Lib.hid hn
    have HB := Lib.hid hb
    have hbs := hb.size
    clear hn hb HN1 HB1
    by_cases h9 : 9 ≤ r
    · have e9 : (9 : Int) ≤ (r : Int) := by omega
      go_wp2_with fail
      refine (FromV 1000000000 1000000000 rfl (by decide) wr).mono ?_
      rintro e w1 ⟨v1, rfl, hn1, hb1⟩
      have HN1 := Lib.hid hn1
      have HNj := Lib.hid (HN.out.below hb1)
      have HB1 := Lib.hid (HB.out.trans (hb1.mono hbs))
      have hbs1 := hb1.size
      clear hn1 hb1 HN HB
      go_wp2_with fail
      have e10 : 10 ^ j * 1000000000 = 10 ^ (j + 9) := by rw [Nat.pow_add]
      have HM := Mul_any _ _ _ _ w1 HNj.out HN1.out (pow10_sub (k := k) (by omega) HK.out) (limbs_length_le (by decide)) (by rw [e10]; exact pow10_sub (k := k) (by omega) HK.out)
      rw [e10] at HM
      refine HM.mono ?_
      rintro e w2 ⟨v2, rfl, hn2, hb2⟩
      have HN2 := Lib.hid hn2
      have HB2 := Lib.hid (HB1.out.trans (hb2.mono (by omega)))
      clear hn2 hb2 HM HN1 HNj HB1 e10
      go_wp2_with fail
      go_roundw
      case rel => exact ⟨r - 9, j + 9, by omega, by go_num, HN2.out, HB2.out⟩
      case measure => simp [intOf]; omega
    · have e9 : ¬ (9 : Int) ≤ (r : Int) := by omega
      go_wp2_with fail
      obtain ⟨wo, rfl⟩ : ∃ wo : World, wo = wr := ⟨_, rfl⟩
      go_loopw [0, 3] (fun i v wr => ∃ (r j : Nat), r + j = k ∧ i = .int .i64 r ∧ NatV wr v (10 ^ j) ∧ Below w.heap.size w wr) (fun i _ _ => (intOf i).toNat)
      case atStart => exact ⟨r, j, hrj, rfl, HN.out, HB.out⟩
      case round =>
        obtain ⟨r, j, hrj, rfl, hn, hb⟩ := hrel
        have HN := Lib.hid hn
        have HB := Lib.hid hb
        have hbs := hb.size
        clear hn hb
        by_cases h0 : 0 < r
        · have e9 : (0 : Int) < (r : Int) := by omega
          go_wp2_with fail
          refine (FromV 10 10 rfl (by decide) wr).mono ?_
          rintro e w1 ⟨v1, rfl, hn1, hb1⟩
          have HN1 := Lib.hid hn1
          have HNj := Lib.hid (HN.out.below hb1)
          have HB1 := Lib.hid (HB.out.trans (hb1.mono hbs))
          have hbs1 := hb1.size
          clear hn1 hb1
          go_wp2_with fail
          have e10 : 10 ^ j * 10 = 10 ^ (j + 1) := by rw [Nat.pow_add]
          have HM := Mul_any _ _ _ _ w1 HNj.out HN1.out (pow10_sub (k := k) (by omega) HK.out) (limbs_length_le (by decide)) (by rw [e10]; exact pow10_sub (k := k) (by omega) HK.out)
          rw [e10] at HM
          refine HM.mono ?_
          rintro e w2 ⟨v2, rfl, hn2, hb2⟩
          have HN2 := Lib.hid hn2
          have HB2 := Lib.hid (HB1.out.trans (hb2.mono (by omega)))
          clear hn2 hb2 HM HN1 HNj HB1 e10
          go_wp2_with fail
          go_roundw
          case rel => exact ⟨r - 1, j + 1, by omega, by go_num, HN2.out, HB2.out⟩
          case measure => simp [intOf]; omega
        · obtain rfl : r = 0 := by omega
          obtain rfl : j = k := by omega
          go_wp2_with fail
          go_ret
          exact ⟨_, rfl, HN.out, HB.out⟩

theorem Shl_zero (va : Value) (w : World) (hx : NatV w va 0) (kk : Nat) : Calls Tryz.prog 214 #[va, .int .i64 kk] w fun e w' => e = .returned (.tuple #[.slice none 0 0, .int .i64 0]) ∧ w = w' := by
  obtain ⟨a, ca, rfl, ha⟩ := hx
  have V1 := Lib.hid (valid_any a ca 0 w ha (by rw [limbs_zero]; simp))
  rw [limbs_zero] at *
  clear ha
  go_enter Tryz.func214, Tryz.ntmps214
  go_wp2_with fail
  refine V1.out.mono ?_
  rintro e w1 ⟨rfl, rfl⟩
  clear V1
  go_wp2_with fail
  go_ret2
  exact ⟨rfl, rfl⟩
theorem NatV.zero (w : World) : NatV w (.slice none 0 0) 0 := ⟨none, 0, by rw [limbs_zero]; rfl, by rw [limbs_zero]; exact Lies.nil w none 0 (by decide) (by simp)⟩

theorem shifted_any (va : Value) (x : Nat) (k : Int) (w : World) (hx : NatV w va x) (hk : k ≤ 8192) (hk0 : -100000 ≤ k) (hf : (limbs (x * 2 ^ k.toNat)).length ≤ 256) :
    Calls Tryz.prog 177 #[va, .int .i64 k] w fun e w' => ∃ v, e = .returned v ∧ NatV w' v (x * 2 ^ k.toNat) ∧ Below w.heap.size w w' := by
  have hm : max k 0 = (k.toNat : Int) := by omega
  have hkb : k.toNat ≤ 8192 := by omega
  generalize k.toNat = kk at *
  have HX := Lib.hid hx
  have HF := Lib.hid hf
  clear hx hf
  go_enter Tryz.func177, Tryz.ntmps177
  go_wp2_with fail
  rcases Nat.eq_zero_or_pos x with h0 | h0
  · have HX0 := HX.out
    rw [h0] at HX0
    refine (Shl_zero va w HX0 kk).mono ?_
    rintro e w1 ⟨rfl, rfl⟩
    have hz : x * 2 ^ kk = 0 := by rw [h0]; simp
    clear HX0
    go_wp2_with fail
    go_ret
    exact ⟨_, rfl, by rw [hz]; exact NatV.zero _, Below.refl _ _⟩
  · refine (Shl_any va x kk w HX.out h0 (by omega) HF.out).mono ?_
    rintro e w1 ⟨v1, rfl, hn1, hb1⟩
    have HN1 := Lib.hid hn1
    have HB1 := Lib.hid hb1
    clear hn1 hb1
    go_wp2_with fail
    go_ret
    exact ⟨_, rfl, HN1.out, HB1.out⟩

/-- word: the value modulo 2^64 -/
theorem word_step {X : List Nat} {k : Nat} (hk : k < X.length) (hX : ∀ x ∈ X, x < B32) : val (X.drop k) % 18446744073709551616 = (val (X.drop (k + 1)) % 18446744073709551616 * 4294967296 % 18446744073709551616) ||| X[k] := by
  rw [List.drop_eq_getElem_cons hk, val]
  have h1 := hX _ (List.getElem_mem hk)
  rw [B32] at *
  have h2 : val (X.drop (k + 1)) % 18446744073709551616 * 4294967296 % 18446744073709551616 = 2 ^ 32 * (val (X.drop (k + 1)) % 18446744073709551616 % 4294967296) := by omega
  rw [h2, ← Nat.two_pow_add_eq_or_of_lt (by omega)]
  omega

set_option maxRecDepth 100000 in
set_option maxHeartbeats 4000000 in
theorem word_any (va : Value) (x : Nat) (w : World) (hx : NatV w va x) (hX : (limbs x).length ≤ 256) :
    Calls Tryz.prog 198 #[va] w fun e w' => e = .returned (.int .u64 ((x % 18446744073709551616 : Nat) : Int)) ∧ w = w' := by
  obtain ⟨a, ca, rfl, ha⟩ := hx
  have hle := ha.le
  have HA := Lib.hid ha
  have hv : Hid (val (limbs x) = x) := val_limbs x
  have hlt := Lib.hid (limbs_lt x)
  clear ha
  generalize limbs x = X at *
  go_enter Tryz.func198, Tryz.ntmps198
  go_wp2_with fail
  go_loop [3, 4] (fun n i => ∃ k : Nat, k ≤ X.length ∧ i = .int .i64 ((k : Int) - 1) ∧ n = .int .u64 ((val (X.drop k) % 18446744073709551616 : Nat) : Int)) (fun _ i => (intOf i + 1).toNat)
  case atStart => exact ⟨X.length, Nat.le_refl _, rfl, by simp [val]⟩
  case round =>
    obtain ⟨k, hk, rfl, rfl⟩ := hrel
    cases k with
    | zero =>
      have hxv : Hid (val (X.drop 0) % 18446744073709551616 = x % 18446744073709551616) := by show _ = _; rw [List.drop_zero, hv.out]
      generalize val (X.drop 0) % 18446744073709551616 = y at *
      go_wp2_with fail
      go_ret
      exact ⟨by rw [hxv.out]; simp, rfl⟩
    | succ k =>
      obtain ⟨b, off, rfl, hc⟩ := HA.out.at_ k (by omega)
      have hst := word_step (show k < X.length by omega) hlt.out
      have hxk : X[k] < 4294967296 := hlt.out _ (List.getElem_mem _)
      obtain ⟨n, hn⟩ : ∃ n, n = val (X.drop (k + 1)) % 18446744073709551616 := ⟨_, rfl⟩
      obtain ⟨m, hm⟩ : ∃ m, m = val (X.drop k) % 18446744073709551616 := ⟨_, rfl⟩
      have hn64 : n < 18446744073709551616 := by rw [hn]; exact Nat.mod_lt _ (by decide)
      rw [← hn, ← hm] at hst
      rw [← hn]
      have HM := Lib.hid hm
      clear hn hm
      generalize X[k] = xk at *
      have e1 : bits .or .u64 (IntKind.wrap .u64 ((n : Int) * 4294967296)) (xk : Int) = (m : Int) := by
        have h := u64_or_nat (n * 4294967296 % 18446744073709551616) xk (Nat.mod_lt _ (by decide)) (by omega)
        rw [← hst] at h
        rw [← h, IntKind.wrap_u64]; simp
      clear hst
      go_wp2_with fail
      go_round
      case rel => exact ⟨k, by omega, by go_num, by rw [HM.out]⟩
      case measure => simp [intOf]
end Go.Proofs.YtcmpdamfeoaapaaGreatDoor
end

section
/- Package dec: rounded. -/
namespace Go.Proofs.YtcmpdamfeoaapaaGreatDoor
open Go.RowKit
set_option linter.unusedVariables false

/-- the whole number nearest to a fraction, ties to the even one -/
def rnd (x y : Nat) : Nat := if y < 2 * (x % y) ∨ 2 * (x % y) = y ∧ x / y % 2 = 1 then x / y + 1 else x / y
theorem rnd_le (x y : Nat) : rnd x y ≤ x / y + 1 := by unfold rnd; split <;> omega

theorem Cmp_V (va vb : Value) (x y : Nat) (w : World) (ha : NatV w va x) (hb : NatV w vb y) :
    Calls Tryz.prog 203 #[va, vb] w fun e w' => e = .returned (.int .i64 (cmpN x y)) ∧ Below w.heap.size w w' := by
  obtain ⟨a, ca, rfl, ha⟩ := ha
  obtain ⟨b, cb, rfl, hb⟩ := hb
  exact Cmp_any a ca x b cb y w ha hb

theorem u32_odd (x : Nat) (hx : x < 4294967296) : bits .and .u32 (x : Int) 1 = ((x % 2 : Nat) : Int) := by
  have h3 := u32_and_nat x 1 hx (by decide)
  rw [nat_mask1] at h3
  exact h3

theorem limbs_head {q : Nat} (h : 0 < (limbs q).length) : (limbs q)[0] % 2 = q % 2 := by
  have hq : q ≠ 0 := by rintro rfl; rw [limbs_zero] at h; simp at h
  have e := limbs_pos hq
  have : (limbs q)[0] = q % B32 := by simp [e]
  rw [this, B32]; omega

set_option maxRecDepth 100000 in
set_option maxHeartbeats 4000000 in
theorem rounded_any (va vb : Value) (x y : Nat) (w : World) (hx : NatV w va x) (hy : NatV w vb y) (hX : (limbs x).length ≤ 256) (hY : (limbs (2 * y)).length ≤ 256) (hy0 : 0 < y) (hQ : (limbs (x / y + 1)).length ≤ 256) :
    Calls Tryz.prog 176 #[va, vb] w fun e w' => ∃ v, e = .returned v ∧ NatV w' v (rnd x y) ∧ Below w.heap.size w w' := by
  have hY1 : (limbs y).length ≤ 256 := limbs_le_of_le (by omega) hY
  have HX := Lib.hid hx
  have HY := Lib.hid hy
  clear hx hy
  go_enter Tryz.func176, Tryz.ntmps176
  go_wp2_with fail
  refine (Div_any va vb x y w HX.out HY.out hX hY1 hy0).mono ?_
  rintro e w1 ⟨q, r, rfl, hq, hr, hb1⟩
  have HQ := Lib.hid hq
  have HR := Lib.hid hr
  have HB1 := Lib.hid hb1
  have HY1 := Lib.hid (HY.out.below hb1)
  have hs1 := hb1.size
  clear hq hr hb1 HX HY
  go_wp2_with fail
  have hr2 : x % y * 2 ^ (Int.toNat 1) = 2 * (x % y) := by
    rw [show Int.toNat 1 = 1 from rfl, Nat.pow_one, Nat.mul_comm]
  have hrl : (limbs (2 * (x % y))).length ≤ 256 := limbs_le_of_le (by have := Nat.mod_lt x hy0; omega) hY
  have HS := shifted_any r (x % y) 1 w1 HR.out (by decide) (by decide) (by rw [hr2]; exact hrl)
  rw [hr2] at HS
  refine HS.mono ?_
  rintro e w2 ⟨v2, rfl, hn2, hb2⟩
  have HN2 := Lib.hid hn2
  have HB2 := Lib.hid (HB1.out.trans (hb2.mono hs1))
  have HQ2 := Lib.hid (HQ.out.below hb2)
  have HY2 := Lib.hid (HY1.out.below hb2)
  have hs2 := hb2.size
  clear hn2 hb2 HS HQ HR HY1 HB1 hr2 hrl
  obtain ⟨aq, cq, rfl, hlq⟩ := HQ2.out
  have hq0 : (limbs (x / y)).length ≠ 0 → ∃ b, ∃ off, aq = some ⟨b, off, none⟩ ∧ ∃ t, w2.cell? ⟨b, off, none⟩ = some (.int .u32 (t : Nat)) ∧ t < 4294967296 ∧ t % 2 = x / y % 2 := by
    intro h
    obtain ⟨b, off, e, hc⟩ := hlq.at_ 0 (by omega)
    have h0 : 0 < (limbs (x / y)).length := Nat.pos_of_ne_zero h
    have h1 := limbs_head h0
    have h2 := hlq.lt _ (List.getElem_mem h0)
    exact ⟨b, off, e, (limbs (x / y))[0], by simpa using hc, h2, h1⟩
  have hql : (limbs (x / y)).length ≤ 256 := limbs_le_of_le (Nat.div_le_self _ _) hX
  have HC := Lib.hid (Cmp_V v2 vb (2 * (x % y)) y w2 HN2.out HY2.out)
  have HADD := Lib.hid (fun (v1 : Value) (w' : World) (h : NatV w' (.slice aq (limbs (x / y)).length cq) (x / y)) (h1 : NatV w' v1 1) => Add_any _ v1 (x / y) 1 w' h h1 hql (limbs_length_le (by decide)) hQ)
  clear hQ hX hY hY1
  have hqv : Hid ((limbs (x / y)).length = 0 → x / y = 0) := fun h => limbs_eq_nil.1 (List.eq_nil_of_length_eq_zero h)
  clear hlq
  have hup : Hid (y < 2 * (x % y) → rnd x y = x / y + 1) := by
    show _ → _; intro h; unfold rnd; rw [if_pos (.inl h)]
  have hdn : Hid (2 * (x % y) < y → rnd x y = x / y) := by
    show _ → _; intro h; unfold rnd; rw [if_neg (by omega)]
  have heq1 : Hid (2 * (x % y) = y → x / y % 2 = 1 → rnd x y = x / y + 1) := by
    show _ → _; intro h h1; unfold rnd; rw [if_pos (.inr ⟨h, h1⟩)]
  have heq0 : Hid (2 * (x % y) = y → x / y % 2 = 0 → rnd x y = x / y) := by
    show _ → _; intro h h1; unfold rnd; rw [if_neg (by omega)]
  generalize hrn : rnd x y = rn at *
  have HRN := Lib.hid hrn
  clear hrn
  have hq0' : (limbs (x / y)).length = 0 ∨ 0 < (limbs (x / y)).length := Nat.eq_zero_or_pos _
  generalize limbs (x / y) = Q at *
  generalize x / y = q at *
  generalize 2 * (x % y) = r2 at *
  rcases Nat.lt_trichotomy r2 y with hlt | hlt | hlt
  · have hcm : cmpN r2 y = -1 := by simp only [cmpN]; rw [if_pos hlt]
    rw [hcm] at HC
    clear hcm
    rcases hq0' with h0 | h0
    · have hq00 : q = 0 := hqv.out h0
      rw [h0] at HQ2 HADD
      have HRN2 : Hid (rnd x y = q) := by show _ = _; rw [HRN.out]; exact hdn.out hlt
      clear HRN hup hdn heq1 heq0 hlt
      go_wp2_with fail
      refine HC.out.mono ?_
      rintro e w3 ⟨rfl, hb3⟩
      have HQ3 := Lib.hid (HQ2.out.below hb3)
      have HB3 := Lib.hid (HB2.out.trans (hb3.mono (by omega)))
      clear hb3 HQ2 HB2
      go_wp2_with fail
      go_ret
      exact ⟨_, rfl, by rw [HRN2.out]; exact HQ3.out, HB3.out⟩

    rcases Nat.mod_two_eq_zero_or_one q with hp | hp
    · obtain ⟨b, off, rfl, t, hc, ht, htq⟩ := hq0 (by omega)
      have hodd := u32_odd t ht
      rw [htq, hp] at hodd
      have HRN2 : Hid (rnd x y = q) := by show _ = _; rw [HRN.out]; exact hdn.out hlt
      clear HRN hup hdn heq1 heq0 hlt
      go_wp2_with fail
      refine HC.out.mono ?_
      rintro e w3 ⟨rfl, hb3⟩
      have HQ3 := Lib.hid (HQ2.out.below hb3)
      have HB3 := Lib.hid (HB2.out.trans (hb3.mono (by omega)))
      clear hb3 HQ2 HB2
      go_wp2_with fail
      go_ret
      exact ⟨_, rfl, by rw [HRN2.out]; exact HQ3.out, HB3.out⟩

    · obtain ⟨b, off, rfl, t, hc, ht, htq⟩ := hq0 (by omega)
      have hodd := u32_odd t ht
      rw [htq, hp] at hodd
      have HRN2 : Hid (rnd x y = q) := by show _ = _; rw [HRN.out]; exact hdn.out hlt
      clear HRN hup hdn heq1 heq0 hlt
      go_wp2_with fail
      refine HC.out.mono ?_
      rintro e w3 ⟨rfl, hb3⟩
      have HQ3 := Lib.hid (HQ2.out.below hb3)
      have HB3 := Lib.hid (HB2.out.trans (hb3.mono (by omega)))
      clear hb3 HQ2 HB2
      go_wp2_with fail
      go_ret
      exact ⟨_, rfl, by rw [HRN2.out]; exact HQ3.out, HB3.out⟩

  · have hcm : cmpN r2 y = 0 := by simp only [cmpN]; rw [if_neg (by omega), if_pos hlt]
    rw [hcm] at HC
    clear hcm
    rcases hq0' with h0 | h0
    · have hq00 : q = 0 := hqv.out h0
      rw [h0] at HQ2 HADD
      have HRN2 : Hid (rnd x y = q) := by show _ = _; rw [HRN.out]; exact heq0.out hlt (by omega)
      clear HRN hup hdn heq1 heq0 hlt
      go_wp2_with fail
      refine HC.out.mono ?_
      rintro e w3 ⟨rfl, hb3⟩
      have HQ3 := Lib.hid (HQ2.out.below hb3)
      have HB3 := Lib.hid (HB2.out.trans (hb3.mono (by omega)))
      clear hb3 HQ2 HB2
      go_wp2_with fail
      go_ret
      exact ⟨_, rfl, by rw [HRN2.out]; exact HQ3.out, HB3.out⟩

    rcases Nat.mod_two_eq_zero_or_one q with hp | hp
    · obtain ⟨b, off, rfl, t, hc, ht, htq⟩ := hq0 (by omega)
      have hodd := u32_odd t ht
      rw [htq, hp] at hodd
      have HRN2 : Hid (rnd x y = q) := by show _ = _; rw [HRN.out]; exact heq0.out hlt hp
      clear HRN hup hdn heq1 heq0 hlt
      go_wp2_with fail
      refine HC.out.mono ?_
      rintro e w3 ⟨rfl, hb3⟩
      have HQ3 := Lib.hid (HQ2.out.below hb3)
      have HB3 := Lib.hid (HB2.out.trans (hb3.mono (by omega)))
      clear hb3 HQ2 HB2
      go_wp2_with fail
      go_ret
      exact ⟨_, rfl, by rw [HRN2.out]; exact HQ3.out, HB3.out⟩

    · obtain ⟨b, off, rfl, t, hc, ht, htq⟩ := hq0 (by omega)
      have hodd := u32_odd t ht
      rw [htq, hp] at hodd
      have HRN2 : Hid (rnd x y = q + 1) := by show _ = _; rw [HRN.out]; exact heq1.out hlt hp
      clear HRN hup hdn heq1 heq0 hlt
      go_wp2_with fail
      refine HC.out.mono ?_
      rintro e w3 ⟨rfl, hb3⟩
      have HQ3 := Lib.hid (HQ2.out.below hb3)
      have HB3 := Lib.hid (HB2.out.trans (hb3.mono (by omega)))
      have hs3 := hb3.size
      clear hb3 HQ2 HB2
      go_wp2_with fail
      refine (FromV 1 1 rfl (by decide) w3).mono ?_
      rintro e w4 ⟨v4, rfl, hn4, hb4⟩
      have HN4 := Lib.hid hn4
      have HQ4 := Lib.hid (HQ3.out.below hb4)
      have HB4 := Lib.hid (HB3.out.trans (hb4.mono (by omega)))
      have hs4 := hb4.size
      clear hn4 hb4 HQ3 HB3
      go_wp2_with fail
      refine (HADD.out v4 w4 HQ4.out HN4.out).mono ?_
      rintro e w5 ⟨v5, rfl, hn5, hb5⟩
      have HN5 := Lib.hid hn5
      have HB5 := Lib.hid (HB4.out.trans (hb5.mono (by omega)))
      clear hn5 hb5 HQ4 HB4 HN4
      go_wp2_with fail
      go_ret
      exact ⟨_, rfl, by rw [HRN2.out]; exact HN5.out, HB5.out⟩

  · have hcm : cmpN r2 y = 1 := by simp only [cmpN]; rw [if_neg (by omega), if_neg (by omega)]
    rw [hcm] at HC
    clear hcm
    rcases hq0' with h0 | h0
    · have hq00 : q = 0 := hqv.out h0
      rw [h0] at HQ2 HADD
      have HRN2 : Hid (rnd x y = q + 1) := by show _ = _; rw [HRN.out]; exact hup.out hlt
      clear HRN hup hdn heq1 heq0 hlt
      go_wp2_with fail
      refine HC.out.mono ?_
      rintro e w3 ⟨rfl, hb3⟩
      have HQ3 := Lib.hid (HQ2.out.below hb3)
      have HB3 := Lib.hid (HB2.out.trans (hb3.mono (by omega)))
      have hs3 := hb3.size
      clear hb3 HQ2 HB2
      go_wp2_with fail
      refine (FromV 1 1 rfl (by decide) w3).mono ?_
      rintro e w4 ⟨v4, rfl, hn4, hb4⟩
      have HN4 := Lib.hid hn4
      have HQ4 := Lib.hid (HQ3.out.below hb4)
      have HB4 := Lib.hid (HB3.out.trans (hb4.mono (by omega)))
      have hs4 := hb4.size
      clear hn4 hb4 HQ3 HB3
      go_wp2_with fail
      refine (HADD.out v4 w4 HQ4.out HN4.out).mono ?_
      rintro e w5 ⟨v5, rfl, hn5, hb5⟩
      have HN5 := Lib.hid hn5
      have HB5 := Lib.hid (HB4.out.trans (hb5.mono (by omega)))
      clear hn5 hb5 HQ4 HB4 HN4
      go_wp2_with fail
      go_ret
      exact ⟨_, rfl, by rw [HRN2.out]; exact HN5.out, HB5.out⟩

    rcases Nat.mod_two_eq_zero_or_one q with hp | hp
    · obtain ⟨b, off, rfl, t, hc, ht, htq⟩ := hq0 (by omega)
      have hodd := u32_odd t ht
      rw [htq, hp] at hodd
      have HRN2 : Hid (rnd x y = q + 1) := by show _ = _; rw [HRN.out]; exact hup.out hlt
      clear HRN hup hdn heq1 heq0 hlt
      go_wp2_with fail
      refine HC.out.mono ?_
      rintro e w3 ⟨rfl, hb3⟩
      have HQ3 := Lib.hid (HQ2.out.below hb3)
      have HB3 := Lib.hid (HB2.out.trans (hb3.mono (by omega)))
      have hs3 := hb3.size
      clear hb3 HQ2 HB2
      go_wp2_with fail
      refine (FromV 1 1 rfl (by decide) w3).mono ?_
      rintro e w4 ⟨v4, rfl, hn4, hb4⟩
      have HN4 := Lib.hid hn4
      have HQ4 := Lib.hid (HQ3.out.below hb4)
      have HB4 := Lib.hid (HB3.out.trans (hb4.mono (by omega)))
      have hs4 := hb4.size
      clear hn4 hb4 HQ3 HB3
      go_wp2_with fail
      refine (HADD.out v4 w4 HQ4.out HN4.out).mono ?_
      rintro e w5 ⟨v5, rfl, hn5, hb5⟩
      have HN5 := Lib.hid hn5
      have HB5 := Lib.hid (HB4.out.trans (hb5.mono (by omega)))
      clear hn5 hb5 HQ4 HB4 HN4
      go_wp2_with fail
      go_ret
      exact ⟨_, rfl, by rw [HRN2.out]; exact HN5.out, HB5.out⟩

    · obtain ⟨b, off, rfl, t, hc, ht, htq⟩ := hq0 (by omega)
      have hodd := u32_odd t ht
      rw [htq, hp] at hodd
      have HRN2 : Hid (rnd x y = q + 1) := by show _ = _; rw [HRN.out]; exact hup.out hlt
      clear HRN hup hdn heq1 heq0 hlt
      go_wp2_with fail
      refine HC.out.mono ?_
      rintro e w3 ⟨rfl, hb3⟩
      have HQ3 := Lib.hid (HQ2.out.below hb3)
      have HB3 := Lib.hid (HB2.out.trans (hb3.mono (by omega)))
      have hs3 := hb3.size
      clear hb3 HQ2 HB2
      go_wp2_with fail
      refine (FromV 1 1 rfl (by decide) w3).mono ?_
      rintro e w4 ⟨v4, rfl, hn4, hb4⟩
      have HN4 := Lib.hid hn4
      have HQ4 := Lib.hid (HQ3.out.below hb4)
      have HB4 := Lib.hid (HB3.out.trans (hb4.mono (by omega)))
      have hs4 := hb4.size
      clear hn4 hb4 HQ3 HB3
      go_wp2_with fail
      refine (HADD.out v4 w4 HQ4.out HN4.out).mono ?_
      rintro e w5 ⟨v5, rfl, hn5, hb5⟩
      have HN5 := Lib.hid hn5
      have HB5 := Lib.hid (HB4.out.trans (hb5.mono (by omega)))
      clear hn5 hb5 HQ4 HB4 HN4
      go_wp2_with fail
      go_ret
      exact ⟨_, rfl, by rw [HRN2.out]; exact HN5.out, HB5.out⟩

end Go.Proofs.YtcmpdamfeoaapaaGreatDoor
end

section
/- Package dec: nearest. -/
namespace Go.Proofs.YtcmpdamfeoaapaaGreatDoor
open Go.RowKit
set_option linter.unusedVariables false

@[go_sem] theorem callFfb (n : Int) (w : World) : (callFunc 17 #[.int .u64 n]).run Tryz.prog w = .ok (.value (.float .f64 n.toNat)) w := by
  rw [run_callFunc_extern Tryz.func17 (by kernel_rfl) (by kernel_rfl) (by kernel_rfl) (e := Extern.MathFloatBits.float64frombits) (by kernel_rfl)]
  rfl
@[go_sem] theorem callFb (b : Nat) (w : World) : (callFunc 23 #[.float .f64 b]).run Tryz.prog w = .ok (.value (.int .u64 b)) w := by
  rw [run_callFunc_extern Tryz.func23 (by kernel_rfl) (by kernel_rfl) (by kernel_rfl) (e := Extern.MathFloatBits.float64bits) (by kernel_rfl)]
  rfl

/-- a fraction over 2^e, rounded down -/
def qat (x y : Nat) (e : Int) : Nat := x * 2 ^ (-e).toNat / (y * 2 ^ e.toNat)
def e0 (x y : Nat) : Int := max ((nbits x : Int) - nbits y - 54) (-1074)
/-- E is the least exponent from e0 on at which the quotient has 53 bits -/
structure LeastE (x y : Nat) (E : Int) : Prop where
  ge : e0 x y ≤ E
  bits : nbits (qat x y E) ≤ 53
  least : ∀ e, e0 x y ≤ e → e < E → ¬ nbits (qat x y e) ≤ 53
/-- the bits of the float -/
def nearBits (x y : Nat) (E : Int) : Nat := min ((E + 1074).toNat * 2 ^ 52 + rnd (x * 2 ^ (-E).toNat) (y * 2 ^ E.toNat)) 9218868437227405312

theorem nbits_lt {n k : Nat} (h : n < 2 ^ k) : nbits n ≤ k := nbits_le.2 h
theorem limbs_of_bits {n : Nat} (h : nbits n ≤ 8192) : (limbs n).length ≤ 256 := by
  refine limbs_length_le ?_
  have h2 : nbits n ≤ 32 * 256 := by omega
  exact Nat.lt_of_lt_of_eq (nbits_le.1 h2) (b32_pow 256).symm
theorem nbits_add {a b k : Nat} (ha : nbits a ≤ k) (h : b ≤ a + 1) : nbits b ≤ k + 1 := by
  refine nbits_le.2 ?_
  have h1 := nbits_le.1 ha
  rw [Nat.pow_succ]
  omega
theorem nbits_shift {n k m : Nat} (h : nbits n + k ≤ m) : nbits (n * 2 ^ k) ≤ m := by
  refine nbits_le.2 ?_
  have h1 := nbits_le.1 (Nat.le_refl (nbits n))
  have h2 : n * 2 ^ k < 2 ^ nbits n * 2 ^ k := Nat.mul_lt_mul_of_pos_right h1 (Nat.pow_pos (by decide))
  rw [← Nat.pow_add] at h2
  exact Nat.lt_of_lt_of_le h2 (Nat.pow_le_pow_right (by decide) h)
theorem nbits_mono {a b : Nat} (h : a ≤ b) : nbits a ≤ nbits b := nbits_le.2 (Nat.lt_of_le_of_lt h (nbits_le.1 (Nat.le_refl _)))

theorem Bits_V (va : Value) (n : Nat) (w : World) (h : NatV w va n) (hl : (limbs n).length ≤ 256) :
    Calls Tryz.prog 197 #[va] w fun e w' => e = .returned (.int .i64 (nbits n : Nat)) ∧ w = w' := by
  obtain ⟨a, ca, rfl, ha⟩ := h
  exact Bits_any a ca n w ha hl

/-- the quotient's bits fall to 53 -/
theorem bits_qat {x y : Nat} {e : Int} (hy : 0 < y) (he : (nbits x : Int) - nbits y - 52 ≤ e) : nbits (qat x y e) ≤ 53 := by
  refine nbits_le.2 ?_
  unfold qat
  have hx := nbits_le.1 (Nat.le_refl (nbits x))
  have hy1 : 2 ^ (nbits y - 1) ≤ y := by
    rcases Nat.lt_or_ge y (2 ^ (nbits y - 1)) with h | h
    · have h1 := nbits_le.2 h
      have h2 : nbits y ≠ 0 := fun h3 => by have := nbits_le.1 (Nat.le_of_eq h3); simp at this; omega
      omega
    · exact h
  have h2 : nbits y ≠ 0 := fun h3 => by have := nbits_le.1 (Nat.le_of_eq h3); simp at this; omega
  rw [Nat.div_lt_iff_lt_mul (Nat.mul_pos hy (Nat.pow_pos (by decide)))]
  have h3 : x * 2 ^ (-e).toNat < 2 ^ (nbits x + (-e).toNat) := by
    rw [Nat.pow_add]; exact Nat.mul_lt_mul_of_pos_right hx (Nat.pow_pos (by decide))
  have h4 : 2 ^ (53 + (nbits y - 1) + e.toNat) ≤ 2 ^ 53 * (y * 2 ^ e.toNat) := by
    rw [Nat.pow_add, Nat.pow_add, Nat.mul_assoc]
    exact Nat.mul_le_mul_left _ (Nat.mul_le_mul_right _ hy1)
  refine Nat.lt_of_lt_of_le h3 (Nat.le_trans (Nat.pow_le_pow_right (by decide) ?_) h4)
  omega

theorem minN (k c R m : Nat) : (min ((k : Int) * (c : Int) + (R : Int)) (m : Int)).toNat = min (k * c + R) m := by
  have : (k : Int) * (c : Int) + (R : Int) = ((k * c + R : Nat) : Int) := by simp
  rw [this]; omega

set_option maxRecDepth 100000 in
set_option maxHeartbeats 1000000 in
theorem nearest_any (va vb : Value) (x y : Nat) (w : World) (hx : NatV w va x) (hy : NatV w vb y) (hy0 : 0 < y) (hX : nbits x ≤ 7000) (hY : nbits y ≤ 7000) (hV : (nbits x : Int) - nbits y ≤ 1100) :
    Calls Tryz.prog 155 #[va, vb] w fun e w' => ∃ E, LeastE x y E ∧ e = .returned (.float .f64 (nearBits x y E)) ∧ Below w.heap.size w w' := by
  have HX := Lib.hid hx
  have HY := Lib.hid hy
  have B1 := Lib.hid (Bits_V va x w hx (limbs_of_bits (by omega)))
  have B2 := Lib.hid (Bits_V vb y w hy (limbs_of_bits (by omega)))
  clear hx hy
  obtain ⟨M, hM⟩ : ∃ M : Int, M = max ((nbits x : Int) - nbits y - 52) (-1074) := ⟨_, rfl⟩
  obtain ⟨ee, hee⟩ : ∃ ee, ee = e0 x y := ⟨_, rfl⟩
  have hee' : ee = max ((nbits x : Int) - nbits y - 54) (-1074) := hee
  have hQL : ∀ e : Int, ee ≤ e → (limbs (x * 2 ^ (-e).toNat)).length ≤ 256 := by
    intro e he
    exact limbs_of_bits (nbits_shift (by omega))
  have hDL : ∀ e : Int, e ≤ M → (limbs (2 * (y * 2 ^ e.toNat))).length ≤ 256 := by
    intro e he
    rw [show 2 * (y * 2 ^ e.toNat) = y * 2 ^ (e.toNat + 1) by rw [Nat.pow_succ]; ac_rfl]
    exact limbs_of_bits (nbits_shift (by omega))
  have HSX : Hid (∀ (e : Int) (W : World), ee ≤ e → e ≤ M → NatV W va x → Calls Tryz.prog 177 #[va, .int .i64 (-e)] W fun r W' => ∃ v, r = .returned v ∧ NatV W' v (x * 2 ^ (-e).toNat) ∧ Below W.heap.size W W') :=
    fun e W h1 h2 h => shifted_any va x (-e) W h (by omega) (by omega) (hQL e h1)
  have HSY : Hid (∀ (e : Int) (W : World), ee ≤ e → e ≤ M → NatV W vb y → Calls Tryz.prog 177 #[vb, .int .i64 e] W fun r W' => ∃ v, r = .returned v ∧ NatV W' v (y * 2 ^ e.toNat) ∧ Below W.heap.size W W') :=
    fun e W h1 h2 h => shifted_any vb y e W h (by omega) (by omega) (limbs_le_of_le (by omega) (hDL e h2))
  have HDV : Hid (∀ (e : Int) (W : World) (v2 v3 : Value), ee ≤ e → e ≤ M → NatV W v2 (x * 2 ^ (-e).toNat) → NatV W v3 (y * 2 ^ e.toNat) → Calls Tryz.prog 160 #[v2, v3] W fun r W' => ∃ q r', r = .returned (.tuple #[q, r', .int .i64 0]) ∧ NatV W' q (qat x y e) ∧ Below W.heap.size W W') :=
    fun e W v2 v3 h1 h2 h3 h4 => (Div_any v2 v3 _ _ W h3 h4 (hQL e h1) (limbs_le_of_le (by omega) (hDL e h2)) (Nat.mul_pos hy0 (Nat.pow_pos (by decide)))).mono (by
      rintro r W' ⟨q, r', rfl, hq, _, hb⟩
      exact ⟨q, r', rfl, hq, hb⟩)
  have HRD : Hid (∀ (e : Int) (W : World) (v2 v3 : Value), ee ≤ e → e ≤ M → NatV W v2 (x * 2 ^ (-e).toNat) → NatV W v3 (y * 2 ^ e.toNat) → nbits (qat x y e) ≤ 53 → Calls Tryz.prog 176 #[v2, v3] W fun r W' => ∃ v, r = .returned v ∧ NatV W' v (rnd (x * 2 ^ (-e).toNat) (y * 2 ^ e.toNat)) ∧ Below W.heap.size W W') :=
    fun e W v2 v3 h1 h2 h3 h4 h5 => rounded_any v2 v3 _ _ W h3 h4 (hQL e h1) (hDL e h2) (Nat.mul_pos hy0 (Nat.pow_pos (by decide))) (limbs_of_bits (Nat.le_trans (nbits_add (a := qat x y e) h5 (Nat.le_refl _)) (by decide)))
  have HBT : Hid (∀ (e : Int) (W : World) (q : Value), ee ≤ e → NatV W q (qat x y e) → Calls Tryz.prog 197 #[q] W fun r W' => r = .returned (.int .i64 (nbits (qat x y e) : Nat)) ∧ W = W') :=
    fun e W q h1 h => Bits_V q _ W h (limbs_le_of_le (Nat.div_le_self _ _) (hQL e h1))
  have hNB : Hid (∀ e : Int, ee ≤ e → nbits (qat x y e) ≤ 8192) := fun e h1 => by
    have h2 : qat x y e < B32 ^ 256 := lt_of_limbs_length (limbs_le_of_le (Nat.div_le_self _ _) (hQL e h1))
    have h3 : nbits (qat x y e) ≤ 32 * 256 := nbits_le.2 (Nat.lt_of_lt_of_eq h2 (b32_pow 256))
    omega
  have HFIN : Hid (∀ e : Int, M ≤ e → nbits (qat x y e) ≤ 53) := fun e h => bits_qat hy0 (by omega)
  have heM : ee ≤ M := by omega
  have hee1 : -1074 ≤ ee := by omega
  have hM1 : M ≤ 1048 := by omega
  have HEE := Lib.hid hee
  obtain ⟨bx, hbx⟩ : ∃ bx, bx = nbits x := ⟨_, rfl⟩
  obtain ⟨by', hby⟩ : ∃ b, b = nbits y := ⟨_, rfl⟩
  have em : max ((bx : Int) - by' - 54) (-1074) = ee := by rw [hee', hbx, hby]
  rw [← hbx] at B1 hX
  rw [← hby] at B2 hY
  clear hbx hby hee hee' hM hQL hDL hV
  go_enter Tryz.func155, Tryz.ntmps155
  go_wp2_with fail
  refine B1.out.mono ?_
  rintro e w1 ⟨rfl, rfl⟩
  go_wp2_with fail
  refine B2.out.mono ?_
  rintro e w1 ⟨rfl, rfl⟩
  clear B1 B2
  go_wp2_with fail
  clear em hX hY
  have HB := Lib.hid (Below.refl w.heap.size w)
  refine (HSX.out ee w (Int.le_refl _) heM HX.out).mono ?_
  rintro e w2 ⟨v2, rfl, hn2, hb2⟩
  have HN2 := Lib.hid hn2
  have HX2 := Lib.hid (HX.out.below hb2)
  have HY2 := Lib.hid (HY.out.below hb2)
  have HB2 := Lib.hid (HB.out.trans (hb2.mono (Nat.le_refl _)))
  have hs2 := hb2.size
  clear hn2 hb2 HX HY HB
  go_wp2_with fail
  refine (HSY.out ee w2 (Int.le_refl _) heM HY2.out).mono ?_
  rintro e w3 ⟨v3, rfl, hn3, hb3⟩
  have HN3 := Lib.hid hn3
  have HN2' := Lib.hid (HN2.out.below hb3)
  have HX3 := Lib.hid (HX2.out.below hb3)
  have HY3 := Lib.hid (HY2.out.below hb3)
  have HB3 := Lib.hid (HB2.out.trans (hb3.mono (by omega)))
  have hs3 := hb3.size
  clear hn3 hb3 HX2 HY2 HB2 HN2
  go_wp2_with fail
  refine (HDV.out ee w3 v2 v3 (Int.le_refl _) heM HN2'.out HN3.out).mono ?_
  rintro e w4 ⟨q, r, rfl, hq, hb4⟩
  have HQ4 := Lib.hid hq
  have HX4 := Lib.hid (HX3.out.below hb4)
  have HY4 := Lib.hid (HY3.out.below hb4)
  have HB4 := Lib.hid (HB3.out.trans (hb4.mono (by omega)))
  have hs4 := hb4.size
  clear hq hb4 HX3 HY3 HB3 HN2' HN3
  go_wp2_with fail
  go_loopw [5, 6] (fun ev qv wr => ∃ (e : Int), ee ≤ e ∧ e ≤ M ∧ ev = .int .i64 e ∧ NatV wr qv (qat x y e) ∧ NatV wr va x ∧ NatV wr vb y ∧ Below w.heap.size w wr ∧ w.heap.size ≤ wr.heap.size ∧ ∀ e', ee ≤ e' → e' < e → ¬ nbits (qat x y e') ≤ 53) (fun ev _ _ => (M - intOf ev).toNat)
  case atStart => exact ⟨ee, Int.le_refl _, heM, rfl, HQ4.out, HX4.out, HY4.out, HB4.out, by omega, by intro e' h1 h2; omega⟩
  case round =>
    obtain ⟨e, he1, he2, rfl, hq, hx, hy, hb, hws, hl⟩ := hrel
    have HX := Lib.hid hx; have HY := Lib.hid hy; have HB := Lib.hid hb; have HL := Lib.hid hl
    have HBQ := Lib.hid (HBT.out e wr _ he1 hq)
    have hbb := hNB.out e he1
    have hfin := HFIN.out e
    clear hq hx hy hb hl HQ4 HX4 HY4 HB4 hs2 hs3 hs4
    obtain ⟨nb, hnb⟩ : ∃ nb, nb = nbits (qat x y e) := ⟨_, rfl⟩
    rw [← hnb] at HBQ hfin hbb
    have HNB := Lib.hid hnb
    clear hnb
    go_wp2_with fail
    refine HBQ.out.mono ?_
    rintro e' w1 ⟨rfl, rfl⟩
    clear HBQ
    by_cases h53 : 53 < nb
    · have h53' : (53 : Int) < (nb : Int) := by omega
      have hne : ¬ M ≤ e := fun h => by have := hfin h; omega
      clear hfin
      obtain ⟨f, hf⟩ : ∃ f, f = e + 1 := ⟨_, rfl⟩
      have hf1 : ee ≤ f := by omega
      have hf2 : f ≤ M := by omega
      have HL2 : Hid (∀ e', ee ≤ e' → e' < f → ¬ nbits (qat x y e') ≤ 53) := by
        show ∀ e', _ → _ → _
        intro e' h1 h2
        rcases Int.lt_or_eq_of_le (show e' ≤ e by omega) with h | h
        · exact HL.out e' h1 h
        · rw [h, ← HNB.out]; omega
      have hef : e + 1 = f := hf.symm
      clear hf HL
      go_wp2_with fail
      refine (HSX.out f wr hf1 hf2 HX.out).mono ?_
      rintro e w2 ⟨v2, rfl, hn2, hb2⟩
      have HN2 := Lib.hid hn2
      have HX2 := Lib.hid (HX.out.below hb2)
      have HY2 := Lib.hid (HY.out.below hb2)
      have HB2 := Lib.hid (HB.out.trans (hb2.mono hws))
      have hs2 := hb2.size
      clear hn2 hb2 HX HY HB
      go_wp2_with fail
      refine (HSY.out f w2 hf1 hf2 HY2.out).mono ?_
      rintro e w3 ⟨v3, rfl, hn3, hb3⟩
      have HN3 := Lib.hid hn3
      have HN2' := Lib.hid (HN2.out.below hb3)
      have HX3 := Lib.hid (HX2.out.below hb3)
      have HY3 := Lib.hid (HY2.out.below hb3)
      have HB3 := Lib.hid (HB2.out.trans (hb3.mono (by omega)))
      have hs3 := hb3.size
      clear hn3 hb3 HX2 HY2 HB2 HN2
      go_wp2_with fail
      refine (HDV.out f w3 v2 v3 hf1 hf2 HN2'.out HN3.out).mono ?_
      rintro e w4 ⟨q, r, rfl, hq, hb4⟩
      have HQ4 := Lib.hid hq
      have HX4 := Lib.hid (HX3.out.below hb4)
      have HY4 := Lib.hid (HY3.out.below hb4)
      have HB4 := Lib.hid (HB3.out.trans (hb4.mono (by omega)))
      have hs4 := hb4.size
      clear hq hb4 HX3 HY3 HB3 HN2' HN3
      go_wp2_with fail
      go_roundw
      case rel => exact ⟨f, hf1, hf2, rfl, HQ4.out, HX4.out, HY4.out, HB4.out, by omega, HL2.out⟩
      case measure => simp [intOf]; omega
    · have h53' : ¬ (53 : Int) < (nb : Int) := by omega
      have hb53 : nbits (qat x y e) ≤ 53 := by rw [← HNB.out]; omega
      have HE : Hid (LeastE x y e) := ⟨by rw [← HEE.out]; exact he1, hb53, by rw [← HEE.out]; exact HL.out⟩
      have HB53 := Lib.hid hb53
      clear hfin HL hb53
      obtain ⟨k, hk⟩ : ∃ k : Nat, e + 1074 = (k : Int) := ⟨(e + 1074).toNat, by omega⟩
      go_wp2_with fail
      refine (HSX.out e wr he1 he2 HX.out).mono ?_
      rintro e w2 ⟨v2, rfl, hn2, hb2⟩
      have HN2 := Lib.hid hn2
      have HX2 := Lib.hid (HX.out.below hb2)
      have HY2 := Lib.hid (HY.out.below hb2)
      have HB2 := Lib.hid (HB.out.trans (hb2.mono hws))
      have hs2 := hb2.size
      clear hn2 hb2 HX HY HB
      go_wp2_with fail
      refine (HSY.out e w2 he1 he2 HY2.out).mono ?_
      rintro e w3 ⟨v3, rfl, hn3, hb3⟩
      have HN3 := Lib.hid hn3
      have HN2' := Lib.hid (HN2.out.below hb3)
      have HX3 := Lib.hid (HX2.out.below hb3)
      have HY3 := Lib.hid (HY2.out.below hb3)
      have HB3 := Lib.hid (HB2.out.trans (hb3.mono (by omega)))
      have hs3 := hb3.size
      clear hn3 hb3 HX2 HY2 HB2 HN2
      go_wp2_with fail
      refine (HRD.out e w3 v2 v3 he1 he2 HN2'.out HN3.out HB53.out).mono ?_
      rintro e' w4 ⟨v4, rfl, hn4, hb4⟩
      have HN4 := Lib.hid hn4
      have HB4 := Lib.hid (HB3.out.trans (hb4.mono (by omega)))
      clear hn4 hb4 HX3 HY3 HB3 HN2' HN3
      go_wp2_with fail
      have hRle := rnd_le (x * 2 ^ (-e).toNat) (y * 2 ^ e.toNat)
      have hq53 := nbits_le.1 HB53.out
      have hNBR : Hid (nearBits x y e = min (k * 4503599627370496 + rnd (x * 2 ^ (-e).toNat) (y * 2 ^ e.toNat)) 9218868437227405312) := by
        show _ = _
        unfold nearBits
        rw [hk]; rfl
      have hR53 : rnd (x * 2 ^ (-e).toNat) (y * 2 ^ e.toNat) ≤ 9007199254740992 := by
        unfold qat at hq53
        have : (2 : Nat) ^ 53 = 9007199254740992 := by decide
        omega
      clear hRle hq53
      generalize rnd (x * 2 ^ (-e).toNat) (y * 2 ^ e.toNat) = R at *
      have hRW : R % 18446744073709551616 = R := Nat.mod_eq_of_lt (by omega)
      have HW := word_any v4 R w4 HN4.out (limbs_length_le (Nat.lt_of_le_of_lt hR53 (by decide)))
      rw [hRW] at HW
      refine HW.mono ?_
      rintro e' w5 ⟨rfl, rfl⟩
      clear HW hRW
      go_wp2_with fail
      go_ret
      have hfin : (min ((k : Int) * 4503599627370496 + (R : Int)) 9218868437227405312).toNat = min (k * 4503599627370496 + R) 9218868437227405312 := minN k 4503599627370496 R 9218868437227405312
      exact ⟨e, HE.out, by rw [hNBR.out, ← hfin]; rfl, HB4.out⟩
end Go.Proofs.YtcmpdamfeoaapaaGreatDoor
end

section
/- Package dec: Parts, scaled. -/
namespace Go.Proofs.YtcmpdamfeoaapaaGreatDoor
open Go.RowKit
set_option linter.unusedVariables false

/-- a float's bits: natural, power of two, is it finite -/
def mant (b : Nat) : Nat := if b % 9223372036854775808 / 4503599627370496 = 2047 then 0 else if b % 9223372036854775808 / 4503599627370496 = 0 then b % 4503599627370496 else b % 4503599627370496 + 4503599627370496
def expo (b : Nat) : Int := if b % 9223372036854775808 / 4503599627370496 = 2047 then 0 else if b % 9223372036854775808 / 4503599627370496 = 0 then -1074 else (b % 9223372036854775808 / 4503599627370496 : Nat) - 1075
def fin (b : Nat) : Bool := !(b % 9223372036854775808 / 4503599627370496 == 2047)

theorem mask63 (b : Nat) (h : b < 18446744073709551616) : bits .andNot .u64 (b : Int) 9223372036854775808 = ((b % 9223372036854775808 : Nat) : Int) := by
  have h3 := u64_andNot_nat b 9223372036854775808 h (by decide)
  rw [show 18446744073709551615 - 9223372036854775808 = 2 ^ 63 - 1 by decide, Nat.and_two_pow_sub_one_eq_mod] at h3
  exact h3
theorem mask52 (b : Nat) (h : b < 18446744073709551616) : bits .and .u64 (b : Int) 4503599627370495 = ((b % 4503599627370496 : Nat) : Int) := by
  have h3 := u64_and_nat b 4503599627370495 h (by decide)
  rw [show (4503599627370495 : Nat) = 2 ^ 52 - 1 by decide, Nat.and_two_pow_sub_one_eq_mod] at h3
  exact h3
theorem or52 (m : Nat) (h : m < 4503599627370496) : bits .or .u64 (m : Int) 4503599627370496 = ((m + 4503599627370496 : Nat) : Int) := by
  have h3 := u64_or_nat m 4503599627370496 (by omega) (by decide)
  rw [Nat.or_comm, nat_join 52 4503599627370496 m (by decide) h, Nat.add_comm] at h3
  exact h3

set_option maxHeartbeats 2000000 in
theorem Parts_any (b : Nat) (w : World) (hb : b < 18446744073709551616) :
    Calls Tryz.prog 59 #[.float .f64 b] w fun e w' => e = .returned (.tuple #[.int .u64 (mant b : Nat), .int .i64 (expo b), .bool (fin b)]) ∧ w = w' := by
  have e1 := mask63 b hb
  obtain ⟨c, hc⟩ : ∃ c, c = b % 9223372036854775808 := ⟨_, rfl⟩
  have e2 := mask52 c (by omega)
  have hm0 : c % 4503599627370496 = b % 4503599627370496 := by omega
  obtain ⟨m, hm⟩ : ∃ m, m = b % 4503599627370496 := ⟨_, rfl⟩
  have hml : m < 4503599627370496 := by omega
  have e3 := or52 m hml
  obtain ⟨q, hq⟩ : ∃ q, q = c / 4503599627370496 := ⟨_, rfl⟩
  have hql : q ≤ 2047 := by omega
  have e4 : (c : Int) / 4503599627370496 = (q : Int) := by omega
  rw [hm0, ← hm] at e2
  rw [← hc] at e1
  obtain ⟨m2, hm2⟩ : ∃ m2, m2 = m + 4503599627370496 := ⟨_, rfl⟩
  rw [← hm2] at e3
  have HM : Hid (mant b = if q = 2047 then 0 else if q = 0 then m else m2) := by show _ = _; rw [mant, hm2, hq, hc, hm]
  have HE : Hid (expo b = if q = 2047 then 0 else if q = 0 then -1074 else (q : Int) - 1075) := by show _ = _; rw [expo, hq, hc]
  have HF : Hid (fin b = !(q == 2047)) := by show _ = _; rw [fin, hq, hc]
  clear hc hm hq hm0 hm2 hml hb
  go_enter Tryz.func59, Tryz.ntmps59
  by_cases h1 : q = 2047
  · subst h1
    go_wp2_with fail
    go_ret3
    exact ⟨by rw [HM.out, HE.out, HF.out]; rfl, rfl⟩
  · have h1' : ((q : Int) == 2047) = false := beq_eq_false_iff_ne.2 (by omega)
    by_cases h2 : q = 0
    · subst h2
      go_wp2_with fail
      go_ret3
      exact ⟨by rw [HM.out, HE.out, HF.out]; rfl, rfl⟩
    · have h2' : ((q : Int) == 0) = false := beq_eq_false_iff_ne.2 (by omega)
      have h3 : Hid ((q == 2047) = false) := beq_eq_false_iff_ne.2 h1
      go_wp2_with fail
      go_ret3
      exact ⟨by rw [HM.out, HE.out, HF.out, if_neg h1, if_neg h2, if_neg h1, if_neg h2, h3.out]; rfl, rfl⟩

theorem pow10_bits {j : Nat} (h : j ≤ 600) : nbits (10 ^ j) ≤ 2000 := by
  have h1 : nbits (10 ^ j) ≤ 10 * 200 := nbits_le.2 (Nat.lt_of_le_of_lt (p10_le (b := 3 * 200) (by omega)) (thousand (i := 200) (by decide)))
  omega
theorem nbits_mul {a b i j k : Nat} (ha : nbits a ≤ i) (hb : nbits b ≤ j) (hk : i + j ≤ k) : nbits (a * b) ≤ k := by
  refine nbits_le.2 (Nat.lt_of_lt_of_le ?_ (Nat.pow_le_pow_right (by decide) hk))
  rw [Nat.pow_add]
  have h1 := nbits_le.1 ha
  have h2 := nbits_le.1 hb
  calc a * b ≤ a * 2 ^ j := Nat.mul_le_mul_left _ (Nat.le_of_lt h2)
    _ < 2 ^ i * 2 ^ j := Nat.mul_lt_mul_of_pos_right h1 (Nat.pow_pos (by decide))
theorem two_pow_bits (j : Nat) : nbits (2 ^ j) ≤ j + 1 := nbits_le.2 (Nat.pow_lt_pow_right (by decide) (by omega))

set_option maxRecDepth 100000 in
set_option maxHeartbeats 2000000 in
theorem scaled_any (m : Nat) (e k : Int) (w : World) (hm : m < 18446744073709551616) (he1 : -1100 ≤ e) (he2 : e ≤ 1000) (hk1 : -600 ≤ k) (hk2 : k ≤ 600) :
    Calls Tryz.prog 119 #[.int .u64 m, .int .i64 e, .int .i64 k] w fun r w' => ∃ v, r = .returned v ∧ NatV w' v (rnd (m * 10 ^ k.toNat * 2 ^ e.toNat) (10 ^ (-k).toNat * 2 ^ (-e).toNat)) ∧ Below w.heap.size w w' := by
  have hmb : nbits m ≤ 64 := nbits_le.2 (by rw [show (2 : Nat) ^ 64 = 18446744073709551616 by decide]; exact hm)
  have hp1 : nbits (10 ^ k.toNat) ≤ 2000 := pow10_bits (by omega)
  have hp2 : nbits (10 ^ (-k).toNat) ≤ 2000 := pow10_bits (by omega)
  have hn : nbits (m * 10 ^ k.toNat) ≤ 2064 := nbits_mul hmb hp1 (by omega)
  have hX : nbits (m * 10 ^ k.toNat * 2 ^ e.toNat) ≤ 4000 := nbits_shift (by omega)
  have hY : nbits (10 ^ (-k).toNat * 2 ^ (-e).toNat) ≤ 4000 := nbits_shift (by omega)
  have hY2 : nbits (2 * (10 ^ (-k).toNat * 2 ^ (-e).toNat)) ≤ 4002 := nbits_mul (two_pow_bits 1) hY (by omega)
  have hQ : nbits (m * 10 ^ k.toNat * 2 ^ e.toNat / (10 ^ (-k).toNat * 2 ^ (-e).toNat) + 1) ≤ 4001 := by
    exact nbits_add (k := 4000) hX (Nat.succ_le_succ (Nat.div_le_self _ _))
  have hy0 : 0 < 10 ^ (-k).toNat * 2 ^ (-e).toNat := Nat.mul_pos (Nat.pow_pos (by decide)) (Nat.pow_pos (by decide))
  have P1 := Lib.hid (fun W => pow10_any k.toNat W (limbs_of_bits (by omega)) (by omega))
  have P2 := Lib.hid (fun W => pow10_any (-k).toNat W (limbs_of_bits (by omega)) (by omega))
  have M1 := Lib.hid (fun W va vb h1 h2 => Mul_any va vb m (10 ^ k.toNat) W h1 h2 (limbs_of_bits (by omega)) (limbs_of_bits (by omega)) (limbs_of_bits (by omega)))
  have S1 := Lib.hid (fun W va h => shifted_any va (m * 10 ^ k.toNat) e W h (by omega) (by omega) (limbs_of_bits (by omega)))
  have S2 := Lib.hid (fun W va h => shifted_any va (10 ^ (-k).toNat) (-e) W h (by omega) (by omega) (limbs_of_bits (by omega)))
  have R1 := Lib.hid (fun W va vb h1 h2 => rounded_any va vb _ _ W h1 h2 (limbs_of_bits (show nbits (m * 10 ^ k.toNat * 2 ^ e.toNat) ≤ 8192 by omega)) (limbs_of_bits (by omega)) hy0 (limbs_of_bits (by omega)))
  have em1 : max k 0 = (k.toNat : Int) := by omega
  have em2 : max (-k) 0 = ((-k).toNat : Int) := by omega
  clear hmb hp1 hp2 hn hX hY hY2 hQ hy0
  generalize k.toNat = k1 at *
  generalize (-k).toNat = k2 at *
  generalize rnd (m * 10 ^ k1 * 2 ^ e.toNat) (10 ^ k2 * 2 ^ (-e).toNat) = RR at *
  go_enter Tryz.func119, Tryz.ntmps119
  go_wp2_with fail
  refine (FromV m m rfl hm w).mono ?_
  rintro r w1 ⟨v1, rfl, hn1, hb1⟩
  have HN1 := Lib.hid hn1
  have HB1 := Lib.hid hb1
  have hs1 := hb1.size
  clear hn1 hb1
  go_wp2_with fail
  refine (P1.out w1).mono ?_
  rintro r w2 ⟨v2, rfl, hn2, hb2⟩
  have HN2 := Lib.hid hn2
  have HN12 := Lib.hid (HN1.out.below hb2)
  have HB2 := Lib.hid (HB1.out.trans (hb2.mono hs1))
  have hs2 := hb2.size
  clear hn2 hb2 HN1 HB1 P1
  go_wp2_with fail
  refine (M1.out w2 _ _ HN12.out HN2.out).mono ?_
  rintro r w3 ⟨v3, rfl, hn3, hb3⟩
  have HN3 := Lib.hid hn3
  have HB3 := Lib.hid (HB2.out.trans (hb3.mono (by omega)))
  have hs3 := hb3.size
  clear hn3 hb3 HN2 HN12 HB2 M1
  go_wp2_with fail
  refine (P2.out w3).mono ?_
  rintro r w4 ⟨v4, rfl, hn4, hb4⟩
  have HN4 := Lib.hid hn4
  have HN34 := Lib.hid (HN3.out.below hb4)
  have HB4 := Lib.hid (HB3.out.trans (hb4.mono (by omega)))
  have hs4 := hb4.size
  clear hn4 hb4 HN3 HB3 P2
  go_wp2_with fail
  refine (S1.out w4 _ HN34.out).mono ?_
  rintro r w5 ⟨v5, rfl, hn5, hb5⟩
  have HN5 := Lib.hid hn5
  have HN45 := Lib.hid (HN4.out.below hb5)
  have HB5 := Lib.hid (HB4.out.trans (hb5.mono (by omega)))
  have hs5 := hb5.size
  clear hn5 hb5 HN4 HB4 HN34 S1
  go_wp2_with fail
  refine (S2.out w5 _ HN45.out).mono ?_
  rintro r w6 ⟨v6, rfl, hn6, hb6⟩
  have HN6 := Lib.hid hn6
  have HN56 := Lib.hid (HN5.out.below hb6)
  have HB6 := Lib.hid (HB5.out.trans (hb6.mono (by omega)))
  have hs6 := hb6.size
  clear hn6 hb6 HN5 HB5 HN45 S2
  go_wp2_with fail
  refine (R1.out w6 _ _ HN56.out HN6.out).mono ?_
  rintro r w7 ⟨v7, rfl, hn7, hb7⟩
  have HN7 := Lib.hid hn7
  have HB7 := Lib.hid (HB6.out.trans (hb7.mono (by omega)))
  clear hn7 hb7
  go_wp2_with fail
  go_ret
  exact ⟨_, rfl, HN7.out, HB7.out⟩
end Go.Proofs.YtcmpdamfeoaapaaGreatDoor
end

section
/- Package dec: Fixed. -/
namespace Go.Proofs.YtcmpdamfeoaapaaGreatDoor
open Go.RowKit
set_option linter.unusedVariables false

set_option maxRecDepth 100000 in
set_option maxHeartbeats 2000000 in
theorem Fixed_bad (b : Nat) (p : Int) (w : World) (hb : b < 18446744073709551616) (h : fin b = false ∨ p < 0 ∨ 200 < p) :
    Calls Tryz.prog 66 #[.float .f64 b, .int .i64 p] w fun e w' => e = .returned (.tuple #[.string ⟨#[]⟩, .int .i64 1]) ∧ w = w' := by
  have HP := Lib.hid (Parts_any b w hb)
  generalize mant b = m at *
  generalize expo b = x at *
  clear hb
  go_enter Tryz.func66, Tryz.ntmps66
  go_wp2_with fail
  refine HP.out.mono ?_
  rintro e w1 ⟨rfl, rfl⟩
  clear HP
  by_cases hf : fin b = false
  · rw [hf]
    clear h
    go_wp2_with fail
    go_ret2
    exact ⟨rfl, rfl⟩
  · have hf' : fin b = true := by simpa using hf
    rw [hf']
    by_cases h0 : p < 0
    · clear h
      go_wp2_with fail
      go_ret2
      exact ⟨rfl, rfl⟩
    · have h2 : 200 < p := by
        rcases h with h | h | h
        · exact absurd h hf
        · exact absurd h h0
        · exact h
      clear h hf
      go_wp2_with fail
      go_ret2
      exact ⟨rfl, rfl⟩

def fixedL (l : List UInt8) (p : Nat) : List UInt8 :=
  let q := if l.length ≤ p then List.replicate (p + 1 - l.length) 48 ++ l else l
  if 0 < p then q.take (q.length - p) ++ 46 :: q.drop (q.length - p) else q
/-- the natural that Fixed writes -/
def scaledN (b : Nat) (k : Int) : Nat := rnd (mant b * 10 ^ k.toNat * 2 ^ (expo b).toNat) (10 ^ (-k).toNat * 2 ^ (-(expo b)).toNat)

theorem digVal_from (l : List UInt8) (n : Nat) : l.foldl (fun n c => 10 * n + (c.toNat - 48)) n = n * 10 ^ l.length + digVal l := by
  induction l generalizing n with
  | nil => simp [digVal]
  | cons c l ih =>
    have h1 := ih (10 * n + (c.toNat - 48))
    have h2 := ih (10 * 0 + (c.toNat - 48))
    simp only [digVal, List.foldl_cons, List.length_cons, Nat.pow_succ] at *
    rw [h1, h2, Nat.add_mul]
    simp only [Nat.mul_zero, Nat.zero_add]
    rw [← Nat.add_assoc]; congr 2; ac_rfl
theorem digVal_cons (c : UInt8) (l : List UInt8) : digVal (c :: l) = (c.toNat - 48) * 10 ^ l.length + digVal l := by
  have := digVal_from l (10 * 0 + (c.toNat - 48))
  simpa [digVal] using this
theorem digVal_lt {l : List UInt8} (h : Digits l) : digVal l < 10 ^ l.length := by
  induction l with
  | nil => simp [digVal]
  | cons c l ih =>
    have h1 := h c (by simp)
    have h2 := ih (fun x hx => h x (by simp [hx]))
    rw [digVal_cons, List.length_cons, Nat.pow_succ]
    have h3 : (c.toNat - 48) * 10 ^ l.length ≤ 9 * 10 ^ l.length := Nat.mul_le_mul_right _ (by omega)
    omega
theorem canon_len {l : List UInt8} {x k : Nat} (h : Canon l x) (hx : x < 10 ^ k) (hk : 0 < k) : l.length ≤ k := by
  rcases l with _ | ⟨c, r⟩
  · simp
  · rcases Nat.eq_zero_or_pos r.length with h0 | h0
    · simp; omega
    · have h1 := h.dig c (by simp)
      have h2 : c.toNat ≠ 48 := fun e => by
        have := h.top c r rfl e
        rw [this] at h0; simp at h0
      have h3 := h.val
      rw [digVal_cons] at h3
      have h4 : 1 * 10 ^ r.length ≤ (c.toNat - 48) * 10 ^ r.length := Nat.mul_le_mul_right _ (by omega)
      rcases Nat.lt_or_ge r.length k with h5 | h5
      · exact h5
      · have := Nat.pow_le_pow_right (n := 10) (by decide) h5
        omega
theorem mant_lt (b : Nat) : mant b < 9007199254740992 := by
  unfold mant; split
  · omega
  · split <;> omega
theorem expo_bounds {b : Nat} : -1074 ≤ expo b ∧ expo b ≤ 971 := by
  unfold expo; split
  · omega
  · split <;> omega

theorem scaledN_lt {b : Nat} {k : Int} (h1 : -600 ≤ k) (h2 : k ≤ 600) : nbits (scaledN b k) ≤ 4001 := by
  have hm := mant_lt b
  have he := expo_bounds (b := b)
  have hmb : nbits (mant b) ≤ 53 := nbits_le.2 (by rw [show (2 : Nat) ^ 53 = 9007199254740992 by decide]; exact hm)
  have hn : nbits (mant b * 10 ^ k.toNat) ≤ 2064 := nbits_mul hmb (pow10_bits (by omega)) (by omega)
  have hX : nbits (mant b * 10 ^ k.toNat * 2 ^ (expo b).toNat) ≤ 4000 := nbits_shift (by omega)
  exact nbits_add (k := 4000) hX (Nat.le_trans (rnd_le _ _) (Nat.succ_le_succ (Nat.div_le_self _ _)))
theorem scaled_b (b : Nat) (k : Int) (w : World) (h1 : -600 ≤ k) (h2 : k ≤ 600) :
    Calls Tryz.prog 119 #[.int .u64 (mant b : Nat), .int .i64 (expo b), .int .i64 k] w fun r w' => ∃ v, r = .returned v ∧ NatV w' v (scaledN b k) ∧ Below w.heap.size w w' := by
  have hm := mant_lt b
  have he := expo_bounds (b := b)
  exact scaled_any (mant b) (expo b) k w (by omega) (by omega) (by omega) h1 h2
theorem text_b {b : Nat} {k : Int} {v : Value} {w : World} (h1 : -600 ≤ k) (h2 : k ≤ 600) (h : NatV w v (scaledN b k)) :
    Calls Tryz.prog 118 #[v] w fun e w' => ∃ s : ByteArray, e = .returned (.tuple #[.string s, .int .i64 0]) ∧ Canon s.data.toList (scaledN b k) ∧ s.data.toList.length ≤ 4001 ∧ Below w.heap.size w w' := by
  refine (Text_all v _ w h (limbs_of_bits (Nat.le_trans (scaledN_lt h1 h2) (by decide)))).mono ?_
  rintro e w' ⟨s, rfl, hc, hb⟩
  refine ⟨s, rfl, hc, canon_len (k := 4001) hc (Nat.lt_of_lt_of_le (nbits_le.1 (scaledN_lt h1 h2)) (two_ten 4001)) (by decide), hb⟩
end Go.Proofs.YtcmpdamfeoaapaaGreatDoor
end

section
/- Package dec: Fixed. -/
namespace Go.Proofs.YtcmpdamfeoaapaaGreatDoor
open Go.RowKit
set_option linter.unusedVariables false

theorem point_list (s : ByteArray) (k n : Nat) (hn : s.data.toList.length = n) : (s.extract 0 k ++ ⟨#[46]⟩ ++ s.extract k n).data.toList = s.data.toList.take k ++ 46 :: s.data.toList.drop k := by
  have h2 : List.take (n - k) (List.drop k s.data.toList) = List.drop k s.data.toList := List.take_of_length_le (by rw [List.length_drop]; omega)
  simp [ByteArray.data_append, ByteArray.data_extract, List.extract_eq_take_drop, h2]
theorem repeatL_one (x : UInt8) : ∀ c, Lib.repeatL [x] c = List.replicate c x
  | 0 => rfl
  | c + 1 => by rw [Lib.repeatL, repeatL_one x c]; rfl

set_option maxRecDepth 100000 in
set_option maxHeartbeats 2000000 in
theorem Fixed_ok (b : Nat) (p : Nat) (w : World) (hb : b < 18446744073709551616) (hf : fin b = true) (hp : p ≤ 200) :
    Calls Tryz.prog 66 #[.float .f64 b, .int .i64 p] w fun e w' => ∃ s l, e = .returned (.tuple #[.string s, .int .i64 0]) ∧ Canon l (scaledN b p) ∧ s.data.toList = fixedL l p ∧ Below w.heap.size w w' := by
  have HP := Lib.hid (Parts_any b w hb)
  have HS := Lib.hid (fun W => scaled_b b p W (by omega) (by omega))
  have HT := Lib.hid (fun v W h => text_b (b := b) (k := p) (v := v) (w := W) (by omega) (by omega) h)
  rw [hf] at HP
  generalize scaledN b p = N at *
  generalize mant b = m at *
  generalize expo b = x at *
  clear hb hf
  have hpi : (p : Int) ≤ 200 := by omega
  go_enter Tryz.func66, Tryz.ntmps66
  go_wp2_with fail
  refine HP.out.mono ?_
  rintro e w1 ⟨rfl, rfl⟩
  clear HP
  go_wp2_with fail
  refine (HS.out w).mono ?_
  rintro e w1 ⟨v1, rfl, hn1, hb1⟩
  have HT1 := Lib.hid (HT.out v1 w1 hn1)
  have HB1 := Lib.hid hb1
  have hs1 := hb1.size
  clear hn1 hb1 HS HT
  go_wp2_with fail
  refine HT1.out.mono ?_
  rintro e w2 ⟨s, rfl, hc, hl, hb2⟩
  have HB2 := Lib.hid (HB1.out.trans (hb2.mono hs1))
  have hs2 := hb2.size
  have HC := Lib.hid hc
  have hsz : s.size = s.data.toList.length := by simp
  obtain ⟨n, hn⟩ : ∃ n, n = s.size := ⟨_, rfl⟩
  have HN : Hid (s.data.toList.length = n) := by show _ = _; rw [hn, hsz]
  have hn1 : s.size = n := hn.symm
  rw [HN.out] at hl
  clear hc hb2 HB1 HT1 hsz hn
  by_cases hle : n ≤ p
  · have hle' : (n : Int) ≤ (p : Int) := by omega
    go_wp2_with fail
    have e1 : (p : Int) + 1 - n = ((p + 1 - n : Nat) : Int) := by omega
    have hn0 : 0 < n := by
      rw [← HN.out]; exact List.length_pos_iff.2 HC.out.ne
    obtain ⟨c, hc⟩ : ∃ c, c = p + 1 - n := ⟨_, rfl⟩
    have e2 : (p : Int) + 1 - n = (c : Int) := by omega
    rw [e2]
    have hcn : (c : Int) + n = p + 1 := by omega
    have hRP := Tryz.strings_Repeat ⟨#[48]⟩ c w2 (by omega) (by show 1 * c ≤ _; omega)
    obtain ⟨R, hR⟩ : ∃ R : ByteArray, R = ⟨(Lib.repeatL [48] c).toArray⟩ := ⟨_, rfl⟩
    have hRP' : Calls Tryz.prog 109 #[.string ⟨#[48]⟩, .int .i64 c] w2 fun e w' => e = .returned (.string R) ∧ Below w2.heap.size w2 w' := by rw [hR]; exact hRP
    have hRl : Hid (R.data.toList = List.replicate c 48) := by
      show R.data.toList = _
      rw [hR]
      exact repeatL_one 48 c
    have hRs : R.size = c := by
      have := congrArg List.length hRl.out
      simpa using this
    clear hR hRP e1 e2 hle
    refine hRP'.mono ?_
    rintro e w3 ⟨rfl, hb3⟩
    have HB3 := Lib.hid (HB2.out.trans (hb3.mono (by omega)))
    clear hb3 hRP'
    have hp0' : (0 : Int) < (p : Int) := by omega
    go_wp2_with fail
    have hT : Hid ((R ++ s).data.toList = List.replicate c 48 ++ s.data.toList) := by show _ = _; rw [ByteArray.data_append, Array.toList_append, hRl.out]
    have hnp : 0 ≤ (c : Int) + n - p := by omega
    have hnp2 : (c : Int) + n - p ≤ c + n := by omega
    go_region
    go_wp2_with fail
    go_ret2
    refine ⟨_, _, rfl, HC.out, ?_, by first | exact HB3.out | exact HB3.out.drew | exact HB3.out.drewN _⟩
    have hcc : p + 1 - n = c := by omega
    have hql : (R ++ s).data.toList.length = p + 1 - n + n := by rw [hT.out, List.length_append, List.length_replicate, HN.out, hcc]
    refine (point_list (R ++ s) _ _ hql).trans ?_
    rw [hT.out]
    have h1 : n ≤ p := by omega
    have h2 : 0 < p := by omega
    simp only [fixedL, HN.out, if_pos h1, if_pos h2, List.length_append, List.length_replicate, hcc]
  · have hle' : ¬ (n : Int) ≤ (p : Int) := by omega
    by_cases hp0 : p = 0
    · subst hp0
      go_wp2_with fail
      go_ret2
      exact ⟨s, _, rfl, HC.out, by simp [fixedL, HN.out]; omega, HB2.out⟩
    · have hp0' : (0 : Int) < (p : Int) := by omega
      go_wp2_with fail
      have hnp : 0 ≤ (n : Int) - p := by omega
      have hnp2 : (n : Int) - p ≤ n := by omega
      go_region
      go_wp2_with fail
      go_ret2
      refine ⟨_, _, rfl, HC.out, ?_, by first | exact HB2.out | exact HB2.out.drew | exact HB2.out.drewN _⟩
      refine (point_list s (n - p) n HN.out).trans ?_
      simp only [fixedL, HN.out, if_neg hle, if_pos (Nat.pos_of_ne_zero hp0)]
end Go.Proofs.YtcmpdamfeoaapaaGreatDoor
end

section
/- Package dec: Sci. -/
namespace Go.Proofs.YtcmpdamfeoaapaaGreatDoor
open Go.RowKit
set_option linter.unusedVariables false

set_option maxRecDepth 100000 in
set_option maxHeartbeats 2000000 in
theorem Sci_bad (b : Nat) (p : Int) (w : World) (hb : b < 18446744073709551616) (h : fin b = false ∨ p < 0 ∨ 200 < p) :
    Calls Tryz.prog 164 #[.float .f64 b, .int .i64 p] w fun e w' => e = .returned (.tuple #[.string ⟨#[]⟩, .int .i64 0, .int .i64 1]) ∧ w = w' := by
  have HP := Lib.hid (Parts_any b w hb)
  generalize mant b = m at *
  generalize expo b = x at *
  clear hb
  go_enter Tryz.func164, Tryz.ntmps164
  go_wp2_with fail
  refine HP.out.mono ?_
  rintro e w1 ⟨rfl, rfl⟩
  clear HP
  by_cases hf : fin b = false
  · rw [hf]
    clear h
    go_wp2_with fail
    go_ret3
    exact ⟨rfl, rfl⟩
  · have hf' : fin b = true := by simpa using hf
    rw [hf']
    by_cases h0 : p < 0
    · clear h
      go_wp2_with fail
      go_ret3
      exact ⟨rfl, rfl⟩
    · have h2 : 200 < p := by
        rcases h with h | h | h
        · exact absurd h hf
        · exact absurd h h0
        · exact h
      clear h hf
      go_wp2_with fail
      go_ret3
      exact ⟨rfl, rfl⟩

set_option maxRecDepth 100000 in
set_option maxHeartbeats 2000000 in
theorem Sci_zero (b : Nat) (p : Nat) (w : World) (hb : b < 18446744073709551616) (hf : fin b = true) (hp : p ≤ 200) (hm : mant b = 0) :
    Calls Tryz.prog 164 #[.float .f64 b, .int .i64 p] w fun e w' => ∃ s : ByteArray, e = .returned (.tuple #[.string s, .int .i64 0, .int .i64 0]) ∧ s.data.toList = List.replicate (p + 1) 48 ∧ Below w.heap.size w w' := by
  have HP := Lib.hid (Parts_any b w hb)
  rw [hf, hm] at HP
  generalize expo b = x at *
  clear hb hf hm
  have hpi : (p : Int) ≤ 200 := by omega
  have HRP := Lib.hid (Tryz.strings_Repeat ⟨#[48]⟩ (p + 1) w (by omega) (by show 1 * (p + 1) ≤ _; omega))
  go_enter Tryz.func164, Tryz.ntmps164
  go_wp2_with fail
  refine HP.out.mono ?_
  rintro e w1 ⟨rfl, rfl⟩
  clear HP
  go_wp2_with fail
  refine HRP.out.mono ?_
  rintro e w3 ⟨rfl, hb3⟩
  have HB3 := Lib.hid hb3
  clear hb3
  have hR : Hid ((ByteArray.mk (Lib.repeatL [48] (p + 1)).toArray).data.toList = List.replicate (p + 1) 48) := repeatL_one 48 (p + 1)
  obtain ⟨R, hR2⟩ : ∃ R : ByteArray, R = ⟨(Lib.repeatL [48] (p + 1)).toArray⟩ := ⟨_, rfl⟩
  rw [← hR2] at hR
  clear HRP
  go_wp2_with fail
  go_ret3
  exact ⟨_, rfl, repeatL_one 48 (p + 1), HB3.out⟩
end Go.Proofs.YtcmpdamfeoaapaaGreatDoor
end

section
/- Plain: the nearest whole number to a fraction. -/
namespace Go.Proofs.YtcmpdamfeoaapaaGreatDoor

theorem rnd_spec {x y : Nat} (hy : 0 < y) : 2 * x ≤ (2 * rnd x y + 1) * y ∧ 2 * rnd x y * y ≤ 2 * x + y := by
  have h := Nat.div_add_mod x y
  have hm := Nat.mod_lt x hy
  unfold rnd
  generalize x / y = q at *
  generalize x % y = r at *
  have e1 : (2 * (q + 1) + 1) * y = 2 * (y * q) + 3 * y := by rw [Nat.add_mul, Nat.mul_assoc, Nat.add_mul, Nat.mul_comm q y]; omega
  have e2 : 2 * (q + 1) * y = 2 * (y * q) + 2 * y := by rw [Nat.mul_assoc, Nat.add_mul, Nat.mul_comm q y]; omega
  have e3 : (2 * q + 1) * y = 2 * (y * q) + y := by rw [Nat.add_mul, Nat.mul_assoc, Nat.mul_comm q y]; omega
  have e4 : 2 * q * y = 2 * (y * q) := by rw [Nat.mul_assoc, Nat.mul_comm q y]
  split
  · rw [e1, e2]; omega
  · rw [e3, e4]; omega
theorem rnd_ge {x y n : Nat} (hy : 0 < y) (h : n * y ≤ x) : n ≤ rnd x y := by
  have h1 : n ≤ x / y := (Nat.le_div_iff_mul_le hy).2 h
  unfold rnd; split <;> omega
theorem rnd_le_of {x y n : Nat} (hy : 0 < y) (h : x ≤ n * y) : rnd x y ≤ n := by
  rcases Nat.lt_or_ge n (rnd x y) with h1 | h1
  · exfalso
    have h2 := (rnd_spec (x := x) hy).2
    have h3 : 2 * (n + 1) * y ≤ 2 * rnd x y * y := Nat.mul_le_mul_right _ (Nat.mul_le_mul_left _ h1)
    have e : 2 * (n + 1) * y = 2 * (n * y) + 2 * y := by rw [Nat.mul_assoc, Nat.add_mul]; omega
    omega
  · exact h1

theorem rnd_scale (c x y : Nat) (hc : 0 < c) : rnd (c * x) (c * y) = rnd x y := by
  unfold rnd
  rw [Nat.mul_div_mul_left _ _ hc, Nat.mul_mod_mul_left]
  have e : 2 * (c * (x % y)) = c * (2 * (x % y)) := by ac_rfl
  rw [e]
  have h1 : c * y < c * (2 * (x % y)) ↔ y < 2 * (x % y) := Nat.mul_lt_mul_left hc
  have h2 : c * (2 * (x % y)) = c * y ↔ 2 * (x % y) = y := Nat.mul_right_inj (by omega)
  simp only [h1, h2]
theorem rnd_same {x y x' y' : Nat} (hy : 0 < y) (hy' : 0 < y') (h : x * y' = x' * y) : rnd x y = rnd x' y' := by
  rw [← rnd_scale y' x y hy', ← rnd_scale y x' y' hy, Nat.mul_comm y' x, h, Nat.mul_comm x' y, Nat.mul_comm y' y]
theorem rnd_mono {x y x' y' : Nat} (hy : 0 < y) (hy' : 0 < y') (h : x * y' ≤ x' * y) : rnd x y ≤ rnd x' y' := by
  rcases Nat.lt_or_ge (rnd x' y') (rnd x y) with hlt | hge
  · exfalso
    have h1 := (rnd_spec (x := x) hy).2
    have h2 := (rnd_spec (x := x') hy').1
    -- multiply both by the other's denominator
    have h3 : 2 * rnd x y * y * y' ≤ (2 * x + y) * y' := Nat.mul_le_mul_right _ h1
    have h4 : 2 * x' * y ≤ (2 * rnd x' y' + 1) * y' * y := Nat.mul_le_mul_right _ h2
    have h5 : (2 * rnd x' y' + 2) * (y * y') ≤ 2 * rnd x y * (y * y') := Nat.mul_le_mul_right _ (by omega)
    have e3 : 2 * rnd x y * y * y' = 2 * rnd x y * (y * y') := by rw [Nat.mul_assoc]
    have e4 : (2 * rnd x' y' + 1) * y' * y = (2 * rnd x' y' + 1) * (y * y') := by rw [Nat.mul_assoc, Nat.mul_comm y' y]
    have e5 : (2 * x + y) * y' = 2 * (x * y') + y * y' := by rw [Nat.add_mul, Nat.mul_assoc]
    have e6 : 2 * x' * y = 2 * (x' * y) := Nat.mul_assoc _ _ _
    have e7 : (2 * rnd x' y' + 2) * (y * y') = (2 * rnd x' y' + 1) * (y * y') + y * y' := by rw [← Nat.succ_mul]
    have heq : x * y' = x' * y := by omega
    have := rnd_same hy hy' heq
    omega
  · exact hge
end Go.Proofs.YtcmpdamfeoaapaaGreatDoor
end

section
/- Plain: a fraction times a power of ten. -/
namespace Go.Proofs.YtcmpdamfeoaapaaGreatDoor

/-- A/B times 10^k is at least n -/
def GeT (A B : Nat) (k : Int) (n : Nat) : Prop := n * (10 ^ (-k).toNat * B) ≤ A * 10 ^ k.toNat
theorem GeT_step (A B : Nat) (k : Int) (n : Nat) : GeT A B (k + 1) (10 * n) ↔ GeT A B k n := by
  unfold GeT
  rcases (by omega : k < 0 ∨ 0 ≤ k) with h | h
  · have e1 : (k + 1).toNat = 0 := by omega
    have e2 : k.toNat = 0 := by omega
    have e3 : (-k).toNat = (-(k + 1)).toNat + 1 := by omega
    rw [e1, e2, e3, Nat.pow_succ]
    rw [show 10 * n * (10 ^ (-(k + 1)).toNat * B) = n * (10 ^ (-(k + 1)).toNat * 10 * B) by ac_rfl]
  · have e1 : (-(k + 1)).toNat = 0 := by omega
    have e2 : (-k).toNat = 0 := by omega
    have e3 : (k + 1).toNat = k.toNat + 1 := by omega
    rw [e1, e2, e3, Nat.pow_succ, show 10 * n * (10 ^ 0 * B) = 10 * (n * (10 ^ 0 * B)) by ac_rfl, show A * (10 ^ k.toNat * 10) = 10 * (A * 10 ^ k.toNat) by ac_rfl]
    exact Nat.mul_le_mul_left_iff (by decide)

def ratN (A B : Nat) (k : Int) : Nat := rnd (A * 10 ^ k.toNat) (10 ^ (-k).toNat * B)
theorem rat_pos {B : Nat} (hB : 0 < B) (k : Int) : 0 < 10 ^ (-k).toNat * B := Nat.mul_pos (Nat.pow_pos (by decide)) hB
theorem ratN_ge {A B n : Nat} {k : Int} (hB : 0 < B) (h : GeT A B k n) : n ≤ ratN A B k := rnd_ge (rat_pos hB k) h
theorem ratN_le {A B n : Nat} {k : Int} (hB : 0 < B) (h : ¬ GeT A B k n) : ratN A B k ≤ n := rnd_le_of (rat_pos hB k) (by unfold GeT at h; omega)
theorem rat_cross (A B : Nat) (k : Int) : A * 10 ^ (k + 1).toNat * (10 ^ (-k).toNat * B) = 10 * (A * 10 ^ k.toNat) * (10 ^ (-(k + 1)).toNat * B) := by
  rcases (by omega : k < 0 ∨ 0 ≤ k) with h | h
  · have e1 : (k + 1).toNat = 0 := by omega
    have e2 : k.toNat = 0 := by omega
    have e3 : (-k).toNat = (-(k + 1)).toNat + 1 := by omega
    rw [e1, e2, e3, Nat.pow_succ]; ac_rfl
  · have e1 : (-(k + 1)).toNat = 0 := by omega
    have e2 : (-k).toNat = 0 := by omega
    have e3 : (k + 1).toNat = k.toNat + 1 := by omega
    rw [e1, e2, e3, Nat.pow_succ]; ac_rfl
/-- what is rounded up to ten times n is, with one digit less, n -/
theorem ratN_carry {A B n : Nat} {k : Int} (hB : 0 < B) (h1 : ¬ GeT A B (k + 1) (10 * n)) (h2 : ratN A B (k + 1) = 10 * n) : ratN A B k = n := by
  have h3 : ¬ GeT A B k n := fun h => h1 ((GeT_step A B k n).2 h)
  have h4 := ratN_le hB h3
  rcases Nat.lt_or_ge (ratN A B k) n with hlt | hge
  · exfalso
    have s1 := (rnd_spec (x := A * 10 ^ (k + 1).toNat) (rat_pos hB (k + 1))).2
    have s2 := (rnd_spec (x := A * 10 ^ k.toNat) (rat_pos hB k)).1
    have hc := rat_cross A B k
    have hy := rat_pos hB k
    have hy' := rat_pos hB (k + 1)
    change 2 * ratN A B (k + 1) * _ ≤ _ at s1
    change _ ≤ (2 * ratN A B k + 1) * _ at s2
    rw [h2] at s1
    generalize ratN A B k = q at *
    generalize A * 10 ^ (k + 1).toNat = x at *
    generalize A * 10 ^ k.toNat = x' at *
    generalize 10 ^ (-k).toNat * B = y' at *
    generalize 10 ^ (-(k + 1)).toNat * B = y at *
    have t1 : 2 * (10 * n) * y * y' ≤ (2 * x + y) * y' := Nat.mul_le_mul_right _ s1
    have t2 : 2 * x' * (10 * y) ≤ (2 * q + 1) * y' * (10 * y) := Nat.mul_le_mul_right _ s2
    have t3 : (2 * q + 2) * (10 * (y * y')) ≤ 2 * n * (10 * (y * y')) := Nat.mul_le_mul_right _ (by omega)
    have hP : 0 < y * y' := Nat.mul_pos hy' hy
    have a1 : 2 * (10 * n) * y * y' = 2 * n * (10 * (y * y')) := by ac_rfl
    have a2 : (2 * x + y) * y' = 2 * (x * y') + y * y' := by rw [Nat.add_mul, Nat.mul_assoc]
    have a3 : 2 * x' * (10 * y) = 2 * (10 * x' * y) := by ac_rfl
    have a4 : (2 * q + 1) * y' * (10 * y) = (2 * q + 1) * (10 * (y * y')) := by ac_rfl
    have a5 : (2 * q + 2) * (10 * (y * y')) = (2 * q + 1) * (10 * (y * y')) + 10 * (y * y') := by rw [← Nat.succ_mul]
    omega
  · omega
end Go.Proofs.YtcmpdamfeoaapaaGreatDoor
end

section
/- Plain: the rounds of Sci. -/
namespace Go.Proofs.YtcmpdamfeoaapaaGreatDoor

theorem canon_len_gt {l : List UInt8} {x k : Nat} (h : Canon l x) (hx : 10 ^ k ≤ x) : k < l.length := by
  have h1 := digVal_lt h.dig
  rw [h.val] at h1
  exact (Nat.pow_lt_pow_iff_right (by decide)).1 (Nat.lt_of_le_of_lt hx h1)
theorem scaledN_rat (b : Nat) (k : Int) : scaledN b k = ratN (mant b * 2 ^ (expo b).toNat) (2 ^ (-(expo b)).toNat) k := by
  unfold scaledN ratN
  congr 1
  ac_rfl
/-- a round of Sci that does not go up has all its digits -/
theorem sci_down {A B p : Nat} {k : Int} (hB : 0 < B) (h : GeT A B k (10 ^ p) ∨ 10 ^ (p + 1) ≤ ratN A B (k + 1)) : 10 ^ p ≤ ratN A B k := by
  rcases h with h | h
  · exact ratN_ge hB h
  · rw [Nat.pow_succ, Nat.mul_comm] at h
    by_cases hg : GeT A B (k + 1) (10 * 10 ^ p)
    · exact ratN_ge hB ((GeT_step A B k _).1 hg)
    · have h1 := ratN_le hB hg
      exact Nat.le_of_eq (ratN_carry hB hg (by omega)).symm
end Go.Proofs.YtcmpdamfeoaapaaGreatDoor
end

section
/- Plain: the first power of ten that Sci tries is low enough. -/
namespace Go.Proofs.YtcmpdamfeoaapaaGreatDoor
open Go

def exp0 (t : Int) : Int := (t * 30103).tdiv 100000 - 2
def lowOk (i : Nat) : Bool := decide (10 ^ (exp0 ((i : Int) - 1074)).toNat * 2 ^ (-((i : Int) - 1074)).toNat ≤ 2 ^ ((i : Int) - 1074).toNat * 10 ^ (-(exp0 ((i : Int) - 1074))).toNat)
theorem lowAll : (List.range 2100).all lowOk = true := by kernel_rfl
theorem low_ok {t : Int} (h1 : -1074 ≤ t) (h2 : t ≤ 1023) : 10 ^ (exp0 t).toNat * 2 ^ (-t).toNat ≤ 2 ^ t.toNat * 10 ^ (-(exp0 t)).toNat := by
  have h := List.all_eq_true.1 lowAll (t + 1074).toNat (List.mem_range.2 (by omega))
  have e : (((t + 1074).toNat : Nat) : Int) - 1074 = t := by omega
  unfold lowOk at h
  rw [e] at h
  exact of_decide_eq_true h
end Go.Proofs.YtcmpdamfeoaapaaGreatDoor
end

section
/- Plain: GeT along powers; where Sci starts. -/
namespace Go.Proofs.YtcmpdamfeoaapaaGreatDoor
theorem GeT_up (A B : Nat) (k : Int) : ∀ p : Nat, GeT A B k 1 → GeT A B (k + p) (10 ^ p)
  | 0, h => by simpa using h
  | p + 1, h => by
    have h1 := GeT_up A B k p h
    have h2 := (GeT_step A B (k + p) (10 ^ p)).2 h1
    rw [show k + ((p + 1 : Nat) : Int) = k + p + 1 by omega, Nat.pow_succ, Nat.mul_comm]; exact h2

theorem sci_start {m j : Nat} {e : Int} (hm : 2 ^ j ≤ m) (h1 : -1074 ≤ (j : Int) + e) (h2 : (j : Int) + e ≤ 1023) (p : Nat) : GeT (m * 2 ^ e.toNat) (2 ^ (-e).toNat) ((p : Int) - exp0 (j + e)) (10 ^ p) := by
  have h := low_ok h1 h2
  generalize exp0 ((j : Int) + e) = x at *
  have hg : GeT (m * 2 ^ e.toNat) (2 ^ (-e).toNat) (-x) 1 := by
    unfold GeT
    rw [Int.neg_neg, Nat.one_mul]
    refine Nat.le_trans ?_ (Nat.mul_le_mul_right _ (Nat.mul_le_mul_right _ hm))
    have hk : (-e).toNat + ((j : Int) + e).toNat = j + e.toNat + (-((j : Int) + e)).toNat := by omega
    have hp : 2 ^ (-e).toNat * 2 ^ ((j : Int) + e).toNat = 2 ^ j * 2 ^ e.toNat * 2 ^ (-((j : Int) + e)).toNat := by
      rw [← Nat.pow_add, ← Nat.pow_add, ← Nat.pow_add, hk]
    have h3 := Nat.mul_le_mul_right (2 ^ (-e).toNat) h
    have hpos : 0 < 2 ^ (-((j : Int) + e)).toNat := Nat.pow_pos (by decide)
    refine Nat.le_of_mul_le_mul_right ?_ hpos
    calc 10 ^ x.toNat * 2 ^ (-e).toNat * 2 ^ (-((j : Int) + e)).toNat = 10 ^ x.toNat * 2 ^ (-((j : Int) + e)).toNat * 2 ^ (-e).toNat := by ac_rfl
      _ ≤ 2 ^ ((j : Int) + e).toNat * 10 ^ (-x).toNat * 2 ^ (-e).toNat := h3
      _ = (2 ^ (-e).toNat * 2 ^ ((j : Int) + e).toNat) * 10 ^ (-x).toNat := by ac_rfl
      _ = 2 ^ j * 2 ^ e.toNat * 10 ^ (-x).toNat * 2 ^ (-((j : Int) + e)).toNat := by rw [hp]; ac_rfl
  have h4 := GeT_up _ _ (-x) p hg
  rw [show -x + (p : Int) = (p : Int) - x by omega] at h4
  exact h4
end Go.Proofs.YtcmpdamfeoaapaaGreatDoor
end

section
/- Plain: a power at which too few digits are asked is small. -/
namespace Go.Proofs.YtcmpdamfeoaapaaGreatDoor
/-- a power at which p + 1 digits are not enough is small -/
theorem sci_high {A B p : Nat} {x : Int} {H : Nat} (hB : 0 < B) (hA : A < 10 ^ H * B) (h : 10 ^ (p + 1) ≤ ratN A B (p - x)) : x < H := by
  rcases Int.lt_or_le x H with hx | hx
  · exact hx
  · exfalso
    have hlt : ¬ GeT A B (p - x) (10 ^ p) := by
      unfold GeT
      rw [Nat.not_le]
      have h1 : A * 10 ^ ((p : Int) - x).toNat < 10 ^ H * B * 10 ^ ((p : Int) - x).toNat := Nat.mul_lt_mul_of_pos_right hA (Nat.pow_pos (by decide))
      have h2 : 10 ^ H * B * 10 ^ ((p : Int) - x).toNat ≤ 10 ^ p * (10 ^ (-((p : Int) - x)).toNat * B) := by
        have e1 : 10 ^ H * B * 10 ^ ((p : Int) - x).toNat = 10 ^ (H + ((p : Int) - x).toNat) * B := by rw [Nat.pow_add, Nat.mul_right_comm]
        have e2 : 10 ^ p * (10 ^ (-((p : Int) - x)).toNat * B) = 10 ^ (p + (-((p : Int) - x)).toNat) * B := by rw [Nat.pow_add, Nat.mul_assoc]
        rw [e1, e2]
        exact Nat.mul_le_mul_right _ (Nat.pow_le_pow_right (by decide) (by omega))
      omega
    have h3 := ratN_le hB hlt
    have h4 : (10 : Nat) ^ p < 10 ^ (p + 1) := Nat.pow_lt_pow_right (by decide) (by omega)
    omega
theorem ten309 {i : Nat} (h : 0 < i) : (2 : Nat) ^ (83 * i + 29) < 10 ^ (25 * i + 9) * 1 := by
  rw [Nat.pow_add 2, Nat.pow_add 10, Nat.pow_mul 2, Nat.pow_mul 10, Nat.mul_one]
  exact Nat.mul_lt_mul_of_lt_of_lt (Nat.pow_lt_pow_left (by decide) (by omega)) (by decide)
theorem fin_lt {m j i : Nat} (k : Nat) (hm : m < 2 ^ 53) (hj : 53 + j ≤ 83 * i + 29) (hi : 0 < i) : m * 2 ^ j < 10 ^ (25 * i + 9) * 2 ^ k := by
  have h1 : m * 2 ^ j ≤ 2 ^ 53 * 2 ^ j := Nat.mul_le_mul_right _ (Nat.le_of_lt hm)
  rw [← Nat.pow_add] at h1
  have h2 := p2_le hj
  have h3 : 10 ^ (25 * i + 9) * 1 ≤ 10 ^ (25 * i + 9) * 2 ^ k := Nat.mul_le_mul_left _ (Nat.pow_pos (by decide))
  exact Nat.lt_of_le_of_lt h1 (Nat.lt_of_le_of_lt h2 (Nat.lt_of_lt_of_le (ten309 hi) h3))
theorem exp0_bounds {t : Int} (h1 : -1074 ≤ t) (h2 : t ≤ 1023) : -325 ≤ exp0 t ∧ exp0 t ≤ 306 := by
  unfold exp0
  rcases Int.lt_or_le t 0 with h | h
  · have e : (t * 30103).tdiv 100000 = -((-t * 30103).tdiv 100000) := by rw [← Int.neg_tdiv]; congr 1; omega
    rw [e, Int.tdiv_eq_ediv_of_nonneg (by omega)]
    omega
  · rw [Int.tdiv_eq_ediv_of_nonneg (by omega)]
    omega
theorem nbits_pos {m : Nat} (h : 0 < m) : 2 ^ (nbits m - 1) ≤ m ∧ 0 < nbits m := by
  have h2 : nbits m ≠ 0 := fun h3 => by have := nbits_le.1 (Nat.le_of_eq h3); simp at this; omega
  refine ⟨?_, by omega⟩
  rcases Nat.lt_or_ge m (2 ^ (nbits m - 1)) with h1 | h1
  · have := nbits_le.2 h1; omega
  · exact h1
end Go.Proofs.YtcmpdamfeoaapaaGreatDoor
end

section
/- Plain: the nearest float, in steps of the least one; greater numbers, greater floats. -/
namespace Go.Proofs.YtcmpdamfeoaapaaGreatDoor
/-- the step of the float that is nearest to X/y (in steps of the least float) -/
structure Step (X y j : Nat) : Prop where
  lt : X < 2 ^ 53 * (2 ^ j * y)
  ge : j = 0 ∨ 2 ^ 52 * (2 ^ j * y) ≤ X
/-- its bits -/
def nb (X y j : Nat) : Nat := min (j * 2 ^ 52 + rnd X (2 ^ j * y)) 9218868437227405312

/-- the least float's share of one -/
def bias : Nat := 1074
def kk : Nat := 2 ^ bias
theorem pow2_gen {E : Int} {K : Nat} {k : Int} (hk : (K : Int) = k) (h : -k ≤ E) : 2 ^ (-E).toNat * 2 ^ (E + k).toNat = 2 ^ K * 2 ^ E.toNat := by
  rw [← Nat.pow_add, ← Nat.pow_add]
  exact congrArg (2 ^ ·) (by omega)
theorem pow2_gen1 {E : Int} {K : Nat} {k : Int} (hk : (K : Int) = k) (h : 1 - k ≤ E) : 2 ^ (-(E - 1)).toNat * 2 ^ (E + k).toNat = 2 * (2 ^ K * 2 ^ (E - 1).toNat) := by
  rw [← Nat.pow_add, ← Nat.pow_add, Nat.mul_comm 2, ← Nat.pow_succ]
  exact congrArg (2 ^ ·) (by omega)
theorem pow2_int {E : Int} (h : -1074 ≤ E) : 2 ^ (-E).toNat * 2 ^ (E + 1074).toNat = kk * 2 ^ E.toNat := pow2_gen (K := bias) (k := 1074) rfl h
theorem two53 : (2 : Nat) ^ 53 = 2 ^ 52 * 2 := by decide
theorem pow2_pos (k : Nat) : 0 < 2 ^ k := Nat.pow_pos (by decide)
theorem step_of_least {x y : Nat} {E : Int} (hx : 0 < x) (hy : 0 < y) (h : LeastE x y E) : -1074 ≤ E ∧ Step (x * kk) y (E + 1074).toNat := by
  have hge := h.ge
  have h1074 : -1074 ≤ E := by unfold e0 at hge; omega
  refine ⟨h1074, ?_, ?_⟩
  · have h1 := nbits_le.1 h.bits
    unfold qat at h1
    rw [Nat.div_lt_iff_lt_mul (Nat.mul_pos hy (pow2_pos _))] at h1
    have h2 := pow2_int h1074
    have h3 := Nat.mul_lt_mul_of_pos_right h1 (pow2_pos (E + 1074).toNat)
    have e1 : x * 2 ^ (-E).toNat * 2 ^ (E + 1074).toNat = x * kk * 2 ^ E.toNat := by rw [Nat.mul_assoc, h2, Nat.mul_assoc]
    have e2 : 2 ^ 53 * (y * 2 ^ E.toNat) * 2 ^ (E + 1074).toNat = 2 ^ 53 * (2 ^ (E + 1074).toNat * y) * 2 ^ E.toNat := by ac_rfl
    rw [e1, e2] at h3
    exact Nat.lt_of_mul_lt_mul_right h3
  · rcases Nat.eq_zero_or_pos (E + 1074).toNat with h0 | h0
    · exact .inl h0
    · refine .inr ?_
      -- one step lower there is no room
      have hlow : 2 ^ 53 * (y * 2 ^ (E - 1).toNat) ≤ x * 2 ^ (-(E - 1)).toNat := by
        by_cases hE : e0 x y ≤ E - 1
        · have h1 := h.least (E - 1) hE (by omega)
          have h2 : 2 ^ 53 ≤ qat x y (E - 1) := by
            rcases Nat.lt_or_ge (qat x y (E - 1)) (2 ^ 53) with h3 | h3
            · exact absurd (nbits_le.2 h3) h1
            · exact h3
          unfold qat at h2
          exact (Nat.le_div_iff_mul_le (Nat.mul_pos hy (pow2_pos _))).1 h2
        · exfalso
          have hEe : E = (nbits x : Int) - nbits y - 54 := by unfold e0 at hge hE; omega
          have hxb := (nbits_pos hx)
          have hyb := nbits_le.1 (Nat.le_refl (nbits y))
          have h1 := nbits_le.1 h.bits
          unfold qat at h1
          rw [Nat.div_lt_iff_lt_mul (Nat.mul_pos hy (pow2_pos _))] at h1
          have h2 : 2 ^ (nbits x - 1) * 2 ^ (-E).toNat ≤ x * 2 ^ (-E).toNat := Nat.mul_le_mul_right _ hxb.1
          have h3 : 2 ^ 53 * (y * 2 ^ E.toNat) < 2 ^ 53 * (2 ^ nbits y * 2 ^ E.toNat) := Nat.mul_lt_mul_of_pos_left (Nat.mul_lt_mul_of_pos_right hyb (pow2_pos _)) (pow2_pos _)
          have h4 : 2 ^ 53 * (2 ^ nbits y * 2 ^ E.toNat) ≤ 2 ^ (nbits x - 1) * 2 ^ (-E).toNat := by
            rw [← Nat.pow_add, ← Nat.pow_add, ← Nat.pow_add]
            exact Nat.pow_le_pow_right (by decide) (by omega)
          omega
      have h2 : 2 ^ (-(E - 1)).toNat * 2 ^ (E + 1074).toNat = 2 * (kk * 2 ^ (E - 1).toNat) := by exact pow2_gen1 (K := bias) (k := 1074) rfl (by omega)
      have h3 := Nat.mul_le_mul_right (2 ^ (E + 1074).toNat) hlow
      have e1 : x * 2 ^ (-(E - 1)).toNat * 2 ^ (E + 1074).toNat = x * kk * (2 * 2 ^ (E - 1).toNat) := by rw [Nat.mul_assoc, h2, Nat.mul_left_comm 2 kk, Nat.mul_assoc]
      have e2 : 2 ^ 53 * (y * 2 ^ (E - 1).toNat) * 2 ^ (E + 1074).toNat = 2 ^ 52 * (2 ^ (E + 1074).toNat * y) * (2 * 2 ^ (E - 1).toNat) := by rw [two53]; generalize (2 : Nat) ^ 52 = c; ac_rfl
      rw [e1, e2] at h3
      exact Nat.le_of_mul_le_mul_right h3 (Nat.mul_pos (by decide) (pow2_pos _))
theorem nearBits_nb {x y : Nat} {E : Int} (hy : 0 < y) (h : -1074 ≤ E) : nearBits x y E = nb (x * kk) y (E + 1074).toNat := by
  unfold nearBits nb
  refine congrArg (fun n => min ((E + 1074).toNat * 2 ^ 52 + n) 9218868437227405312) ?_
  refine rnd_same (Nat.mul_pos hy (pow2_pos _)) (Nat.mul_pos (pow2_pos _) hy) ?_
  have h2 := pow2_int h
  calc x * 2 ^ (-E).toNat * (2 ^ (E + 1074).toNat * y) = x * (2 ^ (-E).toNat * 2 ^ (E + 1074).toNat) * y := by ac_rfl
    _ = x * kk * (y * 2 ^ E.toNat) := by rw [h2]; generalize kk = K; ac_rfl

theorem step_le {X y j X' y' j' : Nat} (hy : 0 < y) (_ : 0 < y') (h : Step X y j) (h' : Step X' y' j') (hX : X * y' ≤ X' * y) : j ≤ j' := by
  rcases Nat.lt_or_ge j' j with hlt | hge
  · exfalso
    have h1 : 2 ^ 52 * (2 ^ j * y) ≤ X := by
      rcases h.ge with h0 | h0
      · omega
      · exact h0
    have h2 := h'.lt
    have h3 : 2 ^ 53 * (2 ^ j' * y') ≤ 2 ^ 52 * (2 ^ j * y') := by
      have e1 : 2 ^ 53 * (2 ^ j' * y') = 2 ^ 52 * (2 ^ (j' + 1) * y') := by rw [two53, Nat.pow_succ 2 j']; generalize (2 : Nat) ^ 52 = c; ac_rfl
      rw [e1]
      exact Nat.mul_le_mul_left _ (Nat.mul_le_mul_right _ (Nat.pow_le_pow_right (by decide) hlt))
    have h4 : 2 ^ 52 * (2 ^ j * y) * y' ≤ X * y' := Nat.mul_le_mul_right _ h1
    have h5 : X' * y < 2 ^ 52 * (2 ^ j * y') * y := Nat.mul_lt_mul_of_pos_right (Nat.lt_of_lt_of_le h2 h3) hy
    have e6 : 2 ^ 52 * (2 ^ j * y) * y' = 2 ^ 52 * (2 ^ j * y') * y := by ac_rfl
    omega
  · exact hge
theorem step_rnd_le {X y j : Nat} (hy : 0 < y) (h : Step X y j) : rnd X (2 ^ j * y) ≤ 2 ^ 53 := rnd_le_of (Nat.mul_pos (pow2_pos _) hy) (Nat.le_of_lt h.lt)
/-- a greater number has no lesser float -/
theorem nb_mono {X y j X' y' j' : Nat} (hy : 0 < y) (hy' : 0 < y') (h : Step X y j) (h' : Step X' y' j') (hX : X * y' ≤ X' * y) : nb X y j ≤ nb X' y' j' := by
  have hj := step_le hy hy' h h' hX
  have h1 := step_rnd_le hy h
  unfold nb
  rcases Nat.eq_or_lt_of_le hj with he | hlt
  · subst he
    have h2 := rnd_mono (x := X) (y := 2 ^ j * y) (x' := X') (y' := 2 ^ j * y') (Nat.mul_pos (pow2_pos _) hy) (Nat.mul_pos (pow2_pos _) hy') (by
      have e1 : X * (2 ^ j * y') = 2 ^ j * (X * y') := by ac_rfl
      have e2 : X' * (2 ^ j * y) = 2 ^ j * (X' * y) := by ac_rfl
      rw [e1, e2]; exact Nat.mul_le_mul_left _ hX)
    omega
  · have h3 : 2 ^ 52 ≤ rnd X' (2 ^ j' * y') := by
      rcases h'.ge with h0 | h0
      · omega
      · exact rnd_ge (Nat.mul_pos (pow2_pos _) hy') h0
    have h4 : (j + 1) * 2 ^ 52 ≤ j' * 2 ^ 52 := Nat.mul_le_mul_right _ hlt
    have e5 : (2 : Nat) ^ 53 = 2 ^ 52 + 2 ^ 52 := by decide
    rw [Nat.add_mul] at h4
    omega
theorem step_same {X y j X' y' j' : Nat} (hy : 0 < y) (hy' : 0 < y') (h : Step X y j) (h' : Step X' y' j') (hX : X * y' = X' * y) : nb X y j = nb X' y' j' :=
  Nat.le_antisymm (nb_mono hy hy' h h' (Nat.le_of_eq hX)) (nb_mono hy' hy h' h (Nat.le_of_eq hX.symm))
end Go.Proofs.YtcmpdamfeoaapaaGreatDoor
end

section
/- Plain: the floats themselves, and numbers near to them. -/
namespace Go.Proofs.YtcmpdamfeoaapaaGreatDoor
/-- the float's steps -/
def jof (b : Nat) : Nat := b / 2 ^ 52 - 1
/-- the float's whole number of steps -/
def mof (b : Nat) : Nat := if b / 2 ^ 52 = 0 then b else b % 2 ^ 52 + 2 ^ 52
theorem bits_parts (b : Nat) : b = jof b * 2 ^ 52 + mof b := by unfold jof mof; split <;> omega
theorem mof_lt (b : Nat) : mof b < 2 ^ 53 := by unfold mof; split <;> omega
theorem mof_ge (b : Nat) : jof b = 0 ∨ 2 ^ 52 ≤ mof b := by unfold jof mof; split <;> omega
theorem rnd_close {X G m : Nat} (h1 : 2 * X < 2 * (m * G) + G) (h2 : 2 * (m * G) < 2 * X + G) : rnd X G = m := by
  have hG : 0 < G := by
    rcases Nat.eq_zero_or_pos G with h | h
    · subst h; simp at h1
    · exact h
  have hs := rnd_spec (x := X) hG
  generalize rnd X G = r at hs
  have e1 : (2 * r + 1) * G = 2 * (r * G) + G := by rw [Nat.succ_mul, Nat.mul_assoc]
  have e2 : 2 * r * G = 2 * (r * G) := Nat.mul_assoc _ _ _
  rw [e1, e2] at hs
  rcases Nat.lt_trichotomy r m with h | h | h
  · have h3 : (r + 1) * G ≤ m * G := Nat.mul_le_mul_right _ h
    rw [Nat.succ_mul] at h3
    omega
  · exact h
  · have h3 : (m + 1) * G ≤ r * G := Nat.mul_le_mul_right _ h
    rw [Nat.succ_mul] at h3
    omega
theorem nb_exact {X y b : Nat} (hy : 0 < y) (h : X = mof b * (2 ^ jof b * y)) (hb : b ≤ 9218868437227405312) : Step X y (jof b) ∧ nb X y (jof b) = b := by
  have hG : 0 < 2 ^ jof b * y := Nat.mul_pos (pow2_pos _) hy
  have hr : rnd X (2 ^ jof b * y) = mof b := rnd_close (by omega) (by omega)
  refine ⟨⟨?_, ?_⟩, ?_⟩
  · rw [h]; exact Nat.mul_lt_mul_of_pos_right (mof_lt b) hG
  · rcases mof_ge b with h0 | h0
    · exact .inl h0
    · exact .inr (by rw [h]; exact Nat.mul_le_mul_right _ h0)
  · unfold nb
    rw [hr, ← bits_parts]
    omega
/-- a number so near to a float that seventeen digits tell it is rounded to it -/
theorem nb_close {X y b j : Nat} (hy : 0 < y) (hb : b ≤ 9218868437227405312) (hs : Step X y j)
    (h1 : 20000000000000000 * X ≤ 20000000000000000 * (mof b * (2 ^ jof b * y)) + X)
    (h2 : 20000000000000000 * (mof b * (2 ^ jof b * y)) ≤ 20000000000000000 * X + X) : nb X y j = b := by
  have hm := mof_lt b
  have hG : 0 < 2 ^ jof b * y := Nat.mul_pos (pow2_pos _) hy
  have hP : mof b * (2 ^ jof b * y) ≤ (2 ^ 53 - 1) * (2 ^ jof b * y) := Nat.mul_le_mul_right _ (by omega)
  have hbp := bits_parts b
  by_cases hc : jof b = 0 ∨ 2 ^ 52 * (2 ^ jof b * y) ≤ X
  · have hS : Step X y (jof b) := ⟨by omega, hc⟩
    rw [step_same hy hy hs hS rfl]
    unfold nb
    rw [rnd_close (m := mof b) (by omega) (by omega), ← hbp]
    omega
  · have hj : jof b ≠ 0 := fun h => hc (.inl h)
    have hX : X < 2 ^ 52 * (2 ^ jof b * y) := Nat.lt_of_not_le fun h => hc (.inr h)
    have hmg : 2 ^ 52 ≤ mof b := by rcases mof_ge b with h | h; exact absurd h hj; exact h
    have hm2 : mof b = 2 ^ 52 := by
      rcases Nat.lt_or_ge (2 ^ 52) (mof b) with h | h
      · exfalso
        have h3 : (2 ^ 52 + 1) * (2 ^ jof b * y) ≤ mof b * (2 ^ jof b * y) := Nat.mul_le_mul_right _ h
        omega
      · omega
    obtain ⟨j', hj'⟩ : ∃ j', jof b = j' + 1 := ⟨jof b - 1, by omega⟩
    rw [hm2] at h1 h2 hP
    have e : 2 ^ jof b * y = 2 * (2 ^ j' * y) := by rw [hj', Nat.pow_succ 2 j', Nat.mul_comm (2 ^ j') 2, Nat.mul_assoc]
    rw [e] at h1 h2 hX hG
    have hS : Step X y j' := ⟨by omega, .inr (by omega)⟩
    rw [step_same hy hy hs hS rfl]
    unfold nb
    rw [rnd_close (m := 2 ^ 53) (by omega) (by omega)]
    rw [hj', hm2] at hbp
    omega
end Go.Proofs.YtcmpdamfeoaapaaGreatDoor
end
