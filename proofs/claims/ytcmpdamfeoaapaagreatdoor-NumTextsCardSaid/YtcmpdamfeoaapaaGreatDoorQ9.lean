/- The document's answer of package dec (thresherref03): Read. -/
import Derived.Test.YtcmpdamfeoaapaaGreatDoorQ8
namespace Go.Proofs.YtcmpdamfeoaapaaGreatDoor
open Go.RowKit
set_option linter.unusedVariables false

theorem bare_ne {l : List UInt8} (h : digVal l ≠ 0) : bare l ≠ [] := fun h0 => h (by rw [← digVal_bare, h0]; rfl)
theorem bare_nil {l : List UInt8} (hd : Digits l) (h : digVal l = 0) : bare l = [] := by
  refine Classical.byContradiction fun hne => ?_
  have := bare_pos hd (fun h0 => hne (List.eq_nil_of_length_eq_zero h0))
  rw [digVal_bare, h] at this
  exact absurd this (Nat.lt_irrefl _)
theorem lim4_dig {l : List UInt8} {k : Nat} (hd : Digits l) (hl : l.length ≤ 4 * k) : (lim4 (digVal l)).length ≤ k := by
  refine lim4_length_le (Nat.lt_of_lt_of_le (digVal_lt hd) ?_)
  rw [b4_pow]
  exact Nat.pow_le_pow_right (by decide) hl
theorem lim4_digits {l : List UInt8} (hd : Digits l) (hl : l.length ≤ 1024) : (lim4 (digVal l)).length ≤ 257 := lim4_dig hd (by omega)
theorem cmpN_one {a b : Nat} (h : b < a) : cmpN a b = 1 := by unfold cmpN; rw [if_neg (by omega), if_neg (by omega)]
theorem cmpN_zero {a b : Nat} (h : a = b) : cmpN a b = 0 := by unfold cmpN; rw [if_neg (by omega), if_pos h]
theorem cmpN_neg {a b : Nat} (h : a < b) : cmpN a b = -1 := by unfold cmpN; rw [if_pos h]

theorem Read3_bad (s : ByteArray) (x : Int) (w : World) (h : s.data.toList = [] ∨ ¬ Digits s.data.toList) (hl : s.data.toList.length ≤ 100000) :
    Calls Tryz.prog 121 #[.string s, .int .i64 x] w fun e w' => e = .returned (.tuple #[.float .f64 0, .int .i64 30]) ∧ w = w' := by
  have HP := Lib.hid (Parse4_bad s w h hl)
  clear h
  go_enter Tryz.func121, Tryz.ntmps121
  go_wp2_with fail
  refine HP.out.mono ?_
  rintro e _ ⟨rfl, rfl⟩
  go_wp2_with fail
  go_ret2
  exact ⟨rfl, rfl⟩
theorem Read3_long (s : ByteArray) (x : Int) (w : World) (hd : Digits s.data.toList) (hl : s.data.toList.length ≤ 100000) (hl2 : 1024 < s.data.toList.length) :
    Calls Tryz.prog 121 #[.string s, .int .i64 x] w fun e w' => e = .returned (.tuple #[.float .f64 0, .int .i64 3]) ∧ Below w.heap.size w w' := by
  have HP := Lib.hid (Parse4_ok s w (by intro h; rw [h] at hl2; simp at hl2) hd hl)
  have hsz : s.size = s.data.toList.length := by simp
  have h1 : (1024 : Int) < (s.size : Int) := by omega
  clear hd hl hl2 hsz
  go_enter Tryz.func121, Tryz.ntmps121
  go_wp2_with fail
  refine HP.out.mono ?_
  rintro e w1 ⟨v, rfl, _, hb⟩
  have HB := Lib.hid hb
  clear hb
  go_wp2_with fail
  go_ret2
  exact ⟨rfl, HB.out⟩
set_option maxRecDepth 100000 in
set_option maxHeartbeats 8000000 in
theorem Read3_ok (s : ByteArray) (x : Int) (w : World) (hn : s.data.toList ≠ []) (hd : Digits s.data.toList) (hl : s.data.toList.length ≤ 1024) :
    Calls Tryz.prog 121 #[.string s, .int .i64 x] w fun e w' => e = .returned (.tuple #[.float .f64 (readB s.data.toList x), .int .i64 0]) ∧ Below w.heap.size w w' := by
  have HP := Lib.hid (Parse4_ok s w hn hd (by omega))
  have hsz : s.size = s.data.toList.length := by simp
  have h1 : (s.size : Int) ≤ 1024 := by omega
  have hlim := lim4_digits hd hl
  have HBn : Hid (digVal s.data.toList = 0 → readB s.data.toList x = 0) := by
    intro h
    unfold readB
    rw [if_pos (.inl (by rw [bare_nil hd h]; rfl))]
  have HSm : Hid (x < -1500 → readB s.data.toList x = 0) := fun h => readB_small hl h
  have HBg : Hid (digVal s.data.toList ≠ 0 → 400 < x → readB s.data.toList x = 9218868437227405312) := fun h h2 => readB_big (bare_ne h) h2
  have HNr : Hid (digVal s.data.toList ≠ 0 → -1500 ≤ x → x ≤ 400 → readB s.data.toList x = near (digVal s.data.toList * 10 ^ x.toNat) (10 ^ (-x).toNat)) := fun h h2 h3 => readB_nearest hd (bare_ne h) hl h2 h3
  generalize readB s.data.toList x = R at *
  generalize digVal s.data.toList = D at *
  clear hn hd hl hsz
  go_enter Tryz.func121, Tryz.ntmps121
  go_wp2_with fail
  refine HP.out.mono ?_
  rintro e w1 ⟨v, rfl, hv, hb⟩
  have HB := Lib.hid hb
  have HV := Lib.hid hv
  obtain ⟨va, vc, rfl, _⟩ := hv
  have hs1 := hb.size
  clear hb HP
  by_cases hD0 : D = 0
  · have e0 : (lim4 D).length = 0 := by rw [hD0, lim4_zero]; rfl
    have hR := Lib.hid (HBn.out hD0)
    rw [e0]
    clear HV hlim e0 hD0
    go_wp2_with fail
    go_ret2
    exact ⟨by rw [hR.out]; rfl, HB.out⟩
  have hpos : 0 < (lim4 D).length := by
    rcases Nat.eq_zero_or_pos (lim4 D).length with h | h
    · exact absurd (lim4_eq_nil.1 (List.eq_nil_of_length_eq_zero h)) hD0
    · exact h
  have HBg1 := Lib.hid (HBg.out hD0)
  have HNr1 := Lib.hid (HNr.out hD0)
  obtain ⟨n, hn⟩ : ∃ n, n = (lim4 D).length := ⟨_, rfl⟩
  rw [← hn] at hpos HV ⊢
  have hHn := Lib.hid hn
  have hnb : ((n : Int) == 0) = false := by simp; omega
  have hnI : (0 : Int) < (n : Int) := by omega
  clear HBg HNr HBn hD0 hn
  by_cases hx1 : x < -1500
  · have hR := Lib.hid (HSm.out hx1)
    clear HSm HV
    go_wp2_with fail
    go_ret2
    exact ⟨by rw [hR.out]; rfl, HB.out⟩
  by_cases hx2 : 400 < x
  · have hR := Lib.hid (HBg1.out hx2)
    have hx1' : decide (x < -1500) = false := by simp; omega
    clear HSm HV
    go_wp2_with fail
    go_ret2
    exact ⟨by rw [hR.out]; rfl, HB.out⟩
  have hx1' : decide (x < -1500) = false := by simp; omega
  have hx2' : decide (400 < x) = false := by simp; omega
  have hR := Lib.hid (HNr1.out (by omega) (by omega))
  have hX1 : -1500 ≤ x := by omega
  have hX2 : x ≤ 400 := by omega
  have HAb : Hid (∀ (b : Nat) (W : World), NumV W (.slice va n vc) D → b < 9218868437227405312 → Calls Tryz.prog 179 #[.slice va n vc, .int .i64 x, .int .u64 (b : Nat)] W fun e w' => e = .returned (.int .i64 (cmpN (2 * (D * 10 ^ x.toNat * kk)) (gm b * 10 ^ (-x).toNat))) ∧ Below W.heap.size W w') :=
    fun b W hv hb => above_any _ D x b W hv (by omega) hX1 hX2 hb
  have HY : Hid (0 < 10 ^ (-x).toNat) := Nat.pow_pos (by decide)
  have HRl : Hid (∀ lo, lo ≤ 9218868437227405312 → (∀ b, b < lo → gm b * 10 ^ (-x).toNat < 2 * (D * 10 ^ x.toNat * kk)) → (lo < 9218868437227405312 → 2 * (D * 10 ^ x.toNat * kk) ≤ gm lo * 10 ^ (-x).toNat) →
      R = if lo < 9218868437227405312 ∧ lo % 2 = 1 ∧ 2 * (D * 10 ^ x.toNat * kk) = gm lo * 10 ^ (-x).toNat then lo + 1 else lo) := by
    intro lo h1 h2 h3
    rw [hR.out]
    exact nb_least HY.out (stepOf_step _ HY.out) h1 h2 h3
  have HMo : Hid (∀ a b, a < b → gm a * 10 ^ (-x).toNat < gm b * 10 ^ (-x).toNat) := fun a b h => Nat.mul_lt_mul_of_pos_right (gm_mono h) HY.out
  generalize 2 * (D * 10 ^ x.toNat * kk) = X2 at *
  generalize 10 ^ (-x).toNat = Y at *
  clear hR HNr1 HBg1 HSm hlim hx1 hx2 hHn
  go_wp2_with fail
  go_loopw [8, 9] (fun l h wr => ∃ lo hi : Nat, l = .int .u64 (lo : Int) ∧ h = .int .u64 (hi : Int) ∧ lo ≤ hi ∧ hi ≤ 9218868437227405312 ∧ Hid (∀ b, b < lo → gm b * Y < X2) ∧ Hid (hi < 9218868437227405312 → X2 ≤ gm hi * Y) ∧ Hid (NumV wr (.slice va n vc) D) ∧ Hid (Below w.heap.size w wr)) (fun l h _ => (intOf h - intOf l).toNat)
  case atStart => exact ⟨0, 9218868437227405312, rfl, rfl, by omega, by omega, (fun b h => by omega), (fun h => by omega), HV, HB⟩
  case round =>
    clear HV HB hs1
    obtain ⟨lo, hi, rfl, rfl, hlh, hhi, HLo, HHi, HV, HB⟩ := hrel
    have hbs := HB.out.size
    by_cases hlt : lo < hi
    · obtain ⟨mid, hmid⟩ : ∃ mid, mid = (lo + hi) / 2 := ⟨_, rfl⟩
      have em : ((lo : Int) + (hi : Int)) / 2 = (mid : Int) := by omega
      have hm1 : lo ≤ mid := by omega
      have hm2 : mid < hi := by omega
      have hI : (lo : Int) < (hi : Int) := by omega
      have hhiI : (hi : Int) ≤ 9218868437227405312 := by omega
      clear hmid
      by_cases hc : gm mid * Y < X2
      · have HA1 := Lib.hid (HAb.out mid wr HV.out (by omega))
        rw [cmpN_one hc] at HA1
        have HLo1 : Hid (∀ b, b < mid + 1 → gm b * Y < X2) := by
          intro b hb
          rcases Nat.lt_or_ge b mid with h | h
          · exact Nat.lt_trans (HMo.out b mid h) hc
          · obtain rfl : b = mid := by omega
            exact hc
        clear hc HLo
        go_wp2_with fail
        refine HA1.out.mono ?_
        rintro e w2 ⟨rfl, hb2⟩
        have HB2 := Lib.hid (HB.out.trans (hb2.mono hbs))
        have HV2 := Lib.hid (HV.out.below hb2)
        clear hb2 HA1
        go_wp2_with fail
        go_roundw
        case rel => exact ⟨mid + 1, hi, by go_num, rfl, by omega, by omega, HLo1, HHi, HV2, HB2⟩
        case measure => simp only [intOf]; omega
      · have HHi1 : Hid (mid < 9218868437227405312 → X2 ≤ gm mid * Y) := fun _ => by omega
        obtain ⟨c, hcc, hc0⟩ : ∃ c : Int, cmpN X2 (gm mid * Y) = c ∧ c ≤ 0 := by
          rcases Nat.lt_or_ge X2 (gm mid * Y) with h | h
          · exact ⟨_, cmpN_neg h, by decide⟩
          · exact ⟨_, cmpN_zero (by omega), by decide⟩
        have HA1 := Lib.hid (HAb.out mid wr HV.out (by omega))
        rw [hcc] at HA1
        have hc0' : decide (0 < c) = false := by simp; omega
        clear hc hcc HHi
        go_wp2_with fail
        refine HA1.out.mono ?_
        rintro e w2 ⟨rfl, hb2⟩
        have HB2 := Lib.hid (HB.out.trans (hb2.mono hbs))
        have HV2 := Lib.hid (HV.out.below hb2)
        clear hb2 HA1
        go_wp2_with fail
        go_roundw
        case rel => exact ⟨lo, mid, rfl, rfl, by omega, by omega, HLo, HHi1, HV2, HB2⟩
        case measure => simp only [intOf]; omega
    · obtain rfl : lo = hi := by omega
      have hRl := HRl.out lo hhi HLo.out HHi.out
      have hI : (lo : Int) ≤ (lo : Int) := Int.le_refl _
      by_cases hinf : lo < 9218868437227405312
      · have hiI : (lo : Int) < 9218868437227405312 := by omega
        by_cases hodd : lo % 2 = 1
        · have hoI : ((lo : Int) % 2 == 1) = true := by rw [beq_iff_eq]; omega
          have HA1 := Lib.hid (HAb.out lo wr HV.out hinf)
          by_cases heq : X2 = gm lo * Y
          · rw [if_pos ⟨hinf, hodd, heq⟩] at hRl
            rw [cmpN_zero heq] at HA1
            have HRl1 := Lib.hid hRl
            clear hRl heq hodd
            go_wp2_with fail
            refine HA1.out.mono ?_
            rintro e w2 ⟨rfl, hb2⟩
            have HB2 := Lib.hid (HB.out.trans (hb2.mono hbs))
            clear hb2 HA1
            go_wp2_with fail
            go_ret2
            exact ⟨by rw [HRl1.out]; rfl, HB2.out⟩
          · rw [if_neg (fun h => heq h.2.2)] at hRl
            obtain ⟨c, hcc, hc0⟩ : ∃ c : Int, cmpN X2 (gm lo * Y) = c ∧ c ≠ 0 := by
              rcases Nat.lt_or_ge X2 (gm lo * Y) with h | h
              · exact ⟨_, cmpN_neg h, by decide⟩
              · exact ⟨_, cmpN_one (by omega), by decide⟩
            rw [hcc] at HA1
            have hc0' : (c == 0) = false := beq_eq_false_iff_ne.2 hc0
            have HRl1 := Lib.hid hRl
            clear hRl heq hodd hcc hc0
            go_wp2_with fail
            refine HA1.out.mono ?_
            rintro e w2 ⟨rfl, hb2⟩
            have HB2 := Lib.hid (HB.out.trans (hb2.mono hbs))
            clear hb2 HA1
            go_wp2_with fail
            go_ret2
            exact ⟨by rw [HRl1.out]; rfl, HB2.out⟩
        · have hoI : ((lo : Int) % 2 == 1) = false := beq_eq_false_iff_ne.2 (by omega)
          rw [if_neg (fun h => hodd h.2.1)] at hRl
          have HRl1 := Lib.hid hRl
          clear hRl hodd
          go_wp2_with fail
          go_ret2
          exact ⟨by rw [HRl1.out]; rfl, HB.out⟩
      · have hiI : decide ((lo : Int) < 9218868437227405312) = false := by simp; omega
        rw [if_neg (fun h => hinf h.1)] at hRl
        have HRl1 := Lib.hid hRl
        clear hRl
        go_wp2_with fail
        go_ret2
        exact ⟨by rw [HRl1.out]; rfl, HB.out⟩
end Go.Proofs.YtcmpdamfeoaapaaGreatDoor
