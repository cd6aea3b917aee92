/- thresherlaw03: DecBack; math.IsNaN, math.IsInf. -/
import Derived.Test.YtkpikkeblogdcaaDoorR10
namespace Go.Proofs.YtkpikkeblogdcaaDoor
open Go.RowKit
set_option linter.unusedVariables false

theorem read_nan {b : Nat} (h : 9218868437227405312 < b) (h2 : b < 9223372036854775808) : ∃ f, FloatKind.f64.format.read b = .nan false f := by
  have e1 : FloatKind.f64.format.signWeight = 9223372036854775808 := by decide
  have e2 : FloatKind.f64.format.binade = 4503599627370496 := by decide
  have e3 : FloatKind.f64.format.infRung = 9218868437227405312 := by decide
  have e5 : (b / 9223372036854775808 % 2 == 1) = false := by rw [Nat.div_eq_of_lt (by omega)]; rfl
  have e6 : b % 9223372036854775808 = b := Nat.mod_eq_of_lt (by omega)
  unfold Ieee.Format.read
  simp only [e1, e2, e3, e5, e6]
  rw [if_neg (by omega), if_neg (by omega), if_neg (by omega)]
  exact ⟨_, rfl⟩
theorem order_nan {b : Nat} (c : Nat) (h : 9218868437227405312 < b) (h2 : b < 9223372036854775808) : FloatKind.f64.format.order b c = none := by
  obtain ⟨f, hf⟩ := read_nan h h2
  unfold Ieee.Format.order
  rw [hf]
  cases FloatKind.f64.format.read c <;> rfl

theorem IsNaN_fin {b : Nat} (w : World) (h : b ≤ 9218868437227405312) : Calls Tryd.prog 26 #[.float .f64 b] w fun e w' => e = .returned (.bool false) ∧ w = w' := by
  have ho := order_eq h
  clear h
  go_enter Tryd.func26, Tryd.ntmps26
  go_wp2_with fail
  go_ret
  exact ⟨rfl, rfl⟩
theorem IsNaN_nan {b : Nat} (w : World) (h : 9218868437227405312 < b) (h2 : b < 9223372036854775808) : Calls Tryd.prog 26 #[.float .f64 b] w fun e w' => e = .returned (.bool true) ∧ w = w' := by
  have ho := order_nan b h h2
  clear h h2
  go_enter Tryd.func26, Tryd.ntmps26
  go_wp2_with fail
  go_ret
  exact ⟨rfl, rfl⟩
theorem Abs_pos {b : Nat} (w : World) (h : b < 9223372036854775808) : Calls Tryd.prog 52 #[.float .f64 b] w fun e w' => e = .returned (.float .f64 b) ∧ w = w' := by
  have hm := mask63 b (by omega)
  rw [Nat.mod_eq_of_lt h] at hm
  clear h
  go_enter Tryd.func52, Tryd.ntmps52
  go_wp2_with fail
  go_ret
  exact ⟨rfl, rfl⟩
theorem IsInf_fin {b : Nat} (w : World) (h : b < 9218868437227405312) : Calls Tryd.prog 27 #[.float .f64 b, .int .i64 0] w fun e w' => e = .returned (.bool false) ∧ w = w' := by
  have HA := Lib.hid (Abs_pos w (show b < 9223372036854775808 by omega))
  have ho : (FloatKind.f64.format.order b 9218868437227405311 == some .gt) = false := by
    rcases Nat.eq_or_lt_of_le (show b ≤ 9218868437227405311 by omega) with h1 | h1
    · rw [h1, order_eq (by omega)]; decide
    · rw [order_lt (by omega) (by omega) h1]; decide
  clear h
  go_enter Tryd.func27, Tryd.ntmps27
  go_wp2_with fail
  refine HA.out.mono ?_
  rintro e w1 ⟨rfl, rfl⟩
  go_wp2_with fail
  go_ret
  exact ⟨rfl, rfl⟩
theorem IsInf_inf (w : World) : Calls Tryd.prog 27 #[.float .f64 9218868437227405312, .int .i64 0] w fun e w' => e = .returned (.bool true) ∧ w = w' := by
  have HA := Lib.hid (Abs_pos w (show 9218868437227405312 < 9223372036854775808 by decide))
  have ho := order_gt (x := 9218868437227405312) (y := 9218868437227405311) (by decide) (by decide) (by decide)
  go_enter Tryd.func27, Tryd.ntmps27
  go_wp2_with fail
  refine HA.out.mono ?_
  rintro e w1 ⟨rfl, rfl⟩
  go_wp2_with fail
  go_ret
  exact ⟨rfl, rfl⟩

theorem bare_zeros (k : Nat) (l : List UInt8) : bare (List.replicate k 48 ++ l) = bare l := by
  induction k with
  | zero => rfl
  | succ k ih => rw [List.replicate_succ, List.cons_append, bare_nought, ih]
theorem bare_all (k : Nat) : bare (List.replicate k 48) = [] := by
  have h := bare_zeros k []
  rw [List.append_nil] at h
  rw [h]; rfl
theorem zeros_digits (k : Nat) : Digits (List.replicate k 48) := by
  intro c hc
  rw [(List.mem_replicate.1 hc).2]; decide
theorem mant_zero {b : Nat} (h : b < 9218868437227405312) (hm : mant b = 0) : b = 0 := by
  rw [(mant_mof h).1] at hm
  unfold mof at hm
  split at hm <;> omega

set_option maxRecDepth 100000 in
set_option maxHeartbeats 4000000 in
theorem back_any (n : Nat) (w : World) (hn : n < 18446744073709551616) :
    Calls Tryd.prog 8 #[.int .u64 n] w fun e w' => e = .returned (.bool true) ∧ Below w.heap.size w w' := by
  have hm := mask63 n hn
  have hb : n % 9223372036854775808 < 9223372036854775808 := Nat.mod_lt _ (by decide)
  generalize n % 9223372036854775808 = b at *
  clear hn
  have HS0 := Lib.hid (fun W h => Sci_bad b 16 W (by omega) h)
  have HS1 := Lib.hid (fun W h1 h2 => Sci_zero b 16 W (by omega) h1 (by decide) h2)
  have HS2 := Lib.hid (fun W h1 h2 => Sci_loop b 16 W (by omega) h1 (by decide) h2)
  go_enter Tryd.func8, Tryd.ntmps8
  go_wp2_with fail
  refine (fixed_any w).mono ?_
  rintro e w1 ⟨rfl, hb1⟩
  have HB1 := Lib.hid hb1
  have hs1 := hb1.size
  clear hb1
  go_wp2_with fail
  by_cases hf : b < 9218868437227405312
  · have hfin := (fin_lt_inf hb).2 hf
    have HN := Lib.hid (fun W => IsNaN_fin W (Nat.le_of_lt hf))
    have HI := Lib.hid (fun W => IsInf_fin W hf)
    by_cases h0 : mant b = 0
    · obtain rfl := mant_zero hf h0
      refine (HS1.out w1 hfin h0).mono ?_
      rintro e w2 ⟨s, rfl, hs, hb2⟩
      have HB2 := Lib.hid (HB1.out.trans (hb2.mono hs1))
      have hs2 := hb2.size
      have hss : s.size = 17 := by
        have hsz : s.size = s.data.toList.length := by simp
        rw [hsz, hs]; rfl
      have hR : Hid (∀ W, Calls Tryd.prog 14 #[.string s, .int .i64 (-16)] W fun e w' => e = .returned (.tuple #[.float .f64 0, .int .i64 0]) ∧ Below W.heap.size W w') := by
        intro W
        have h := Read_ok s (-16) W (by rw [hs]; simp) (by rw [hs]; exact zeros_digits _) (by rw [hs]; decide) (by decide) (by decide)
        rw [hs, readB_nil (bare_all _)] at h
        exact h
      clear hb2 HB1 HS0 HS1 HS2 hs
      go_wp2_with fail
      refine (HN.out w2).mono ?_
      rintro e w3 ⟨rfl, rfl⟩
      go_wp2_with fail
      refine (HI.out w2).mono ?_
      rintro e w3 ⟨rfl, rfl⟩
      go_wp2_with fail
      refine (hR.out w2).mono ?_
      rintro e w3 ⟨rfl, hb3⟩
      have HB3 := Lib.hid (HB2.out.trans (hb3.mono (by omega)))
      clear hb3 HB2
      go_wp2_with fail
      have S1 := same_any 0 0 w3
      rw [beq_self_eq_true] at S1
      refine S1.mono ?_
      rintro e w4 ⟨rfl, rfl⟩
      go_wp2_with fail
      go_ret
      exact ⟨rfl, HB3.out⟩
    · refine (HS2.out w1 hfin (Nat.pos_of_ne_zero h0)).mono ?_
      rintro e w2 ⟨s, x, rfl, hc, hl, hsa, hx1, hx2, hb2⟩
      have HB2 := Lib.hid (HB1.out.trans (hb2.mono hs1))
      have hs2 := hb2.size
      have hss : s.size = 17 := by
        have hsz : s.size = s.data.toList.length := by simp
        omega
      have hR : Hid (∀ W, Calls Tryd.prog 14 #[.string s, .int .i64 (x - 16)] W fun e w' => e = .returned (.tuple #[.float .f64 b, .int .i64 0]) ∧ Below W.heap.size W w') := by
        intro W
        have h := Read_ok s (x - 16) W hc.ne hc.dig (by omega) (by omega) (by omega)
        rw [readB_back hf hsa hx1 hx2 hc hl] at h
        exact h
      clear hb2 HB1 HS0 HS1 HS2 hsa hc hl
      go_wp2_with fail
      refine (HN.out w2).mono ?_
      rintro e w3 ⟨rfl, rfl⟩
      go_wp2_with fail
      refine (HI.out w2).mono ?_
      rintro e w3 ⟨rfl, rfl⟩
      go_wp2_with fail
      refine (hR.out w2).mono ?_
      rintro e w3 ⟨rfl, hb3⟩
      have HB3 := Lib.hid (HB2.out.trans (hb3.mono (by omega)))
      clear hb3 HB2
      go_wp2_with fail
      have S1 := same_any b b w3
      rw [beq_self_eq_true] at S1
      refine S1.mono ?_
      rintro e w4 ⟨rfl, rfl⟩
      go_wp2_with fail
      go_ret
      exact ⟨rfl, HB3.out⟩
  · have hfin : fin b = false := by
      cases h : fin b with
      | false => rfl
      | true => exact absurd ((fin_lt_inf hb).1 h) hf
    refine (HS0.out w1 (.inl hfin)).mono ?_
    rintro e w2 ⟨rfl, rfl⟩
    clear HS0 HS1 HS2 hfin
    go_wp2_with fail
    rcases Nat.eq_or_lt_of_le (Nat.le_of_not_lt hf) with h1 | h1
    · subst h1
      refine (IsNaN_fin w1 (Nat.le_refl _)).mono ?_
      rintro e w3 ⟨rfl, rfl⟩
      go_wp2_with fail
      refine (IsInf_inf w1).mono ?_
      rintro e w3 ⟨rfl, rfl⟩
      go_wp2_with fail
      go_ret
      exact ⟨rfl, HB1.out⟩
    · refine (IsNaN_nan w1 h1 hb).mono ?_
      rintro e w3 ⟨rfl, rfl⟩
      go_wp2_with fail
      go_ret
      exact ⟨rfl, HB1.out⟩
end Go.Proofs.YtkpikkeblogdcaaDoor
