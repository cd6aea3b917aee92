/- Package num: Pow, of valid operations. -/
import Derived.Test.YtcmpdamfeoaapaaGreatDoorK8
import Derived.Laws.FloatArith
namespace Go.Proofs.YtcmpdamfeoaapaaGreatDoor
open Go.RowKit
set_option linter.unusedVariables false

/-- the power by squares; none: an operation is not valid -/
def powO : Nat → Nat → Nat → Nat → Option Nat
  | 0, _, _, _ => none
  | f + 1, k, out, x => if k = 0 then some out else
    (FloatKind.f64.format.mul x x).bind fun z =>
      (if k % 2 = 1 then FloatKind.f64.format.mul out x else some out).bind fun o => powO f (k / 2) o z

/-- the power's last step -/
def powR (y r : Nat) : Option Nat := if FloatKind.f64.format.order y 0 = some .lt then FloatKind.f64.format.div 4607182418800017408 r else some r
/-- a whole power's loop's count -/
def powK (y : Nat) : Option Int := floatToIntVal .f64 (y % 9223372036854775808) .u64
/-- is it a power? -/
def powOk (y : Nat) : Bool := (FloatKind.f64.format.order (y % 9223372036854775808) 4845873199050653696 == some .lt) && (FloatKind.f64.format.order (truncB y) y == some .eq)

set_option maxRecDepth 100000 in
set_option maxHeartbeats 4000000 in
theorem Pow_no (x y : Nat) (w : World) (hy : y < 18446744073709551616) (h : powOk y = false) :
    Calls Tryz.prog 28 #[.float .f64 x, .float .f64 y] w fun e w' => e = .returned (.tuple #[.float .f64 0, .bool false]) ∧ w = w' := by
  have HA := Lib.hid (Abs_any y w hy)
  have HT := Lib.hid (Trunc_any y w hy)
  unfold powOk at h
  generalize truncB y = T at *
  generalize y % 9223372036854775808 = a at *
  clear hy
  rcases hc : (FloatKind.f64.format.order a 4845873199050653696 == some .lt) with _ | _
  · clear h HT
    go_enter Tryz.func28, Tryz.ntmps28
    go_wp2_with fail
    refine HA.out.mono ?_
    rintro e w1 ⟨rfl, rfl⟩
    go_wp2_with fail
    go_ret2
    exact ⟨rfl, rfl⟩
  · rw [hc] at h
    have h2 : (FloatKind.f64.format.order T y == some .eq) = false := by simpa using h
    have h3 : (FloatKind.f64.format.order T y != some .eq) = true := by unfold bne; rw [h2]; rfl
    have hc2 : FloatKind.f64.format.order a 4845873199050653696 = some .lt := by simpa using hc
    clear h hc h2
    go_enter Tryz.func28, Tryz.ntmps28
    go_wp2_with fail
    refine HA.out.mono ?_
    rintro e w1 ⟨rfl, rfl⟩
    go_wp2_with fail
    refine HT.out.mono ?_
    rintro e w1 ⟨rfl, rfl⟩
    go_wp2_with fail
    go_ret2
    exact ⟨rfl, rfl⟩

set_option maxRecDepth 100000 in
set_option maxHeartbeats 4000000 in
theorem Pow_ok (x y k o r : Nat) (w : World) (hy : y < 18446744073709551616) (h : powOk y = true) (hk : powK y = some (k : Int)) (ho : powO 64 k 4607182418800017408 x = some o) (hr : powR y o = some r) :
    Calls Tryz.prog 28 #[.float .f64 x, .float .f64 y] w fun e w' => e = .returned (.tuple #[.float .f64 r, .bool true]) ∧ w = w' := by
  have HA := Lib.hid (Abs_any y w hy)
  have HT := Lib.hid (Trunc_any y w hy)
  unfold powOk at h
  unfold powK at hk
  rw [Bool.and_eq_true] at h
  obtain ⟨h1, h2⟩ := h
  have hc : ∀ w, (convert 23 28 (.float .f64 (y % 9223372036854775808))).run Tryz.prog w = .ok (.int .u64 k) w := fun w => run_convert_float_int w 23 28 .f64 .u64 _ k (by rw [Tryz.underlying23]; rfl) Tryz.underlying28 hk
  have hc1 : FloatKind.f64.format.order (y % 9223372036854775808) 4845873199050653696 = some .lt := by simpa using h1
  have hc2 : FloatKind.f64.format.order (truncB y) y = some .eq := by simpa using h2
  have hkl : k < 18446744073709551616 := by
    have h9 := floatToIntVal_wf hk
    have e1 : IntKind.u64.max = 18446744073709551615 := by decide
    simp only [Lit.wf, e1, Bool.and_eq_true, decide_eq_true_eq] at h9
    omega
  generalize truncB y = T at *
  generalize y % 9223372036854775808 = a at *
  clear hy h1 h2 hk
  have HO := Lib.hid ho
  have HR := Lib.hid hr
  clear ho hr
  go_enter Tryz.func28, Tryz.ntmps28
  go_wp2_with fail
  refine HA.out.mono ?_
  rintro e w1 ⟨rfl, rfl⟩
  go_wp2_with fail
  refine HT.out.mono ?_
  rintro e w1 ⟨rfl, rfl⟩
  clear HA HT
  go_wp2_with fail
  go_loop [7, 8, 0] (fun ov kv xv => ∃ (f k' o' x' : Nat), ov = .float .f64 o' ∧ kv = .int .u64 k' ∧ xv = .float .f64 x' ∧ k' < 18446744073709551616 ∧ powO f k' o' x' = some o) (fun _ kv _ => (intOf kv).toNat)
  case atStart => exact ⟨64, k, _, x, rfl, rfl, rfl, hkl, HO.out⟩
  case round =>
    clear hkl
    obtain ⟨f, k', o', x', rfl, rfl, rfl, h1, h2⟩ := hrel
    cases f with
    | zero => exact absurd h2 (by simp [powO])
    | succ f =>
      rcases Nat.eq_zero_or_pos k' with h0 | h0
      · subst h0
        have h3 : o' = o := by simpa [powO] using h2
        subst h3
        clear h2
        have h9 := HR.out
        unfold powR at h9
        by_cases hlt : FloatKind.f64.format.order y 0 = some .lt
        · rw [if_pos hlt] at h9
          have m1 : ∀ t w, (binOp .quo t (.float .f64 4607182418800017408) (.float .f64 o')).run Tryz.prog w = .ok (.float .f64 r) w := fun t w => run_float_arith w .quo t .f64 _ o' r h9
          clear h9
          go_wp2_with (simp only [m1])
          go_ret2
          exact ⟨rfl, rfl⟩
        · rw [if_neg hlt] at h9
          have hlt2 : (FloatKind.f64.format.order y 0 == some .lt) = false := by simpa using hlt
          have h8 := Lib.hid (Option.some.inj h9)
          clear h9 hlt
          go_wp2_with fail
          go_ret2
          exact ⟨by rw [h8.out]; rfl, rfl⟩
      · have h3 : (FloatKind.f64.format.mul x' x').bind (fun z => (if k' % 2 = 1 then FloatKind.f64.format.mul o' x' else some o').bind fun o2 => powO f (k' / 2) o2 z) = some o := by
          rw [powO, if_neg (by omega)] at h2; exact h2
        rw [Option.bind_eq_some_iff] at h3
        obtain ⟨z, h4, h5⟩ := h3
        rw [Option.bind_eq_some_iff] at h5
        obtain ⟨o2, h6, h7⟩ := h5
        have H7 := Lib.hid h7
        clear h2 h7
        have m1 : ∀ t w, (binOp .mul t (.float .f64 x') (.float .f64 x')).run Tryz.prog w = .ok (.float .f64 z) w := fun t w => run_float_arith w .mul t .f64 x' x' z h4
        have b1 : bits .and .u64 (k' : Int) 1 = ((k' % 2 : Nat) : Int) := by
          have h := u64_and_nat k' 1 h1 (by decide)
          rw [nat_mask1] at h
          exact h
        have b2 : (k' : Int) / 2 = ((k' / 2 : Nat) : Int) := by omega
        obtain ⟨d, hd⟩ : ∃ d, d = k' / 2 := ⟨_, rfl⟩
        have H0 : 0 < (k' : Int) := by omega
        have hdk : d < k' := by omega
        rw [← hd] at b2 H7
        obtain ⟨Ki, hKi⟩ : ∃ Ki : Int, Ki = (k' : Int) := ⟨_, rfl⟩
        rw [← hKi] at b1 b2 H0 ⊢
        have hK2 : Ki < 18446744073709551616 := by omega
        have HK := Lib.hid hKi
        have HD := Lib.hid hdk
        rcases Nat.mod_two_eq_zero_or_one k' with h8 | h8
        · rw [h8] at b1
          rw [if_neg (by omega)] at h6
          have b3 : bits .and .u64 Ki 1 = 0 := by rw [b1]; rfl
          have h9 := Lib.hid (Option.some.inj h6)
          clear h4 h6 h8 h1 hKi hd hdk
          go_wp2_with (simp only [m1])
          go_round
          case rel => exact ⟨f, d, o', z, rfl, rfl, rfl, by have := HD.out; have := HK.out; omega, by rw [h9.out]; exact H7.out⟩
          case measure => have := HD.out; have := HK.out; simp only [intOf]; omega
        · rw [h8] at b1
          rw [if_pos h8] at h6
          have b3 : bits .and .u64 Ki 1 = 1 := by rw [b1]; rfl
          have m2 : ∀ t w, (binOp .mul t (.float .f64 o') (.float .f64 x')).run Tryz.prog w = .ok (.float .f64 o2) w := fun t w => run_float_arith w .mul t .f64 o' x' o2 h6
          clear h4 h6 h8 h1 hKi hd hdk
          go_wp2_with (first | simp only [m2] | simp only [m1])
          go_round
          case rel => exact ⟨f, d, o2, z, rfl, rfl, rfl, by have := HD.out; have := HK.out; omega, H7.out⟩
          case measure => have := HD.out; have := HK.out; simp only [intOf]; omega
end Go.Proofs.YtcmpdamfeoaapaaGreatDoor
