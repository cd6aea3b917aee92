/- Package num: Mod of finite floats. -/
import Derived.Test.YtcmpdamfeoaapaaGreatDoorK8
namespace Go.Proofs.YtcmpdamfeoaapaaGreatDoor
open Go.RowKit
set_option linter.unusedVariables false

theorem ModR_self {x y : Nat} (hf : fin x = true) (h : vl (x % 9223372036854775808) < vl (y % 9223372036854775808)) : ModR x y x := by
  rw [← (mant_mod x).2.2] at hf
  have h2 := (fin_lt_inf (Nat.mod_lt _ (by decide))).1 hf
  exact ⟨x % 9223372036854775808, h2, by omega, by rw [Nat.mod_eq_of_lt h]⟩

set_option maxRecDepth 100000 in
set_option maxHeartbeats 4000000 in
theorem Mod_fin (x y : Nat) (w : World) (hx : x < 18446744073709551616) (hy : y < 18446744073709551616) (fx : fin x = true) (fy : fin y = true) (hn : mant y ≠ 0) :
    Calls Tryz.prog 32 #[.float .f64 x, .float .f64 y] w fun e w' => (∃ r, e = .returned (.float .f64 r) ∧ ModR x y r) ∧ w = w' := by
  have hP := Parts_any x w hx
  have hQ := Parts_any y w hy
  have fy2 := fy
  rw [← (mant_mod y).2.2] at fy2
  have hord : FloatKind.f64.format.order y y = some .eq := order_same hy ((fin_lt_inf (Nat.mod_lt _ (by decide))).1 fy2)
  have hordb : (FloatKind.f64.format.order y y != some .eq) = false := by rw [hord]; rfl
  obtain ⟨vx, px⟩ := vl_parts fx
  obtain ⟨vy, py⟩ := vl_parts fy
  have VX := Lib.hid vx
  have VY := Lib.hid vy
  have am := mant_lt x
  have bm := mant_lt y
  have ebx := expo_bounds (b := x)
  have eby := expo_bounds (b := y)
  have HS := Lib.hid (fun z hz => signed_any z x w hz hx)
  have HF := Lib.hid fx
  rw [fx] at hP
  rw [fy] at hQ
  clear vx vy fx fy fy2
  generalize mant x = a at *
  generalize mant y = b at *
  generalize expo x = p at *
  generalize expo y = q at *
  have HP := Lib.hid hP
  have HQ := Lib.hid hQ
  have hb0 : 0 < b := by omega
  have HX := Lib.hid hx
  have HY := Lib.hid hy
  clear hP hQ hn hx hy
  obtain ⟨A, hA⟩ : ∃ A : Int, A = (a : Int) := ⟨_, rfl⟩
  obtain ⟨Bi, hBi⟩ : ∃ Bi : Int, Bi = (b : Int) := ⟨_, rfl⟩
  have HA := Lib.hid hA
  have HBi := Lib.hid hBi
  rw [← hA] at HP
  rw [← hBi] at HQ
  have hB1 : 0 < Bi := by omega
  have hB2 : Bi < 9007199254740992 := by omega
  have hA1 : 0 ≤ A := by omega
  have hA2 : A < 9007199254740992 := by omega
  clear hA hBi
  have hB3 : (Bi == 0) = false := beq_eq_false_iff_ne.2 (by omega)
  go_enter Tryz.func32, Tryz.ntmps32
  go_wp2_with fail
  refine HP.out.mono ?_
  rintro e w1 ⟨rfl, rfl⟩
  go_wp2_with fail
  refine HQ.out.mono ?_
  rintro e w1 ⟨rfl, rfl⟩
  clear HP HQ
  have HB0 := Lib.hid hb0
  have HAM := Lib.hid am
  have HBM := Lib.hid bm
  clear hb0 am bm
  rcases Int.lt_or_le 0 A with h0 | h0
  · have h0b : (A == 0) = false := beq_eq_false_iff_ne.2 (by omega)
    go_wp2_with fail
    go_loop [8, 9] (fun bv qv => ∃ (b' : Nat) (q' : Int), bv = .int .u64 b' ∧ qv = .int .i64 q' ∧ 0 < b' ∧ b' < 18014398509481984 ∧ -1074 ≤ q' ∧ q' ≤ q ∧ (b' < 9007199254740992 ∨ p ≤ q') ∧ b' * 2 ^ (q' + 1074).toNat = b * 2 ^ (q + 1074).toNat) (fun _ qv => (intOf qv + 1074).toNat)
    case atStart => exact ⟨b, q, by rw [HBi.out], rfl, HB0.out, by have := HBM.out; omega, py, Int.le_refl _, .inl HBM.out, rfl⟩
    case round =>
      obtain ⟨b', q', rfl, rfl, h1, h2, h3, h4, h5, h6⟩ := hrel
      have H6 := Lib.hid h6
      have H1 := Lib.hid h1
      have H5 := Lib.hid h5
      clear h6
      obtain ⟨C, hC⟩ : ∃ C : Int, C = (b' : Int) := ⟨_, rfl⟩
      rw [← hC]
      have HC := Lib.hid hC
      have hC1 : 0 < C := by omega
      have hC2 : C < 18014398509481984 := by omega
      rcases Int.lt_or_le p q' with hq | hq
      · clear h1 h2 h5 hC
        rcases Int.lt_or_le A C with hg | hg
        · go_wp2_with fail
          go_ret
          refine ⟨⟨x, rfl, ModR_self HF.out ?_⟩, rfl⟩
          rw [← VX.out, ← VY.out, ← H6.out]
          have e1 := HA.out
          have e2 := HC.out
          have h7 : a < b' := by omega
          calc a * 2 ^ (p + 1074).toNat ≤ a * 2 ^ (q' + 1074).toNat := Nat.mul_le_mul_left _ (Nat.pow_le_pow_right (by decide) (by omega))
            _ < b' * 2 ^ (q' + 1074).toNat := Nat.mul_lt_mul_of_pos_right h7 (pow2_pos _)
        · have ek : IntKind.wrap .u64 (C * 2) = ((2 * b' : Nat) : Int) := by rw [IntKind.wrap_u64, HC.out]; have := HC.out; omega
          go_wp2_with fail
          go_round
          case rel =>
            refine ⟨2 * b', q' - 1, rfl, rfl, by have := H1.out; omega, by have := HC.out; omega, by omega, by omega, .inr (by omega), ?_⟩
            · rw [← H6.out, show (q' + 1074).toNat = (q' - 1 + 1074).toNat + 1 by omega, Nat.pow_succ 2]
              ac_rfl
          case measure => simp only [intOf]; omega
      · obtain ⟨a1, ha1⟩ : ∃ a1, a1 = a % b' := ⟨_, rfl⟩
        have eA : A % C = (a1 : Int) := by rw [HA.out, HC.out, ha1]; rfl
        have ha1l : a1 < b' := by rw [ha1]; exact Nat.mod_lt _ h1
        have ha1m : a1 ≤ a := by rw [ha1]; exact Nat.mod_le _ _
        have hrel1 : a1 % b' = a % b' := by rw [ha1, Nat.mod_mod]
        have HL := Lib.hid ha1l
        have HM := Lib.hid ha1m
        have HA1 := Lib.hid ha1
        obtain ⟨A1, hA1⟩ : ∃ A1 : Int, A1 = (a1 : Int) := ⟨_, rfl⟩
        have HAA := Lib.hid hA1
        rw [← hA1] at eA
        clear h1 h2 h5 hC hrel1 ha1l ha1m ha1 hA1
        go_wp2_with fail
        go_loop [5, 6] (fun av pv => ∃ (a' : Nat) (p' : Int), av = .int .u64 a' ∧ pv = .int .i64 p' ∧ a' < b' ∧ a' ≤ 9007199254740991 ∧ q' ≤ p' ∧ p' ≤ p ∧ (b' < 9007199254740992 ∨ p' ≤ q') ∧ (a' * 2 ^ (p' - q').toNat) % b' = (a * 2 ^ (p - q').toNat) % b') (fun _ pv => (intOf pv - q').toNat)
        case atStart =>
          have e1 := HM.out; have e2 := HAM.out; have e3 := H5.out
          refine ⟨a1, p, by rw [HAA.out], rfl, HL.out, by omega, hq, Int.le_refl _, ?_, ?_⟩
          · rcases e3 with e3 | e3
            · exact .inl e3
            · exact .inr e3
          · rw [HA1.out, Nat.mod_mul_mod]
        case round =>
          obtain ⟨a2, p2, rfl, rfl, g1, g2, g3, g4, g5, g6⟩ := hrel
          have G1 := Lib.hid g1
          have G6 := Lib.hid g6
          have G5 := Lib.hid g5
          obtain ⟨A2, hA2⟩ : ∃ A2 : Int, A2 = (a2 : Int) := ⟨_, rfl⟩
          have HA2 := Lib.hid hA2
          have k1 : 0 ≤ A2 := by omega
          have k2 : A2 ≤ 9007199254740991 := by omega
          rw [← hA2]
          rcases Int.lt_or_le q' p2 with hp | hp
          · obtain ⟨a3, ha3⟩ : ∃ a3, a3 = 2 * a2 % b' := ⟨_, rfl⟩
            have g5' : b' < 9007199254740992 := by omega
            have eR : A2 * 2 % C = (a3 : Int) := by rw [HA2.out, HC.out, ha3, Int.natCast_emod, Int.natCast_mul, Int.mul_comm]; rfl
            have hl3 : a3 < b' := by rw [ha3]; exact Nat.mod_lt _ (by omega)
            have HA3 := Lib.hid ha3
            have HL3 := Lib.hid hl3
            have HG5 := Lib.hid g5'
            have HR := Lib.hid eR
            clear g1 g5 g6 hA2 ha3 hl3 g5' eR
            go_wp2_with fail
            go_round
            case rel =>
              refine ⟨a3, p2 - 1, by rw [HR.out], rfl, HL3.out, ?_, by omega, by omega, .inl HG5.out, ?_⟩
              · have e1 := HL3.out; have e2 := HG5.out; omega
              · rw [HA3.out, Nat.mod_mul_mod, ← G6.out, show (p2 - q').toNat = (p2 - 1 - q').toNat + 1 by omega, Nat.pow_succ 2]
                congr 1
                ac_rfl
            case measure => simp only [intOf]; omega
          · have hpe : p2 = q' := by omega
            have g6' : a2 = a * 2 ^ (p - q').toNat % b' := by rw [← g6, hpe, Int.sub_self]; simp [Nat.mod_eq_of_lt g1]
            have HBd := Lib.hid (build_any a2 q' w (by omega) (by omega) (by omega))
            rw [← hA2] at HBd
            have HG := Lib.hid g6'
            clear g1 g5 g6 hA2 g6'
            go_wp2_with fail
            refine HBd.out.mono ?_
            rintro e w1 ⟨⟨B, rfl, hB, hv⟩, rfl⟩
            have HB := Lib.hid hB
            have HV := Lib.hid hv
            have HSB := Lib.hid (HS.out B (by omega))
            clear hB hv
            go_wp2_with fail
            refine HSB.out.mono ?_
            rintro e w1 ⟨rfl, rfl⟩
            go_wp2_with fail
            go_ret
            refine ⟨⟨_, rfl, B, HB.out, rfl, ?_⟩, rfl⟩
            rw [HV.out, HG.out, ← VX.out, ← VY.out, ← H6.out, ← Nat.mul_mod_mul_right, Nat.mul_assoc, ← Nat.pow_add]
            congr 4
            omega
  · have h0b : A = 0 := by omega
    subst h0b
    go_wp2_with fail
    go_ret
    refine ⟨⟨x, rfl, ModR_self HF.out ?_⟩, rfl⟩
    have h1 := HA.out
    have h2 : a = 0 := by omega
    rw [← VX.out, ← VY.out, h2, Nat.zero_mul]
    exact Nat.mul_pos HB0.out (pow2_pos _)
end Go.Proofs.YtcmpdamfeoaapaaGreatDoor
