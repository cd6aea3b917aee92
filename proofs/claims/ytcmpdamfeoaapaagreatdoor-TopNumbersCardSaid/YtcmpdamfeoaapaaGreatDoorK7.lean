/- Package num: build. -/
import Derived.Test.YtcmpdamfeoaapaaGreatDoorM6
namespace Go.Proofs.YtcmpdamfeoaapaaGreatDoor
open Go.RowKit
set_option linter.unusedVariables false

/-- the bits of m steps of the place j -/
theorem vl_bits {m j : Nat} (hm : m < 9007199254740992) (hj : j ≤ 2045) (hn : 4503599627370496 ≤ m ∨ j = 0) : j * 4503599627370496 + m < 9218868437227405312 ∧ vl (j * 4503599627370496 + m) = m * 2 ^ j := by
  have e7 : (2 : Nat) ^ 52 = 4503599627370496 := by decide
  refine ⟨by omega, ?_⟩
  unfold vl
  rcases Nat.lt_or_ge m 4503599627370496 with h | h
  · have h0 : j = 0 := by omega
    subst h0
    have e1 : jof (0 * 4503599627370496 + m) = 0 := by unfold jof; rw [e7, Nat.zero_mul, Nat.zero_add, Nat.div_eq_of_lt h]
    have e2 : mof (0 * 4503599627370496 + m) = m := by unfold mof; rw [e7, Nat.zero_mul, Nat.zero_add, if_pos (Nat.div_eq_of_lt h)]
    rw [e1, e2]
  · have hd : (j * 4503599627370496 + m) / 4503599627370496 = j + 1 := by omega
    have e1 : jof (j * 4503599627370496 + m) = j := by unfold jof; rw [e7, hd]; omega
    have e2 : mof (j * 4503599627370496 + m) = m := by unfold mof; rw [e7, hd, if_neg (by omega)]; omega
    rw [e1, e2]

set_option maxRecDepth 100000 in
set_option maxHeartbeats 4000000 in
theorem build_any (m : Nat) (e : Int) (w : World) (hm : m < 9007199254740992) (he1 : -1074 ≤ e) (he2 : e ≤ 971) :
    Calls Tryz.prog 72 #[.int .u64 m, .int .i64 e] w fun r w' => (∃ B, r = .returned (.float .f64 B) ∧ B < 9218868437227405312 ∧ vl B = m * 2 ^ (e + 1074).toNat) ∧ w = w' := by
  go_enter Tryz.func72, Tryz.ntmps72
  go_wp2_with fail
  go_loop [0, 1] (fun mv ev => ∃ (m' : Nat) (e' : Int), mv = .int .u64 m' ∧ ev = .int .i64 e' ∧ m' < 9007199254740992 ∧ -1074 ≤ e' ∧ e' ≤ e ∧ m' * 2 ^ (e' + 1074).toNat = m * 2 ^ (e + 1074).toNat) (fun _ ev => (intOf ev + 1074).toNat)
  case atStart => exact ⟨m, e, rfl, rfl, hm, he1, Int.le_refl _, rfl⟩
  case round =>
    obtain ⟨m', e', rfl, rfl, h1, h2, h3, h4⟩ := hrel
    have H4 := Lib.hid h4
    clear h4
    by_cases hc : 0 < m' ∧ m' < 4503599627370496 ∧ -1074 < e'
    · obtain ⟨c1, c2, c3⟩ := hc
      have c1' : 0 < (m' : Int) := by omega
      have c2' : (m' : Int) < 4503599627370496 := by omega
      obtain ⟨k, hk⟩ : ∃ k, k = m' * 2 := ⟨_, rfl⟩
      have ek : IntKind.wrap .u64 ((m' : Int) * 2) = (k : Int) := by rw [IntKind.wrap_u64]; omega
      have hk2 : k < 9007199254740992 := by omega
      have H5 : Hid (k * 2 ^ (e' - 1 + 1074).toNat = m * 2 ^ (e + 1074).toNat) := by
        show _ = _
        rw [← H4.out, hk, show (e' + 1074).toNat = (e' - 1 + 1074).toNat + 1 by omega, Nat.pow_succ 2]
        ac_rfl
      clear hk
      go_wp2_with fail
      go_round
      case rel => exact ⟨k, e' - 1, rfl, rfl, hk2, by omega, by omega, H5.out⟩
      case measure => simp only [intOf]; omega
    · rcases Nat.eq_zero_or_pos m' with c1 | c1
      · subst c1
        go_wp2_with fail
        go_ret
        refine ⟨⟨0, rfl, by decide, ?_⟩, rfl⟩
        rw [← H4.out, Nat.zero_mul]; rfl
      · obtain ⟨j, hj⟩ : ∃ j : Nat, j = (e' + 1074).toNat := ⟨_, rfl⟩
        have hj1 : e' + 1074 = (j : Int) := by omega
        have hjl : j ≤ 2045 := by omega
        have hor : 4503599627370496 ≤ m' ∨ j = 0 := by omega
        obtain ⟨b1, b2⟩ := vl_bits h1 hjl hor
        rw [← hj] at H4
        have HV : Hid (vl (j * 4503599627370496 + m') = m * 2 ^ (e + 1074).toNat) := by show _ = _; rw [b2, H4.out]
        obtain ⟨B, hB⟩ : ∃ B, B = j * 4503599627370496 + m' := ⟨_, rfl⟩
        rw [← hB] at b1 HV
        have c1' : 0 < (m' : Int) := by omega
        have em0 : (m' : Int) ≠ 0 := by omega
        obtain ⟨S, hS⟩ : ∃ S, S = j * 4503599627370496 := ⟨_, rfl⟩
        have eS : (j : Int) * 4503599627370496 = (S : Int) := by omega
        have hSl : S < 18446744073709551616 := by omega
        have eB : (S : Int) + (m' : Int) = (B : Int) := by omega
        have hBl : B < 18446744073709551616 := by omega
        have HB1 := Lib.hid b1
        obtain ⟨M, hM⟩ : ∃ M : Int, M = (m' : Int) := ⟨_, rfl⟩
        rw [← hM] at eB ⊢
        have hM1 : 0 < M := by omega
        have hM2 : M < 9007199254740992 := by omega
        have hsplit : 4503599627370496 ≤ M ∨ M < 4503599627370496 ∧ e' = -1074 := by omega
        clear b2 hor H4 hj hc hS hB b1 c1 c1' em0 hM h1
        rcases hsplit with h52 | ⟨h52, hee⟩
        · go_wp2_with fail
          go_ret
          exact ⟨⟨B, rfl, HB1.out, HV.out⟩, rfl⟩
        · subst hee
          go_wp2_with fail
          go_ret
          exact ⟨⟨B, rfl, HB1.out, HV.out⟩, rfl⟩
end Go.Proofs.YtcmpdamfeoaapaaGreatDoor
