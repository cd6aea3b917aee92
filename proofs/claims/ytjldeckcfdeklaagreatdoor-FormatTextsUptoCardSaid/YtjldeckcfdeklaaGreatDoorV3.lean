/- The document's answer of package ustr: size and Next. -/
import Derived.Test.YtjldeckcfdeklaaGreatDoorV1
namespace Go.Proofs.YtjldeckcfdeklaaGreatDoor
open Go.RowKit
set_option linter.unusedVariables false

theorem endR_lo {n l r : Nat} (h : r < l) : endR n l r = (0, 0) := by unfold endR; rw [if_pos h]
theorem endR_hi {n l r : Nat} (h : ¬ r < l) (h2 : 1114111 < r) : endR n l r = (0, 0) := by unfold endR; rw [if_neg h, if_pos h2]
theorem endR_sur {n l r : Nat} (h : ¬ r < l) (h2 : ¬ 1114111 < r) (h3 : 55296 ≤ r) (h4 : r ≤ 57343) : endR n l r = (0, 0) := by unfold endR; rw [if_neg h, if_neg h2, if_pos ⟨h3, h4⟩]
theorem endR_ok {n l r : Nat} (h : ¬ r < l) (h2 : ¬ 1114111 < r) (h3 : ¬ (55296 ≤ r ∧ r ≤ 57343)) : endR n l r = (n, r) := by unfold endR; rw [if_neg h, if_neg h2, if_neg h3]
set_option maxHeartbeats 8000000 in
set_option maxRecDepth 1000000 in
theorem size_ascii (s : ByteArray) (w : World) (b0 b1 b2 b3 : Nat) (hz : 0 < s.size) (hs : s.size ≤ 140737488351232) (hb0 : s[0].toNat = b0) (h : b0 < 128) :
    Calls Tryz.prog 128 #[.string s] w fun e w' => e = .returned (.tuple #[.int .i64 ((sizeN s.size b0 b1 b2 b3).1 : Nat), .int .i64 ((sizeN s.size b0 b1 b2 b3).2 : Nat)]) ∧ w = w' := by
  have hzI : (0 : Int) < (s.size : Int) := by omega
  have hsI : (s.size : Int) ≤ 140737488351232 := by omega
  obtain ⟨N, hN⟩ : ∃ N, N = sizeN s.size b0 b1 b2 b3 := ⟨_, rfl⟩
  rw [← hN]
  unfold sizeN at hN
  rw [if_pos h] at hN
  subst hN
  have hI : (b0 : Int) < 128 := by omega
  clear h
  go_enter Tryz.func128, Tryz.ntmps128
  go_wp2_with fail
  go_ret2
  exact ⟨rfl, rfl⟩

set_option maxHeartbeats 8000000 in
set_option maxRecDepth 1000000 in
theorem size_none (s : ByteArray) (w : World) (b0 b1 b2 b3 : Nat) (hz : 0 < s.size) (hs : s.size ≤ 140737488351232) (hb0 : s[0].toNat = b0) (h0 : ¬ b0 < 128) (h1 : ¬ (194 ≤ b0 ∧ b0 ≤ 223)) (h2 : ¬ (224 ≤ b0 ∧ b0 ≤ 239)) (h3 : ¬ (240 ≤ b0 ∧ b0 ≤ 244)) (hlt : b0 < 256) :
    Calls Tryz.prog 128 #[.string s] w fun e w' => e = .returned (.tuple #[.int .i64 ((sizeN s.size b0 b1 b2 b3).1 : Nat), .int .i64 ((sizeN s.size b0 b1 b2 b3).2 : Nat)]) ∧ w = w' := by
  have hzI : (0 : Int) < (s.size : Int) := by omega
  have hsI : (s.size : Int) ≤ 140737488351232 := by omega
  obtain ⟨N, hN⟩ : ∃ N, N = sizeN s.size b0 b1 b2 b3 := ⟨_, rfl⟩
  rw [← hN]
  unfold sizeN at hN
  rw [if_neg h0, if_neg h1, if_neg h2, if_neg h3] at hN
  subst hN
  have hI : (128 : Int) ≤ (b0 : Int) := by omega
  clear h0
  by_cases c : b0 < 194
  · have hI2 : (b0 : Int) < 194 := by omega
    have hI3 : (b0 : Int) < 224 := by omega
    have hI4 : (b0 : Int) < 240 := by omega
    clear h1 h2 h3 c
    go_enter Tryz.func128, Tryz.ntmps128
    go_wp2_with fail
    go_ret2
    exact ⟨rfl, rfl⟩
  · have hI2 : (194 : Int) ≤ (b0 : Int) := by omega
    have hI3 : (223 : Int) < (b0 : Int) := by omega
    have hI4 : (224 : Int) ≤ (b0 : Int) := by omega
    have hI5 : (239 : Int) < (b0 : Int) := by omega
    have hI6 : (240 : Int) ≤ (b0 : Int) := by omega
    have hI7 : (244 : Int) < (b0 : Int) := by omega
    clear h1 h2 h3 c
    go_enter Tryz.func128, Tryz.ntmps128
    go_wp2_with fail
    go_ret2
    exact ⟨rfl, rfl⟩

set_option maxHeartbeats 8000000 in
set_option maxRecDepth 1000000 in
theorem size_n2 (s : ByteArray) (w : World) (b0 b1 b2 b3 : Nat) (hz : 0 < s.size) (hs : s.size ≤ 140737488351232) (hb0 : s[0].toNat = b0) (hlt : b0 < 256) (hb : 194 ≤ b0 ∧ b0 ≤ 223) (g1 : b1 < 256) (e1 : ∀ h : 1 < s.size, s[1].toNat = b1) :
    Calls Tryz.prog 128 #[.string s] w fun e w' => e = .returned (.tuple #[.int .i64 ((sizeN s.size b0 b1 b2 b3).1 : Nat), .int .i64 ((sizeN s.size b0 b1 b2 b3).2 : Nat)]) ∧ w = w' := by
  have hzI : (0 : Int) < (s.size : Int) := by omega
  have hsI : (s.size : Int) ≤ 140737488351232 := by omega
  obtain ⟨N, hN⟩ : ∃ N, N = sizeN s.size b0 b1 b2 b3 := ⟨_, rfl⟩
  rw [← hN]
  unfold sizeN at hN
  rw [if_neg (by omega), if_pos hb] at hN
  have hI0 : (128 : Int) ≤ (b0 : Int) := by omega
  have hI1 : (194 : Int) ≤ (b0 : Int) := by omega
  have hI2 : (b0 : Int) ≤ 223 := by omega
  obtain ⟨r0, hr0⟩ : ∃ r0, r0 = b0 % 32 := ⟨_, rfl⟩
  rw [← hr0] at hN
  have hm : (b0 : Int).tmod 32 = (r0 : Int) := by rw [Int.tmod_eq_emod_of_nonneg (by omega)]; omega
  have hr0b : r0 < 32 := by omega
  have HN := Lib.hid hN
  clear hN hr0 hb
  by_cases hn : s.size < 2
  · have hnI : (s.size : Int) < 2 := by omega
    obtain rfl : N = (0, 0) := by rw [HN.out, if_pos hn]
    clear HN hn
    go_enter Tryz.func128, Tryz.ntmps128
    go_wp2_with fail
    go_ret2
    exact ⟨rfl, rfl⟩
  have hnI : (2 : Int) ≤ (s.size : Int) := by omega
  have hq1 : 1 < s.size := by omega
  have E1 := Lib.hid (e1 hq1)
  have hk1 : (1 : Int) < (s.size : Int) := by omega
  by_cases p1 : b1 < 128
  · have fp1 : (b1 : Int) < 128 := by omega
    obtain rfl : N = (0, 0) := by rw [HN.out, if_neg hn, if_pos (by omega)]
    clear HN
    clear e1
    go_enter Tryz.func128, Tryz.ntmps128
    go_wp2_with fail
    refine wp_loop_rounds 1 ?_
    have e1 := E1.out
    rw [rounds_succ]
    go_wp2_with fail
    go_ret2
    exact ⟨rfl, rfl⟩
  by_cases q1 : 191 < b1
  · have fq1 : (191 : Int) < (b1 : Int) := by omega
    have fl1 : (128 : Int) ≤ (b1 : Int) := by omega
    obtain rfl : N = (0, 0) := by rw [HN.out, if_neg hn, if_pos (by omega)]
    clear HN
    clear e1
    go_enter Tryz.func128, Tryz.ntmps128
    go_wp2_with fail
    refine wp_loop_rounds 1 ?_
    have e1 := E1.out
    rw [rounds_succ]
    go_wp2_with fail
    go_ret2
    exact ⟨rfl, rfl⟩
  have FL1 := Lib.hid (show (128 : Int) ≤ (b1 : Int) from by omega)
  have FH1 := Lib.hid (show (b1 : Int) ≤ 191 from by omega)
  obtain ⟨r1, hr1⟩ : ∃ r1, r1 = 64 * r0 + b1 - 128 := ⟨_, rfl⟩
  have HU1 := Lib.hid (show 64 * (r0 : Int) + (b1 : Int) - 128 = (r1 : Int) from by omega)
  have hv1 : (r1 : Int) ≤ 2047 := by omega
  have HV1 := Lib.hid hv1
  have HE : Hid (N = endR 2 128 r1) := by
    show _ = _
    rw [HN.out, if_neg hn, if_neg (by omega)]
    rw [← hr1]
  clear HN hr1 p1 q1
  by_cases ca : r1 < 128
  · obtain rfl : N = (0, 0) := by rw [HE.out]; exact endR_lo ca
    have Y0 := Lib.hid (show decide ((r1 : Int) < 128) = true from by simp; omega)
    clear HE ca
    clear e1 hv1
    go_enter Tryz.func128, Tryz.ntmps128
    go_wp2_with fail
    refine wp_loop_rounds 2 ?_
    have e1 := E1.out
    have hu1 := HU1.out
    have fl1 := FL1.out
    have fh1 := FH1.out
    rw [rounds_succ]
    go_wp2_with fail
    have hv1 := HV1.out
    have y0 := Y0.out
    rw [rounds_succ]
    go_wp2_with fail
    go_ret2
    exact ⟨rfl, rfl⟩
  have cb : ¬ (1114111 < r1) := by omega
  have cc : ¬ (55296 ≤ r1 ∧ r1 ≤ 57343) := by omega
  obtain rfl : N = (2, r1) := by rw [HE.out]; exact endR_ok ca cb cc
  have Y0 := Lib.hid (show decide ((r1 : Int) < 128) = false from by simp; omega)
  have Y1 := Lib.hid (show decide ((1114111 : Int) < (r1 : Int)) = false from by simp; omega)
  clear HE
  · have Y2 := Lib.hid (show decide ((55296 : Int) ≤ (r1 : Int)) = false from by simp; omega)
    clear ca cb cc
    clear e1 hv1
    go_enter Tryz.func128, Tryz.ntmps128
    go_wp2_with fail
    refine wp_loop_rounds 2 ?_
    have e1 := E1.out
    have hu1 := HU1.out
    have fl1 := FL1.out
    have fh1 := FH1.out
    rw [rounds_succ]
    go_wp2_with fail
    have hv1 := HV1.out
    have y0 := Y0.out
    have y1 := Y1.out
    have y2 := Y2.out
    rw [rounds_succ]
    go_wp2_with fail
    go_ret2
    exact ⟨rfl, rfl⟩

set_option maxHeartbeats 8000000 in
set_option maxRecDepth 1000000 in
theorem size_n3 (s : ByteArray) (w : World) (b0 b1 b2 b3 : Nat) (hz : 0 < s.size) (hs : s.size ≤ 140737488351232) (hb0 : s[0].toNat = b0) (hlt : b0 < 256) (hb : 224 ≤ b0 ∧ b0 ≤ 239) (g1 : b1 < 256) (e1 : ∀ h : 1 < s.size, s[1].toNat = b1) (g2 : b2 < 256) (e2 : ∀ h : 2 < s.size, s[2].toNat = b2) :
    Calls Tryz.prog 128 #[.string s] w fun e w' => e = .returned (.tuple #[.int .i64 ((sizeN s.size b0 b1 b2 b3).1 : Nat), .int .i64 ((sizeN s.size b0 b1 b2 b3).2 : Nat)]) ∧ w = w' := by
  have hzI : (0 : Int) < (s.size : Int) := by omega
  have hsI : (s.size : Int) ≤ 140737488351232 := by omega
  obtain ⟨N, hN⟩ : ∃ N, N = sizeN s.size b0 b1 b2 b3 := ⟨_, rfl⟩
  rw [← hN]
  unfold sizeN at hN
  rw [if_neg (by omega), if_neg (by omega), if_pos hb] at hN
  have hI0 : (128 : Int) ≤ (b0 : Int) := by omega
  have hJ0 : (194 : Int) ≤ (b0 : Int) := by omega
  have hK0 : (223 : Int) < (b0 : Int) := by omega
  have hI1 : (224 : Int) ≤ (b0 : Int) := by omega
  have hI2 : (b0 : Int) ≤ 239 := by omega
  obtain ⟨r0, hr0⟩ : ∃ r0, r0 = b0 % 16 := ⟨_, rfl⟩
  rw [← hr0] at hN
  have hm : (b0 : Int).tmod 16 = (r0 : Int) := by rw [Int.tmod_eq_emod_of_nonneg (by omega)]; omega
  have hr0b : r0 < 16 := by omega
  have HN := Lib.hid hN
  clear hN hr0 hb
  by_cases hn : s.size < 3
  · have hnI : (s.size : Int) < 3 := by omega
    obtain rfl : N = (0, 0) := by rw [HN.out, if_pos hn]
    clear HN hn
    go_enter Tryz.func128, Tryz.ntmps128
    go_wp2_with fail
    go_ret2
    exact ⟨rfl, rfl⟩
  have hnI : (3 : Int) ≤ (s.size : Int) := by omega
  have hq1 : 1 < s.size := by omega
  have E1 := Lib.hid (e1 hq1)
  have hk1 : (1 : Int) < (s.size : Int) := by omega
  have hq2 : 2 < s.size := by omega
  have E2 := Lib.hid (e2 hq2)
  have hk2 : (2 : Int) < (s.size : Int) := by omega
  by_cases p1 : b1 < 128
  · have fp1 : (b1 : Int) < 128 := by omega
    obtain rfl : N = (0, 0) := by rw [HN.out, if_neg hn, if_pos (by omega)]
    clear HN
    clear e1 e2
    go_enter Tryz.func128, Tryz.ntmps128
    go_wp2_with fail
    refine wp_loop_rounds 1 ?_
    have e1 := E1.out
    rw [rounds_succ]
    go_wp2_with fail
    go_ret2
    exact ⟨rfl, rfl⟩
  by_cases q1 : 191 < b1
  · have fq1 : (191 : Int) < (b1 : Int) := by omega
    have fl1 : (128 : Int) ≤ (b1 : Int) := by omega
    obtain rfl : N = (0, 0) := by rw [HN.out, if_neg hn, if_pos (by omega)]
    clear HN
    clear e1 e2
    go_enter Tryz.func128, Tryz.ntmps128
    go_wp2_with fail
    refine wp_loop_rounds 1 ?_
    have e1 := E1.out
    rw [rounds_succ]
    go_wp2_with fail
    go_ret2
    exact ⟨rfl, rfl⟩
  have FL1 := Lib.hid (show (128 : Int) ≤ (b1 : Int) from by omega)
  have FH1 := Lib.hid (show (b1 : Int) ≤ 191 from by omega)
  obtain ⟨r1, hr1⟩ : ∃ r1, r1 = 64 * r0 + b1 - 128 := ⟨_, rfl⟩
  have HU1 := Lib.hid (show 64 * (r0 : Int) + (b1 : Int) - 128 = (r1 : Int) from by omega)
  have hv1 : (r1 : Int) ≤ 1023 := by omega
  have HV1 := Lib.hid hv1
  by_cases p2 : b2 < 128
  · have fp2 : (b2 : Int) < 128 := by omega
    obtain rfl : N = (0, 0) := by rw [HN.out, if_neg hn, if_neg (by omega), if_pos (by omega)]
    clear HN
    clear e1 e2 hv1
    go_enter Tryz.func128, Tryz.ntmps128
    go_wp2_with fail
    refine wp_loop_rounds 2 ?_
    have e1 := E1.out
    have hu1 := HU1.out
    have fl1 := FL1.out
    have fh1 := FH1.out
    rw [rounds_succ]
    go_wp2_with fail
    have e2 := E2.out
    have hv1 := HV1.out
    rw [rounds_succ]
    go_wp2_with fail
    go_ret2
    exact ⟨rfl, rfl⟩
  by_cases q2 : 191 < b2
  · have fq2 : (191 : Int) < (b2 : Int) := by omega
    have fl2 : (128 : Int) ≤ (b2 : Int) := by omega
    obtain rfl : N = (0, 0) := by rw [HN.out, if_neg hn, if_neg (by omega), if_pos (by omega)]
    clear HN
    clear e1 e2 hv1
    go_enter Tryz.func128, Tryz.ntmps128
    go_wp2_with fail
    refine wp_loop_rounds 2 ?_
    have e1 := E1.out
    have hu1 := HU1.out
    have fl1 := FL1.out
    have fh1 := FH1.out
    rw [rounds_succ]
    go_wp2_with fail
    have e2 := E2.out
    have hv1 := HV1.out
    rw [rounds_succ]
    go_wp2_with fail
    go_ret2
    exact ⟨rfl, rfl⟩
  have FL2 := Lib.hid (show (128 : Int) ≤ (b2 : Int) from by omega)
  have FH2 := Lib.hid (show (b2 : Int) ≤ 191 from by omega)
  obtain ⟨r2, hr2⟩ : ∃ r2, r2 = 64 * r1 + b2 - 128 := ⟨_, rfl⟩
  have HU2 := Lib.hid (show 64 * (r1 : Int) + (b2 : Int) - 128 = (r2 : Int) from by omega)
  have hv2 : (r2 : Int) ≤ 65535 := by omega
  have HV2 := Lib.hid hv2
  have HE : Hid (N = endR 3 2048 r2) := by
    show _ = _
    rw [HN.out, if_neg hn, if_neg (by omega), if_neg (by omega)]
    rw [← hr1, ← hr2]
  clear HN hr1 p1 q1 hr2 p2 q2
  by_cases ca : r2 < 2048
  · obtain rfl : N = (0, 0) := by rw [HE.out]; exact endR_lo ca
    have Y0 := Lib.hid (show decide ((r2 : Int) < 2048) = true from by simp; omega)
    clear HE ca
    clear e1 e2 hv1 hv2
    go_enter Tryz.func128, Tryz.ntmps128
    go_wp2_with fail
    refine wp_loop_rounds 3 ?_
    have e1 := E1.out
    have hu1 := HU1.out
    have fl1 := FL1.out
    have fh1 := FH1.out
    rw [rounds_succ]
    go_wp2_with fail
    have e2 := E2.out
    have hu2 := HU2.out
    have fl2 := FL2.out
    have fh2 := FH2.out
    have hv1 := HV1.out
    rw [rounds_succ]
    go_wp2_with fail
    have hv2 := HV2.out
    have y0 := Y0.out
    rw [rounds_succ]
    go_wp2_with fail
    go_ret2
    exact ⟨rfl, rfl⟩
  have cb : ¬ (1114111 < r2) := by omega
  by_cases cc : 55296 ≤ r2 ∧ r2 ≤ 57343
  · obtain rfl : N = (0, 0) := by rw [HE.out]; exact endR_sur ca cb cc.1 cc.2
    have Y0 := Lib.hid (show decide ((r2 : Int) < 2048) = false from by simp; omega)
    have Y1 := Lib.hid (show decide ((1114111 : Int) < (r2 : Int)) = false from by simp; omega)
    have Y2 := Lib.hid (show decide ((55296 : Int) ≤ (r2 : Int)) = true from by simp; omega)
    have Y3 := Lib.hid (show decide ((r2 : Int) ≤ 57343) = true from by simp; omega)
    clear HE ca cb cc
    clear e1 e2 hv1 hv2
    go_enter Tryz.func128, Tryz.ntmps128
    go_wp2_with fail
    refine wp_loop_rounds 3 ?_
    have e1 := E1.out
    have hu1 := HU1.out
    have fl1 := FL1.out
    have fh1 := FH1.out
    rw [rounds_succ]
    go_wp2_with fail
    have e2 := E2.out
    have hu2 := HU2.out
    have fl2 := FL2.out
    have fh2 := FH2.out
    have hv1 := HV1.out
    rw [rounds_succ]
    go_wp2_with fail
    have hv2 := HV2.out
    have y0 := Y0.out
    have y1 := Y1.out
    have y2 := Y2.out
    have y3 := Y3.out
    rw [rounds_succ]
    go_wp2_with fail
    go_ret2
    exact ⟨rfl, rfl⟩
  obtain rfl : N = (3, r2) := by rw [HE.out]; exact endR_ok ca cb cc
  have Y0 := Lib.hid (show decide ((r2 : Int) < 2048) = false from by simp; omega)
  have Y1 := Lib.hid (show decide ((1114111 : Int) < (r2 : Int)) = false from by simp; omega)
  clear HE
  rcases Nat.lt_or_ge r2 55296 with y2 | y2
  · have Y2 := Lib.hid (show decide ((55296 : Int) ≤ (r2 : Int)) = false from by simp; omega)
    clear ca cb cc y2
    clear e1 e2 hv1 hv2
    go_enter Tryz.func128, Tryz.ntmps128
    go_wp2_with fail
    refine wp_loop_rounds 3 ?_
    have e1 := E1.out
    have hu1 := HU1.out
    have fl1 := FL1.out
    have fh1 := FH1.out
    rw [rounds_succ]
    go_wp2_with fail
    have e2 := E2.out
    have hu2 := HU2.out
    have fl2 := FL2.out
    have fh2 := FH2.out
    have hv1 := HV1.out
    rw [rounds_succ]
    go_wp2_with fail
    have hv2 := HV2.out
    have y0 := Y0.out
    have y1 := Y1.out
    have y2 := Y2.out
    rw [rounds_succ]
    go_wp2_with fail
    go_ret2
    exact ⟨rfl, rfl⟩
  · have Y2 := Lib.hid (show decide ((55296 : Int) ≤ (r2 : Int)) = true from by simp; omega)
    have Y3 := Lib.hid (show decide ((r2 : Int) ≤ 57343) = false from by simp; omega)
    clear ca cb cc y2
    clear e1 e2 hv1 hv2
    go_enter Tryz.func128, Tryz.ntmps128
    go_wp2_with fail
    refine wp_loop_rounds 3 ?_
    have e1 := E1.out
    have hu1 := HU1.out
    have fl1 := FL1.out
    have fh1 := FH1.out
    rw [rounds_succ]
    go_wp2_with fail
    have e2 := E2.out
    have hu2 := HU2.out
    have fl2 := FL2.out
    have fh2 := FH2.out
    have hv1 := HV1.out
    rw [rounds_succ]
    go_wp2_with fail
    have hv2 := HV2.out
    have y0 := Y0.out
    have y1 := Y1.out
    have y2 := Y2.out
    have y3 := Y3.out
    rw [rounds_succ]
    go_wp2_with fail
    go_ret2
    exact ⟨rfl, rfl⟩

set_option maxHeartbeats 8000000 in
set_option maxRecDepth 1000000 in
theorem size_n4 (s : ByteArray) (w : World) (b0 b1 b2 b3 : Nat) (hz : 0 < s.size) (hs : s.size ≤ 140737488351232) (hb0 : s[0].toNat = b0) (hlt : b0 < 256) (hb : 240 ≤ b0 ∧ b0 ≤ 244) (g1 : b1 < 256) (e1 : ∀ h : 1 < s.size, s[1].toNat = b1) (g2 : b2 < 256) (e2 : ∀ h : 2 < s.size, s[2].toNat = b2) (g3 : b3 < 256) (e3 : ∀ h : 3 < s.size, s[3].toNat = b3) :
    Calls Tryz.prog 128 #[.string s] w fun e w' => e = .returned (.tuple #[.int .i64 ((sizeN s.size b0 b1 b2 b3).1 : Nat), .int .i64 ((sizeN s.size b0 b1 b2 b3).2 : Nat)]) ∧ w = w' := by
  have hzI : (0 : Int) < (s.size : Int) := by omega
  have hsI : (s.size : Int) ≤ 140737488351232 := by omega
  obtain ⟨N, hN⟩ : ∃ N, N = sizeN s.size b0 b1 b2 b3 := ⟨_, rfl⟩
  rw [← hN]
  unfold sizeN at hN
  rw [if_neg (by omega), if_neg (by omega), if_neg (by omega), if_pos hb] at hN
  have hI0 : (128 : Int) ≤ (b0 : Int) := by omega
  have hJ0 : (194 : Int) ≤ (b0 : Int) := by omega
  have hK0 : (223 : Int) < (b0 : Int) := by omega
  have hJ1 : (224 : Int) ≤ (b0 : Int) := by omega
  have hK1 : (239 : Int) < (b0 : Int) := by omega
  have hI1 : (240 : Int) ≤ (b0 : Int) := by omega
  have hI2 : (b0 : Int) ≤ 244 := by omega
  obtain ⟨r0, hr0⟩ : ∃ r0, r0 = b0 % 8 := ⟨_, rfl⟩
  rw [← hr0] at hN
  have hm : (b0 : Int).tmod 8 = (r0 : Int) := by rw [Int.tmod_eq_emod_of_nonneg (by omega)]; omega
  have hr0b : r0 < 8 := by omega
  have HN := Lib.hid hN
  clear hN hr0 hb
  by_cases hn : s.size < 4
  · have hnI : (s.size : Int) < 4 := by omega
    obtain rfl : N = (0, 0) := by rw [HN.out, if_pos hn]
    clear HN hn
    go_enter Tryz.func128, Tryz.ntmps128
    go_wp2_with fail
    go_ret2
    exact ⟨rfl, rfl⟩
  have hnI : (4 : Int) ≤ (s.size : Int) := by omega
  have hq1 : 1 < s.size := by omega
  have E1 := Lib.hid (e1 hq1)
  have hk1 : (1 : Int) < (s.size : Int) := by omega
  have hq2 : 2 < s.size := by omega
  have E2 := Lib.hid (e2 hq2)
  have hk2 : (2 : Int) < (s.size : Int) := by omega
  have hq3 : 3 < s.size := by omega
  have E3 := Lib.hid (e3 hq3)
  have hk3 : (3 : Int) < (s.size : Int) := by omega
  by_cases p1 : b1 < 128
  · have fp1 : (b1 : Int) < 128 := by omega
    obtain rfl : N = (0, 0) := by rw [HN.out, if_neg hn, if_pos (by omega)]
    clear HN
    clear e1 e2 e3
    go_enter Tryz.func128, Tryz.ntmps128
    go_wp2_with fail
    refine wp_loop_rounds 1 ?_
    have e1 := E1.out
    rw [rounds_succ]
    go_wp2_with fail
    go_ret2
    exact ⟨rfl, rfl⟩
  by_cases q1 : 191 < b1
  · have fq1 : (191 : Int) < (b1 : Int) := by omega
    have fl1 : (128 : Int) ≤ (b1 : Int) := by omega
    obtain rfl : N = (0, 0) := by rw [HN.out, if_neg hn, if_pos (by omega)]
    clear HN
    clear e1 e2 e3
    go_enter Tryz.func128, Tryz.ntmps128
    go_wp2_with fail
    refine wp_loop_rounds 1 ?_
    have e1 := E1.out
    rw [rounds_succ]
    go_wp2_with fail
    go_ret2
    exact ⟨rfl, rfl⟩
  have FL1 := Lib.hid (show (128 : Int) ≤ (b1 : Int) from by omega)
  have FH1 := Lib.hid (show (b1 : Int) ≤ 191 from by omega)
  obtain ⟨r1, hr1⟩ : ∃ r1, r1 = 64 * r0 + b1 - 128 := ⟨_, rfl⟩
  have HU1 := Lib.hid (show 64 * (r0 : Int) + (b1 : Int) - 128 = (r1 : Int) from by omega)
  have hv1 : (r1 : Int) ≤ 511 := by omega
  have HV1 := Lib.hid hv1
  by_cases p2 : b2 < 128
  · have fp2 : (b2 : Int) < 128 := by omega
    obtain rfl : N = (0, 0) := by rw [HN.out, if_neg hn, if_neg (by omega), if_pos (by omega)]
    clear HN
    clear e1 e2 e3 hv1
    go_enter Tryz.func128, Tryz.ntmps128
    go_wp2_with fail
    refine wp_loop_rounds 2 ?_
    have e1 := E1.out
    have hu1 := HU1.out
    have fl1 := FL1.out
    have fh1 := FH1.out
    rw [rounds_succ]
    go_wp2_with fail
    have e2 := E2.out
    have hv1 := HV1.out
    rw [rounds_succ]
    go_wp2_with fail
    go_ret2
    exact ⟨rfl, rfl⟩
  by_cases q2 : 191 < b2
  · have fq2 : (191 : Int) < (b2 : Int) := by omega
    have fl2 : (128 : Int) ≤ (b2 : Int) := by omega
    obtain rfl : N = (0, 0) := by rw [HN.out, if_neg hn, if_neg (by omega), if_pos (by omega)]
    clear HN
    clear e1 e2 e3 hv1
    go_enter Tryz.func128, Tryz.ntmps128
    go_wp2_with fail
    refine wp_loop_rounds 2 ?_
    have e1 := E1.out
    have hu1 := HU1.out
    have fl1 := FL1.out
    have fh1 := FH1.out
    rw [rounds_succ]
    go_wp2_with fail
    have e2 := E2.out
    have hv1 := HV1.out
    rw [rounds_succ]
    go_wp2_with fail
    go_ret2
    exact ⟨rfl, rfl⟩
  have FL2 := Lib.hid (show (128 : Int) ≤ (b2 : Int) from by omega)
  have FH2 := Lib.hid (show (b2 : Int) ≤ 191 from by omega)
  obtain ⟨r2, hr2⟩ : ∃ r2, r2 = 64 * r1 + b2 - 128 := ⟨_, rfl⟩
  have HU2 := Lib.hid (show 64 * (r1 : Int) + (b2 : Int) - 128 = (r2 : Int) from by omega)
  have hv2 : (r2 : Int) ≤ 32767 := by omega
  have HV2 := Lib.hid hv2
  by_cases p3 : b3 < 128
  · have fp3 : (b3 : Int) < 128 := by omega
    obtain rfl : N = (0, 0) := by rw [HN.out, if_neg hn, if_neg (by omega), if_neg (by omega), if_pos (by omega)]
    clear HN
    clear e1 e2 e3 hv1 hv2
    go_enter Tryz.func128, Tryz.ntmps128
    go_wp2_with fail
    refine wp_loop_rounds 3 ?_
    have e1 := E1.out
    have hu1 := HU1.out
    have fl1 := FL1.out
    have fh1 := FH1.out
    rw [rounds_succ]
    go_wp2_with fail
    have e2 := E2.out
    have hu2 := HU2.out
    have fl2 := FL2.out
    have fh2 := FH2.out
    have hv1 := HV1.out
    rw [rounds_succ]
    go_wp2_with fail
    have e3 := E3.out
    have hv2 := HV2.out
    rw [rounds_succ]
    go_wp2_with fail
    go_ret2
    exact ⟨rfl, rfl⟩
  by_cases q3 : 191 < b3
  · have fq3 : (191 : Int) < (b3 : Int) := by omega
    have fl3 : (128 : Int) ≤ (b3 : Int) := by omega
    obtain rfl : N = (0, 0) := by rw [HN.out, if_neg hn, if_neg (by omega), if_neg (by omega), if_pos (by omega)]
    clear HN
    clear e1 e2 e3 hv1 hv2
    go_enter Tryz.func128, Tryz.ntmps128
    go_wp2_with fail
    refine wp_loop_rounds 3 ?_
    have e1 := E1.out
    have hu1 := HU1.out
    have fl1 := FL1.out
    have fh1 := FH1.out
    rw [rounds_succ]
    go_wp2_with fail
    have e2 := E2.out
    have hu2 := HU2.out
    have fl2 := FL2.out
    have fh2 := FH2.out
    have hv1 := HV1.out
    rw [rounds_succ]
    go_wp2_with fail
    have e3 := E3.out
    have hv2 := HV2.out
    rw [rounds_succ]
    go_wp2_with fail
    go_ret2
    exact ⟨rfl, rfl⟩
  have FL3 := Lib.hid (show (128 : Int) ≤ (b3 : Int) from by omega)
  have FH3 := Lib.hid (show (b3 : Int) ≤ 191 from by omega)
  obtain ⟨r3, hr3⟩ : ∃ r3, r3 = 64 * r2 + b3 - 128 := ⟨_, rfl⟩
  have HU3 := Lib.hid (show 64 * (r2 : Int) + (b3 : Int) - 128 = (r3 : Int) from by omega)
  have hv3 : (r3 : Int) ≤ 2097151 := by omega
  have HV3 := Lib.hid hv3
  have HE : Hid (N = endR 4 65536 r3) := by
    show _ = _
    rw [HN.out, if_neg hn, if_neg (by omega), if_neg (by omega), if_neg (by omega)]
    rw [← hr1, ← hr2, ← hr3]
  clear HN hr1 p1 q1 hr2 p2 q2 hr3 p3 q3
  by_cases ca : r3 < 65536
  · obtain rfl : N = (0, 0) := by rw [HE.out]; exact endR_lo ca
    have Y0 := Lib.hid (show decide ((r3 : Int) < 65536) = true from by simp; omega)
    clear HE ca
    clear e1 e2 e3 hv1 hv2 hv3
    go_enter Tryz.func128, Tryz.ntmps128
    go_wp2_with fail
    refine wp_loop_rounds 4 ?_
    have e1 := E1.out
    have hu1 := HU1.out
    have fl1 := FL1.out
    have fh1 := FH1.out
    rw [rounds_succ]
    go_wp2_with fail
    have e2 := E2.out
    have hu2 := HU2.out
    have fl2 := FL2.out
    have fh2 := FH2.out
    have hv1 := HV1.out
    rw [rounds_succ]
    go_wp2_with fail
    have e3 := E3.out
    have hu3 := HU3.out
    have fl3 := FL3.out
    have fh3 := FH3.out
    have hv2 := HV2.out
    rw [rounds_succ]
    go_wp2_with fail
    have hv3 := HV3.out
    have y0 := Y0.out
    rw [rounds_succ]
    go_wp2_with fail
    go_ret2
    exact ⟨rfl, rfl⟩
  by_cases cb : 1114111 < r3
  · obtain rfl : N = (0, 0) := by rw [HE.out]; exact endR_hi ca cb
    have Y0 := Lib.hid (show decide ((r3 : Int) < 65536) = false from by simp; omega)
    have Y1 := Lib.hid (show decide ((1114111 : Int) < (r3 : Int)) = true from by simp; omega)
    clear HE ca cb
    clear e1 e2 e3 hv1 hv2 hv3
    go_enter Tryz.func128, Tryz.ntmps128
    go_wp2_with fail
    refine wp_loop_rounds 4 ?_
    have e1 := E1.out
    have hu1 := HU1.out
    have fl1 := FL1.out
    have fh1 := FH1.out
    rw [rounds_succ]
    go_wp2_with fail
    have e2 := E2.out
    have hu2 := HU2.out
    have fl2 := FL2.out
    have fh2 := FH2.out
    have hv1 := HV1.out
    rw [rounds_succ]
    go_wp2_with fail
    have e3 := E3.out
    have hu3 := HU3.out
    have fl3 := FL3.out
    have fh3 := FH3.out
    have hv2 := HV2.out
    rw [rounds_succ]
    go_wp2_with fail
    have hv3 := HV3.out
    have y0 := Y0.out
    have y1 := Y1.out
    rw [rounds_succ]
    go_wp2_with fail
    go_ret2
    exact ⟨rfl, rfl⟩
  have cc : ¬ (55296 ≤ r3 ∧ r3 ≤ 57343) := by omega
  obtain rfl : N = (4, r3) := by rw [HE.out]; exact endR_ok ca cb cc
  have Y0 := Lib.hid (show decide ((r3 : Int) < 65536) = false from by simp; omega)
  have Y1 := Lib.hid (show decide ((1114111 : Int) < (r3 : Int)) = false from by simp; omega)
  clear HE
  · have Y2 := Lib.hid (show decide ((55296 : Int) ≤ (r3 : Int)) = true from by simp; omega)
    have Y3 := Lib.hid (show decide ((r3 : Int) ≤ 57343) = false from by simp; omega)
    clear ca cb cc
    clear e1 e2 e3 hv1 hv2 hv3
    go_enter Tryz.func128, Tryz.ntmps128
    go_wp2_with fail
    refine wp_loop_rounds 4 ?_
    have e1 := E1.out
    have hu1 := HU1.out
    have fl1 := FL1.out
    have fh1 := FH1.out
    rw [rounds_succ]
    go_wp2_with fail
    have e2 := E2.out
    have hu2 := HU2.out
    have fl2 := FL2.out
    have fh2 := FH2.out
    have hv1 := HV1.out
    rw [rounds_succ]
    go_wp2_with fail
    have e3 := E3.out
    have hu3 := HU3.out
    have fl3 := FL3.out
    have fh3 := FH3.out
    have hv2 := HV2.out
    rw [rounds_succ]
    go_wp2_with fail
    have hv3 := HV3.out
    have y0 := Y0.out
    have y1 := Y1.out
    have y2 := Y2.out
    have y3 := Y3.out
    rw [rounds_succ]
    go_wp2_with fail
    go_ret2
    exact ⟨rfl, rfl⟩

end Go.Proofs.YtjldeckcfdeklaaGreatDoor
