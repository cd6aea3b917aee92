/- What a law wants besides of the texts that are merged. -/
import Derived.Test.YtfdnhkjeoeffoaaGreatDoorM12
import Derived.Test.YtfdnhkjeoeffoaaGreatDoorM6
import Derived.Lib.DecodeN
import Derived.Test.YtfdnhkjeoeffoaaGreatDoorM9
import Derived.Test.YtfdnhkjeoeffoaaGreatDoorM3
import Derived.Test.YtfdnhkjeoeffoaaGreatDoorM2
import Derived.StillTailTactics
import Derived.Deep.RegionHeld3
import Derived.Test.YtfdnhkjeoeffoaaGreatDoorM7
section
namespace Go.Proofs.YtfdnhkjeoeffoaaGreatDoor
open Go.RowKit
set_option linter.unusedVariables false

theorem get_ch (s : ByteArray) (k : Nat) : (s.get! k).toNat = ch s k := by
  unfold ch
  congr 1
  show s.data[k]! = _
  rw [List.getD_eq_getElem?_getD, getElem!_def]
  simp only [Array.getElem?_toList]
  cases s.data[k]? <;> rfl
set_option maxHeartbeats 4000000 in
theorem size_decN (n b0 b1 b2 b3 : Nat) (h0 : 0 < n) (c0 : b0 < 256) (c1 : b1 < 256) (c2 : b2 < 256) (c3 : b3 < 256) : odd1 (Lib.decodeN n b0 b1 b2 b3) b0 = nxtN n b0 b1 b2 b3 := by
  unfold Lib.decodeN nxtN sizeN endR
  by_cases g0 : b0 < 128
  · simp [g0, odd1]
    omega
  by_cases g1 : 194 ≤ b0 ∧ b0 ≤ 223
  · rw [if_neg g0, if_neg g0, if_pos g1]
    repeat' split
    all_goals (simp_all [odd1] <;> omega)
  by_cases g2 : 224 ≤ b0 ∧ b0 ≤ 239
  · rw [if_neg g0, if_neg g0, if_neg g1, if_pos g2, if_neg (show ¬ (b0 / 32 = 6 ∧ 1 < n ∧ b1 / 64 = 2) from by omega)]
    repeat' split
    all_goals (simp_all [odd1] <;> omega)
  by_cases g3 : 240 ≤ b0 ∧ b0 ≤ 244
  · rw [if_neg g0, if_neg g0, if_neg g1, if_neg g2, if_pos g3, if_neg (show ¬ (b0 / 32 = 6 ∧ 1 < n ∧ b1 / 64 = 2) from by omega), if_neg (show ¬ (b0 / 16 = 14 ∧ (1 < n ∧ b1 / 64 = 2) ∧ 2 < n ∧ b2 / 64 = 2) from by omega)]
    repeat' split
    all_goals (simp_all [odd1] <;> omega)
  rw [if_neg g0, if_neg g0, if_neg g1, if_neg g2, if_neg g3, if_neg (show ¬ (b0 / 16 = 14 ∧ (1 < n ∧ b1 / 64 = 2) ∧ 2 < n ∧ b2 / 64 = 2) from by omega)]
  simp only [if_true]
  repeat' split
  all_goals (simp_all [odd1] <;> omega)
theorem nxtN_le (n b0 b1 b2 b3 : Nat) (h0 : 0 < n) : (nxtN n b0 b1 b2 b3).2 ≤ n := by
  have he : ∀ k l r, k ≤ n → (endR k l r).1 = 0 ∨ (endR k l r).1 ≤ n := fun k l r hk => by
    unfold endR
    repeat' split
    all_goals first | exact .inl rfl | exact .inr hk
  have hs : (sizeN n b0 b1 b2 b3).1 = 0 ∨ (sizeN n b0 b1 b2 b3).1 ≤ n := by
    unfold sizeN
    repeat' split
    all_goals first | exact he _ _ _ (by omega) | exact .inr h0 | exact .inl rfl
  unfold nxtN
  split
  · exact h0
  · rcases hs with h | h
    · contradiction
    · exact h
theorem size_decode (s : ByteArray) (h : 0 < s.size) : odd1 (Utf8.decode s 0) (ch s 0) = nxtR s := by
  rw [Lib.decode_at, get_ch, get_ch, get_ch, get_ch]
  exact size_decN s.size _ _ _ _ h (ch_lt _ _) (ch_lt _ _) (ch_lt _ _) (ch_lt _ _)
theorem ch_extract (s : ByteArray) (m : Nat) : ch (s.extract m s.size) 0 = ch s m := by
  unfold ch
  rw [show (s.extract m s.size).data = s.data.extract m s.size from ByteArray.data_extract]
  rw [List.getD_eq_getElem?_getD, List.getD_eq_getElem?_getD]
  simp only [Array.getElem?_toList, Array.getElem?_extract]
  have hz : s.size = s.data.size := rfl
  rcases Nat.lt_or_ge m s.size with h | h
  · rw [if_pos (by omega)]
    rfl
  · rw [if_neg (by omega), Array.getElem?_eq_none (by omega)]
theorem nxt_ref (s : ByteArray) (m : Nat) (h : m < s.size) : nxt s m false = nxtR (s.extract m s.size) := by
  have hz : 0 < (s.extract m s.size).size := by rw [ByteArray.size_extract]; omega
  have e := size_decode _ hz
  rw [← e, ch_extract]
  unfold nxt odd1 dgo Lib.decodeGo
  rw [if_neg (Nat.ne_of_gt hz)]
  rfl
theorem nxt_in (s : ByteArray) (m : Nat) (b : Bool) (h : m < s.size) : m + (nxt s m b).2 ≤ s.size := by
  cases b
  · rw [nxt_ref s m h]
    have hz : (s.extract m s.size).size = s.size - m := by rw [ByteArray.size_extract]; omega
    have := nxtN_le (s.extract m s.size).size (ch (s.extract m s.size) 0) (ch (s.extract m s.size) 1) (ch (s.extract m s.size) 2) (ch (s.extract m s.size) 3) (by omega)
    have e : nxtR (s.extract m s.size) = nxtN (s.extract m s.size).size (ch (s.extract m s.size) 0) (ch (s.extract m s.size) 1) (ch (s.extract m s.size) 2) (ch (s.extract m s.size) 3) := rfl
    rw [e]
    omega
  · show m + 1 ≤ _
    omega
theorem starts_step {s : ByteArray} {b : Bool} {m : Nat} (h : m < s.size) : startsL s b m = m :: startsL s b (m + (nxt s m b).2) := by
  unfold startsL
  rw [chars_step h]
  rfl
theorem starts_end (s : ByteArray) (b : Bool) : startsL s b s.size = [s.size] := by
  unfold startsL
  rw [chars_end (Nat.le_refl _)]
  rfl
theorem starts_len (s : ByteArray) (b : Bool) (m : Nat) : (startsL s b m).length = (chars s b m).length + 1 := by
  unfold startsL
  simp
end Go.Proofs.YtfdnhkjeoeffoaaGreatDoor
end

section
namespace Go.Proofs.YtfdnhkjeoeffoaaGreatDoor
open Go.RowKit
set_option linter.unusedVariables false

theorem endR_lo {n l r : Nat} (h : r < l) : endR n l r = (0, 0) := by unfold endR; rw [if_pos h]
theorem endR_hi {n l r : Nat} (h : ¬ r < l) (h2 : 1114111 < r) : endR n l r = (0, 0) := by unfold endR; rw [if_neg h, if_pos h2]
theorem endR_sur {n l r : Nat} (h : ¬ r < l) (h2 : ¬ 1114111 < r) (h3 : 55296 ≤ r) (h4 : r ≤ 57343) : endR n l r = (0, 0) := by unfold endR; rw [if_neg h, if_neg h2, if_pos ⟨h3, h4⟩]
theorem endR_ok {n l r : Nat} (h : ¬ r < l) (h2 : ¬ 1114111 < r) (h3 : ¬ (55296 ≤ r ∧ r ≤ 57343)) : endR n l r = (n, r) := by unfold endR; rw [if_neg h, if_neg h2, if_neg h3]
set_option maxHeartbeats 8000000 in
set_option maxRecDepth 1000000 in
theorem size_ascii (s : ByteArray) (w : World) (b0 b1 b2 b3 : Nat) (hz : 0 < s.size) (hs : s.size ≤ 140737488351232) (hb0 : s[0].toNat = b0) (h : b0 < 128) :
    Calls Tryz.prog 200 #[.string s] w fun e w' => e = .returned (.tuple #[.int .i64 ((sizeN s.size b0 b1 b2 b3).1 : Nat), .int .i64 ((sizeN s.size b0 b1 b2 b3).2 : Nat)]) ∧ w = w' := by
  have hzI : (0 : Int) < (s.size : Int) := by omega
  have hsI : (s.size : Int) ≤ 140737488351232 := by omega
  obtain ⟨N, hN⟩ : ∃ N, N = sizeN s.size b0 b1 b2 b3 := ⟨_, rfl⟩
  rw [← hN]
  unfold sizeN at hN
  rw [if_pos h] at hN
  subst hN
  have hI : (b0 : Int) < 128 := by omega
  clear h
  go_enter Tryz.func200, Tryz.ntmps200
  go_wp2_with fail
  go_ret2
  exact ⟨rfl, rfl⟩

set_option maxHeartbeats 8000000 in
set_option maxRecDepth 1000000 in
theorem size_none (s : ByteArray) (w : World) (b0 b1 b2 b3 : Nat) (hz : 0 < s.size) (hs : s.size ≤ 140737488351232) (hb0 : s[0].toNat = b0) (h0 : ¬ b0 < 128) (h1 : ¬ (194 ≤ b0 ∧ b0 ≤ 223)) (h2 : ¬ (224 ≤ b0 ∧ b0 ≤ 239)) (h3 : ¬ (240 ≤ b0 ∧ b0 ≤ 244)) (hlt : b0 < 256) :
    Calls Tryz.prog 200 #[.string s] w fun e w' => e = .returned (.tuple #[.int .i64 ((sizeN s.size b0 b1 b2 b3).1 : Nat), .int .i64 ((sizeN s.size b0 b1 b2 b3).2 : Nat)]) ∧ w = w' := by
  have hzI : (0 : Int) < (s.size : Int) := by omega
  have hsI : (s.size : Int) ≤ 140737488351232 := by omega
  obtain ⟨N, hN⟩ : ∃ N, N = sizeN s.size b0 b1 b2 b3 := ⟨_, rfl⟩
  rw [← hN]
  unfold sizeN at hN
  rw [if_neg h0, if_neg h1, if_neg h2, if_neg h3] at hN
  subst hN
  have hI : (128 : Int) ≤ (b0 : Int) := by omega
  clear h0
  by_cases c : b0 < 194
  · have hI2 : (b0 : Int) < 194 := by omega
    have hI3 : (b0 : Int) < 224 := by omega
    have hI4 : (b0 : Int) < 240 := by omega
    clear h1 h2 h3 c
    go_enter Tryz.func200, Tryz.ntmps200
    go_wp2_with fail
    go_ret2
    exact ⟨rfl, rfl⟩
  · have hI2 : (194 : Int) ≤ (b0 : Int) := by omega
    have hI3 : (223 : Int) < (b0 : Int) := by omega
    have hI4 : (224 : Int) ≤ (b0 : Int) := by omega
    have hI5 : (239 : Int) < (b0 : Int) := by omega
    have hI6 : (240 : Int) ≤ (b0 : Int) := by omega
    have hI7 : (244 : Int) < (b0 : Int) := by omega
    clear h1 h2 h3 c
    go_enter Tryz.func200, Tryz.ntmps200
    go_wp2_with fail
    go_ret2
    exact ⟨rfl, rfl⟩

set_option maxHeartbeats 8000000 in
set_option maxRecDepth 1000000 in
theorem size_n2 (s : ByteArray) (w : World) (b0 b1 b2 b3 : Nat) (hz : 0 < s.size) (hs : s.size ≤ 140737488351232) (hb0 : s[0].toNat = b0) (hlt : b0 < 256) (hb : 194 ≤ b0 ∧ b0 ≤ 223) (g1 : b1 < 256) (e1 : ∀ h : 1 < s.size, s[1].toNat = b1) :
    Calls Tryz.prog 200 #[.string s] w fun e w' => e = .returned (.tuple #[.int .i64 ((sizeN s.size b0 b1 b2 b3).1 : Nat), .int .i64 ((sizeN s.size b0 b1 b2 b3).2 : Nat)]) ∧ w = w' := by
  have hzI : (0 : Int) < (s.size : Int) := by omega
  have hsI : (s.size : Int) ≤ 140737488351232 := by omega
  obtain ⟨N, hN⟩ : ∃ N, N = sizeN s.size b0 b1 b2 b3 := ⟨_, rfl⟩
  rw [← hN]
  unfold sizeN at hN
  rw [if_neg (by omega), if_pos hb] at hN
  have hI0 : (128 : Int) ≤ (b0 : Int) := by omega
  have hI1 : (194 : Int) ≤ (b0 : Int) := by omega
  have hI2 : (b0 : Int) ≤ 223 := by omega
  obtain ⟨r0, hr0⟩ : ∃ r0, r0 = b0 % 32 := ⟨_, rfl⟩
  rw [← hr0] at hN
  have hm : (b0 : Int).tmod 32 = (r0 : Int) := by rw [Int.tmod_eq_emod_of_nonneg (by omega)]; omega
  have hr0b : r0 < 32 := by omega
  have HN := Lib.hid hN
  clear hN hr0 hb
  by_cases hn : s.size < 2
  · have hnI : (s.size : Int) < 2 := by omega
    obtain rfl : N = (0, 0) := by rw [HN.out, if_pos hn]
    clear HN hn
    go_enter Tryz.func200, Tryz.ntmps200
    go_wp2_with fail
    go_ret2
    exact ⟨rfl, rfl⟩
  have hnI : (2 : Int) ≤ (s.size : Int) := by omega
  have hq1 : 1 < s.size := by omega
  have E1 := Lib.hid (e1 hq1)
  have hk1 : (1 : Int) < (s.size : Int) := by omega
  by_cases p1 : b1 < 128
  · have fp1 : (b1 : Int) < 128 := by omega
    obtain rfl : N = (0, 0) := by rw [HN.out, if_neg hn, if_pos (by omega)]
    clear HN
    clear e1
    go_enter Tryz.func200, Tryz.ntmps200
    go_wp2_with fail
    refine wp_loop_rounds 1 ?_
    have e1 := E1.out
    rw [rounds_succ]
    go_wp2_with fail
    go_ret2
    exact ⟨rfl, rfl⟩
  by_cases q1 : 191 < b1
  · have fq1 : (191 : Int) < (b1 : Int) := by omega
    have fl1 : (128 : Int) ≤ (b1 : Int) := by omega
    obtain rfl : N = (0, 0) := by rw [HN.out, if_neg hn, if_pos (by omega)]
    clear HN
    clear e1
    go_enter Tryz.func200, Tryz.ntmps200
    go_wp2_with fail
    refine wp_loop_rounds 1 ?_
    have e1 := E1.out
    rw [rounds_succ]
    go_wp2_with fail
    go_ret2
    exact ⟨rfl, rfl⟩
  have FL1 := Lib.hid (show (128 : Int) ≤ (b1 : Int) from by omega)
  have FH1 := Lib.hid (show (b1 : Int) ≤ 191 from by omega)
  obtain ⟨r1, hr1⟩ : ∃ r1, r1 = 64 * r0 + b1 - 128 := ⟨_, rfl⟩
  have HU1 := Lib.hid (show 64 * (r0 : Int) + (b1 : Int) - 128 = (r1 : Int) from by omega)
  have hv1 : (r1 : Int) ≤ 2047 := by omega
  have HV1 := Lib.hid hv1
  have HE : Hid (N = endR 2 128 r1) := by
    show _ = _
    rw [HN.out, if_neg hn, if_neg (by omega)]
    rw [← hr1]
  clear HN hr1 p1 q1
  by_cases ca : r1 < 128
  · obtain rfl : N = (0, 0) := by rw [HE.out]; exact endR_lo ca
    have Y0 := Lib.hid (show decide ((r1 : Int) < 128) = true from by simp; omega)
    clear HE ca
    clear e1 hv1
    go_enter Tryz.func200, Tryz.ntmps200
    go_wp2_with fail
    refine wp_loop_rounds 2 ?_
    have e1 := E1.out
    have hu1 := HU1.out
    have fl1 := FL1.out
    have fh1 := FH1.out
    rw [rounds_succ]
    go_wp2_with fail
    have hv1 := HV1.out
    have y0 := Y0.out
    rw [rounds_succ]
    go_wp2_with fail
    go_ret2
    exact ⟨rfl, rfl⟩
  have cb : ¬ (1114111 < r1) := by omega
  have cc : ¬ (55296 ≤ r1 ∧ r1 ≤ 57343) := by omega
  obtain rfl : N = (2, r1) := by rw [HE.out]; exact endR_ok ca cb cc
  have Y0 := Lib.hid (show decide ((r1 : Int) < 128) = false from by simp; omega)
  have Y1 := Lib.hid (show decide ((1114111 : Int) < (r1 : Int)) = false from by simp; omega)
  clear HE
  · have Y2 := Lib.hid (show decide ((55296 : Int) ≤ (r1 : Int)) = false from by simp; omega)
    clear ca cb cc
    clear e1 hv1
    go_enter Tryz.func200, Tryz.ntmps200
    go_wp2_with fail
    refine wp_loop_rounds 2 ?_
    have e1 := E1.out
    have hu1 := HU1.out
    have fl1 := FL1.out
    have fh1 := FH1.out
    rw [rounds_succ]
    go_wp2_with fail
    have hv1 := HV1.out
    have y0 := Y0.out
    have y1 := Y1.out
    have y2 := Y2.out
    rw [rounds_succ]
    go_wp2_with fail
    go_ret2
    exact ⟨rfl, rfl⟩

set_option maxHeartbeats 8000000 in
set_option maxRecDepth 1000000 in
theorem size_n3 (s : ByteArray) (w : World) (b0 b1 b2 b3 : Nat) (hz : 0 < s.size) (hs : s.size ≤ 140737488351232) (hb0 : s[0].toNat = b0) (hlt : b0 < 256) (hb : 224 ≤ b0 ∧ b0 ≤ 239) (g1 : b1 < 256) (e1 : ∀ h : 1 < s.size, s[1].toNat = b1) (g2 : b2 < 256) (e2 : ∀ h : 2 < s.size, s[2].toNat = b2) :
    Calls Tryz.prog 200 #[.string s] w fun e w' => e = .returned (.tuple #[.int .i64 ((sizeN s.size b0 b1 b2 b3).1 : Nat), .int .i64 ((sizeN s.size b0 b1 b2 b3).2 : Nat)]) ∧ w = w' := by
  have hzI : (0 : Int) < (s.size : Int) := by omega
  have hsI : (s.size : Int) ≤ 140737488351232 := by omega
  obtain ⟨N, hN⟩ : ∃ N, N = sizeN s.size b0 b1 b2 b3 := ⟨_, rfl⟩
  rw [← hN]
  unfold sizeN at hN
  rw [if_neg (by omega), if_neg (by omega), if_pos hb] at hN
  have hI0 : (128 : Int) ≤ (b0 : Int) := by omega
  have hJ0 : (194 : Int) ≤ (b0 : Int) := by omega
  have hK0 : (223 : Int) < (b0 : Int) := by omega
  have hI1 : (224 : Int) ≤ (b0 : Int) := by omega
  have hI2 : (b0 : Int) ≤ 239 := by omega
  obtain ⟨r0, hr0⟩ : ∃ r0, r0 = b0 % 16 := ⟨_, rfl⟩
  rw [← hr0] at hN
  have hm : (b0 : Int).tmod 16 = (r0 : Int) := by rw [Int.tmod_eq_emod_of_nonneg (by omega)]; omega
  have hr0b : r0 < 16 := by omega
  have HN := Lib.hid hN
  clear hN hr0 hb
  by_cases hn : s.size < 3
  · have hnI : (s.size : Int) < 3 := by omega
    obtain rfl : N = (0, 0) := by rw [HN.out, if_pos hn]
    clear HN hn
    go_enter Tryz.func200, Tryz.ntmps200
    go_wp2_with fail
    go_ret2
    exact ⟨rfl, rfl⟩
  have hnI : (3 : Int) ≤ (s.size : Int) := by omega
  have hq1 : 1 < s.size := by omega
  have E1 := Lib.hid (e1 hq1)
  have hk1 : (1 : Int) < (s.size : Int) := by omega
  have hq2 : 2 < s.size := by omega
  have E2 := Lib.hid (e2 hq2)
  have hk2 : (2 : Int) < (s.size : Int) := by omega
  by_cases p1 : b1 < 128
  · have fp1 : (b1 : Int) < 128 := by omega
    obtain rfl : N = (0, 0) := by rw [HN.out, if_neg hn, if_pos (by omega)]
    clear HN
    clear e1 e2
    go_enter Tryz.func200, Tryz.ntmps200
    go_wp2_with fail
    refine wp_loop_rounds 1 ?_
    have e1 := E1.out
    rw [rounds_succ]
    go_wp2_with fail
    go_ret2
    exact ⟨rfl, rfl⟩
  by_cases q1 : 191 < b1
  · have fq1 : (191 : Int) < (b1 : Int) := by omega
    have fl1 : (128 : Int) ≤ (b1 : Int) := by omega
    obtain rfl : N = (0, 0) := by rw [HN.out, if_neg hn, if_pos (by omega)]
    clear HN
    clear e1 e2
    go_enter Tryz.func200, Tryz.ntmps200
    go_wp2_with fail
    refine wp_loop_rounds 1 ?_
    have e1 := E1.out
    rw [rounds_succ]
    go_wp2_with fail
    go_ret2
    exact ⟨rfl, rfl⟩
  have FL1 := Lib.hid (show (128 : Int) ≤ (b1 : Int) from by omega)
  have FH1 := Lib.hid (show (b1 : Int) ≤ 191 from by omega)
  obtain ⟨r1, hr1⟩ : ∃ r1, r1 = 64 * r0 + b1 - 128 := ⟨_, rfl⟩
  have HU1 := Lib.hid (show 64 * (r0 : Int) + (b1 : Int) - 128 = (r1 : Int) from by omega)
  have hv1 : (r1 : Int) ≤ 1023 := by omega
  have HV1 := Lib.hid hv1
  by_cases p2 : b2 < 128
  · have fp2 : (b2 : Int) < 128 := by omega
    obtain rfl : N = (0, 0) := by rw [HN.out, if_neg hn, if_neg (by omega), if_pos (by omega)]
    clear HN
    clear e1 e2 hv1
    go_enter Tryz.func200, Tryz.ntmps200
    go_wp2_with fail
    refine wp_loop_rounds 2 ?_
    have e1 := E1.out
    have hu1 := HU1.out
    have fl1 := FL1.out
    have fh1 := FH1.out
    rw [rounds_succ]
    go_wp2_with fail
    have e2 := E2.out
    have hv1 := HV1.out
    rw [rounds_succ]
    go_wp2_with fail
    go_ret2
    exact ⟨rfl, rfl⟩
  by_cases q2 : 191 < b2
  · have fq2 : (191 : Int) < (b2 : Int) := by omega
    have fl2 : (128 : Int) ≤ (b2 : Int) := by omega
    obtain rfl : N = (0, 0) := by rw [HN.out, if_neg hn, if_neg (by omega), if_pos (by omega)]
    clear HN
    clear e1 e2 hv1
    go_enter Tryz.func200, Tryz.ntmps200
    go_wp2_with fail
    refine wp_loop_rounds 2 ?_
    have e1 := E1.out
    have hu1 := HU1.out
    have fl1 := FL1.out
    have fh1 := FH1.out
    rw [rounds_succ]
    go_wp2_with fail
    have e2 := E2.out
    have hv1 := HV1.out
    rw [rounds_succ]
    go_wp2_with fail
    go_ret2
    exact ⟨rfl, rfl⟩
  have FL2 := Lib.hid (show (128 : Int) ≤ (b2 : Int) from by omega)
  have FH2 := Lib.hid (show (b2 : Int) ≤ 191 from by omega)
  obtain ⟨r2, hr2⟩ : ∃ r2, r2 = 64 * r1 + b2 - 128 := ⟨_, rfl⟩
  have HU2 := Lib.hid (show 64 * (r1 : Int) + (b2 : Int) - 128 = (r2 : Int) from by omega)
  have hv2 : (r2 : Int) ≤ 65535 := by omega
  have HV2 := Lib.hid hv2
  have HE : Hid (N = endR 3 2048 r2) := by
    show _ = _
    rw [HN.out, if_neg hn, if_neg (by omega), if_neg (by omega)]
    rw [← hr1, ← hr2]
  clear HN hr1 p1 q1 hr2 p2 q2
  by_cases ca : r2 < 2048
  · obtain rfl : N = (0, 0) := by rw [HE.out]; exact endR_lo ca
    have Y0 := Lib.hid (show decide ((r2 : Int) < 2048) = true from by simp; omega)
    clear HE ca
    clear e1 e2 hv1 hv2
    go_enter Tryz.func200, Tryz.ntmps200
    go_wp2_with fail
    refine wp_loop_rounds 3 ?_
    have e1 := E1.out
    have hu1 := HU1.out
    have fl1 := FL1.out
    have fh1 := FH1.out
    rw [rounds_succ]
    go_wp2_with fail
    have e2 := E2.out
    have hu2 := HU2.out
    have fl2 := FL2.out
    have fh2 := FH2.out
    have hv1 := HV1.out
    rw [rounds_succ]
    go_wp2_with fail
    have hv2 := HV2.out
    have y0 := Y0.out
    rw [rounds_succ]
    go_wp2_with fail
    go_ret2
    exact ⟨rfl, rfl⟩
  have cb : ¬ (1114111 < r2) := by omega
  by_cases cc : 55296 ≤ r2 ∧ r2 ≤ 57343
  · obtain rfl : N = (0, 0) := by rw [HE.out]; exact endR_sur ca cb cc.1 cc.2
    have Y0 := Lib.hid (show decide ((r2 : Int) < 2048) = false from by simp; omega)
    have Y1 := Lib.hid (show decide ((1114111 : Int) < (r2 : Int)) = false from by simp; omega)
    have Y2 := Lib.hid (show decide ((55296 : Int) ≤ (r2 : Int)) = true from by simp; omega)
    have Y3 := Lib.hid (show decide ((r2 : Int) ≤ 57343) = true from by simp; omega)
    clear HE ca cb cc
    clear e1 e2 hv1 hv2
    go_enter Tryz.func200, Tryz.ntmps200
    go_wp2_with fail
    refine wp_loop_rounds 3 ?_
    have e1 := E1.out
    have hu1 := HU1.out
    have fl1 := FL1.out
    have fh1 := FH1.out
    rw [rounds_succ]
    go_wp2_with fail
    have e2 := E2.out
    have hu2 := HU2.out
    have fl2 := FL2.out
    have fh2 := FH2.out
    have hv1 := HV1.out
    rw [rounds_succ]
    go_wp2_with fail
    have hv2 := HV2.out
    have y0 := Y0.out
    have y1 := Y1.out
    have y2 := Y2.out
    have y3 := Y3.out
    rw [rounds_succ]
    go_wp2_with fail
    go_ret2
    exact ⟨rfl, rfl⟩
  obtain rfl : N = (3, r2) := by rw [HE.out]; exact endR_ok ca cb cc
  have Y0 := Lib.hid (show decide ((r2 : Int) < 2048) = false from by simp; omega)
  have Y1 := Lib.hid (show decide ((1114111 : Int) < (r2 : Int)) = false from by simp; omega)
  clear HE
  rcases Nat.lt_or_ge r2 55296 with y2 | y2
  · have Y2 := Lib.hid (show decide ((55296 : Int) ≤ (r2 : Int)) = false from by simp; omega)
    clear ca cb cc y2
    clear e1 e2 hv1 hv2
    go_enter Tryz.func200, Tryz.ntmps200
    go_wp2_with fail
    refine wp_loop_rounds 3 ?_
    have e1 := E1.out
    have hu1 := HU1.out
    have fl1 := FL1.out
    have fh1 := FH1.out
    rw [rounds_succ]
    go_wp2_with fail
    have e2 := E2.out
    have hu2 := HU2.out
    have fl2 := FL2.out
    have fh2 := FH2.out
    have hv1 := HV1.out
    rw [rounds_succ]
    go_wp2_with fail
    have hv2 := HV2.out
    have y0 := Y0.out
    have y1 := Y1.out
    have y2 := Y2.out
    rw [rounds_succ]
    go_wp2_with fail
    go_ret2
    exact ⟨rfl, rfl⟩
  · have Y2 := Lib.hid (show decide ((55296 : Int) ≤ (r2 : Int)) = true from by simp; omega)
    have Y3 := Lib.hid (show decide ((r2 : Int) ≤ 57343) = false from by simp; omega)
    clear ca cb cc y2
    clear e1 e2 hv1 hv2
    go_enter Tryz.func200, Tryz.ntmps200
    go_wp2_with fail
    refine wp_loop_rounds 3 ?_
    have e1 := E1.out
    have hu1 := HU1.out
    have fl1 := FL1.out
    have fh1 := FH1.out
    rw [rounds_succ]
    go_wp2_with fail
    have e2 := E2.out
    have hu2 := HU2.out
    have fl2 := FL2.out
    have fh2 := FH2.out
    have hv1 := HV1.out
    rw [rounds_succ]
    go_wp2_with fail
    have hv2 := HV2.out
    have y0 := Y0.out
    have y1 := Y1.out
    have y2 := Y2.out
    have y3 := Y3.out
    rw [rounds_succ]
    go_wp2_with fail
    go_ret2
    exact ⟨rfl, rfl⟩

set_option maxHeartbeats 8000000 in
set_option maxRecDepth 1000000 in
theorem size_n4 (s : ByteArray) (w : World) (b0 b1 b2 b3 : Nat) (hz : 0 < s.size) (hs : s.size ≤ 140737488351232) (hb0 : s[0].toNat = b0) (hlt : b0 < 256) (hb : 240 ≤ b0 ∧ b0 ≤ 244) (g1 : b1 < 256) (e1 : ∀ h : 1 < s.size, s[1].toNat = b1) (g2 : b2 < 256) (e2 : ∀ h : 2 < s.size, s[2].toNat = b2) (g3 : b3 < 256) (e3 : ∀ h : 3 < s.size, s[3].toNat = b3) :
    Calls Tryz.prog 200 #[.string s] w fun e w' => e = .returned (.tuple #[.int .i64 ((sizeN s.size b0 b1 b2 b3).1 : Nat), .int .i64 ((sizeN s.size b0 b1 b2 b3).2 : Nat)]) ∧ w = w' := by
  have hzI : (0 : Int) < (s.size : Int) := by omega
  have hsI : (s.size : Int) ≤ 140737488351232 := by omega
  obtain ⟨N, hN⟩ : ∃ N, N = sizeN s.size b0 b1 b2 b3 := ⟨_, rfl⟩
  rw [← hN]
  unfold sizeN at hN
  rw [if_neg (by omega), if_neg (by omega), if_neg (by omega), if_pos hb] at hN
  have hI0 : (128 : Int) ≤ (b0 : Int) := by omega
  have hJ0 : (194 : Int) ≤ (b0 : Int) := by omega
  have hK0 : (223 : Int) < (b0 : Int) := by omega
  have hJ1 : (224 : Int) ≤ (b0 : Int) := by omega
  have hK1 : (239 : Int) < (b0 : Int) := by omega
  have hI1 : (240 : Int) ≤ (b0 : Int) := by omega
  have hI2 : (b0 : Int) ≤ 244 := by omega
  obtain ⟨r0, hr0⟩ : ∃ r0, r0 = b0 % 8 := ⟨_, rfl⟩
  rw [← hr0] at hN
  have hm : (b0 : Int).tmod 8 = (r0 : Int) := by rw [Int.tmod_eq_emod_of_nonneg (by omega)]; omega
  have hr0b : r0 < 8 := by omega
  have HN := Lib.hid hN
  clear hN hr0 hb
  by_cases hn : s.size < 4
  · have hnI : (s.size : Int) < 4 := by omega
    obtain rfl : N = (0, 0) := by rw [HN.out, if_pos hn]
    clear HN hn
    go_enter Tryz.func200, Tryz.ntmps200
    go_wp2_with fail
    go_ret2
    exact ⟨rfl, rfl⟩
  have hnI : (4 : Int) ≤ (s.size : Int) := by omega
  have hq1 : 1 < s.size := by omega
  have E1 := Lib.hid (e1 hq1)
  have hk1 : (1 : Int) < (s.size : Int) := by omega
  have hq2 : 2 < s.size := by omega
  have E2 := Lib.hid (e2 hq2)
  have hk2 : (2 : Int) < (s.size : Int) := by omega
  have hq3 : 3 < s.size := by omega
  have E3 := Lib.hid (e3 hq3)
  have hk3 : (3 : Int) < (s.size : Int) := by omega
  by_cases p1 : b1 < 128
  · have fp1 : (b1 : Int) < 128 := by omega
    obtain rfl : N = (0, 0) := by rw [HN.out, if_neg hn, if_pos (by omega)]
    clear HN
    clear e1 e2 e3
    go_enter Tryz.func200, Tryz.ntmps200
    go_wp2_with fail
    refine wp_loop_rounds 1 ?_
    have e1 := E1.out
    rw [rounds_succ]
    go_wp2_with fail
    go_ret2
    exact ⟨rfl, rfl⟩
  by_cases q1 : 191 < b1
  · have fq1 : (191 : Int) < (b1 : Int) := by omega
    have fl1 : (128 : Int) ≤ (b1 : Int) := by omega
    obtain rfl : N = (0, 0) := by rw [HN.out, if_neg hn, if_pos (by omega)]
    clear HN
    clear e1 e2 e3
    go_enter Tryz.func200, Tryz.ntmps200
    go_wp2_with fail
    refine wp_loop_rounds 1 ?_
    have e1 := E1.out
    rw [rounds_succ]
    go_wp2_with fail
    go_ret2
    exact ⟨rfl, rfl⟩
  have FL1 := Lib.hid (show (128 : Int) ≤ (b1 : Int) from by omega)
  have FH1 := Lib.hid (show (b1 : Int) ≤ 191 from by omega)
  obtain ⟨r1, hr1⟩ : ∃ r1, r1 = 64 * r0 + b1 - 128 := ⟨_, rfl⟩
  have HU1 := Lib.hid (show 64 * (r0 : Int) + (b1 : Int) - 128 = (r1 : Int) from by omega)
  have hv1 : (r1 : Int) ≤ 511 := by omega
  have HV1 := Lib.hid hv1
  by_cases p2 : b2 < 128
  · have fp2 : (b2 : Int) < 128 := by omega
    obtain rfl : N = (0, 0) := by rw [HN.out, if_neg hn, if_neg (by omega), if_pos (by omega)]
    clear HN
    clear e1 e2 e3 hv1
    go_enter Tryz.func200, Tryz.ntmps200
    go_wp2_with fail
    refine wp_loop_rounds 2 ?_
    have e1 := E1.out
    have hu1 := HU1.out
    have fl1 := FL1.out
    have fh1 := FH1.out
    rw [rounds_succ]
    go_wp2_with fail
    have e2 := E2.out
    have hv1 := HV1.out
    rw [rounds_succ]
    go_wp2_with fail
    go_ret2
    exact ⟨rfl, rfl⟩
  by_cases q2 : 191 < b2
  · have fq2 : (191 : Int) < (b2 : Int) := by omega
    have fl2 : (128 : Int) ≤ (b2 : Int) := by omega
    obtain rfl : N = (0, 0) := by rw [HN.out, if_neg hn, if_neg (by omega), if_pos (by omega)]
    clear HN
    clear e1 e2 e3 hv1
    go_enter Tryz.func200, Tryz.ntmps200
    go_wp2_with fail
    refine wp_loop_rounds 2 ?_
    have e1 := E1.out
    have hu1 := HU1.out
    have fl1 := FL1.out
    have fh1 := FH1.out
    rw [rounds_succ]
    go_wp2_with fail
    have e2 := E2.out
    have hv1 := HV1.out
    rw [rounds_succ]
    go_wp2_with fail
    go_ret2
    exact ⟨rfl, rfl⟩
  have FL2 := Lib.hid (show (128 : Int) ≤ (b2 : Int) from by omega)
  have FH2 := Lib.hid (show (b2 : Int) ≤ 191 from by omega)
  obtain ⟨r2, hr2⟩ : ∃ r2, r2 = 64 * r1 + b2 - 128 := ⟨_, rfl⟩
  have HU2 := Lib.hid (show 64 * (r1 : Int) + (b2 : Int) - 128 = (r2 : Int) from by omega)
  have hv2 : (r2 : Int) ≤ 32767 := by omega
  have HV2 := Lib.hid hv2
  by_cases p3 : b3 < 128
  · have fp3 : (b3 : Int) < 128 := by omega
    obtain rfl : N = (0, 0) := by rw [HN.out, if_neg hn, if_neg (by omega), if_neg (by omega), if_pos (by omega)]
    clear HN
    clear e1 e2 e3 hv1 hv2
    go_enter Tryz.func200, Tryz.ntmps200
    go_wp2_with fail
    refine wp_loop_rounds 3 ?_
    have e1 := E1.out
    have hu1 := HU1.out
    have fl1 := FL1.out
    have fh1 := FH1.out
    rw [rounds_succ]
    go_wp2_with fail
    have e2 := E2.out
    have hu2 := HU2.out
    have fl2 := FL2.out
    have fh2 := FH2.out
    have hv1 := HV1.out
    rw [rounds_succ]
    go_wp2_with fail
    have e3 := E3.out
    have hv2 := HV2.out
    rw [rounds_succ]
    go_wp2_with fail
    go_ret2
    exact ⟨rfl, rfl⟩
  by_cases q3 : 191 < b3
  · have fq3 : (191 : Int) < (b3 : Int) := by omega
    have fl3 : (128 : Int) ≤ (b3 : Int) := by omega
    obtain rfl : N = (0, 0) := by rw [HN.out, if_neg hn, if_neg (by omega), if_neg (by omega), if_pos (by omega)]
    clear HN
    clear e1 e2 e3 hv1 hv2
    go_enter Tryz.func200, Tryz.ntmps200
    go_wp2_with fail
    refine wp_loop_rounds 3 ?_
    have e1 := E1.out
    have hu1 := HU1.out
    have fl1 := FL1.out
    have fh1 := FH1.out
    rw [rounds_succ]
    go_wp2_with fail
    have e2 := E2.out
    have hu2 := HU2.out
    have fl2 := FL2.out
    have fh2 := FH2.out
    have hv1 := HV1.out
    rw [rounds_succ]
    go_wp2_with fail
    have e3 := E3.out
    have hv2 := HV2.out
    rw [rounds_succ]
    go_wp2_with fail
    go_ret2
    exact ⟨rfl, rfl⟩
  have FL3 := Lib.hid (show (128 : Int) ≤ (b3 : Int) from by omega)
  have FH3 := Lib.hid (show (b3 : Int) ≤ 191 from by omega)
  obtain ⟨r3, hr3⟩ : ∃ r3, r3 = 64 * r2 + b3 - 128 := ⟨_, rfl⟩
  have HU3 := Lib.hid (show 64 * (r2 : Int) + (b3 : Int) - 128 = (r3 : Int) from by omega)
  have hv3 : (r3 : Int) ≤ 2097151 := by omega
  have HV3 := Lib.hid hv3
  have HE : Hid (N = endR 4 65536 r3) := by
    show _ = _
    rw [HN.out, if_neg hn, if_neg (by omega), if_neg (by omega), if_neg (by omega)]
    rw [← hr1, ← hr2, ← hr3]
  clear HN hr1 p1 q1 hr2 p2 q2 hr3 p3 q3
  by_cases ca : r3 < 65536
  · obtain rfl : N = (0, 0) := by rw [HE.out]; exact endR_lo ca
    have Y0 := Lib.hid (show decide ((r3 : Int) < 65536) = true from by simp; omega)
    clear HE ca
    clear e1 e2 e3 hv1 hv2 hv3
    go_enter Tryz.func200, Tryz.ntmps200
    go_wp2_with fail
    refine wp_loop_rounds 4 ?_
    have e1 := E1.out
    have hu1 := HU1.out
    have fl1 := FL1.out
    have fh1 := FH1.out
    rw [rounds_succ]
    go_wp2_with fail
    have e2 := E2.out
    have hu2 := HU2.out
    have fl2 := FL2.out
    have fh2 := FH2.out
    have hv1 := HV1.out
    rw [rounds_succ]
    go_wp2_with fail
    have e3 := E3.out
    have hu3 := HU3.out
    have fl3 := FL3.out
    have fh3 := FH3.out
    have hv2 := HV2.out
    rw [rounds_succ]
    go_wp2_with fail
    have hv3 := HV3.out
    have y0 := Y0.out
    rw [rounds_succ]
    go_wp2_with fail
    go_ret2
    exact ⟨rfl, rfl⟩
  by_cases cb : 1114111 < r3
  · obtain rfl : N = (0, 0) := by rw [HE.out]; exact endR_hi ca cb
    have Y0 := Lib.hid (show decide ((r3 : Int) < 65536) = false from by simp; omega)
    have Y1 := Lib.hid (show decide ((1114111 : Int) < (r3 : Int)) = true from by simp; omega)
    clear HE ca cb
    clear e1 e2 e3 hv1 hv2 hv3
    go_enter Tryz.func200, Tryz.ntmps200
    go_wp2_with fail
    refine wp_loop_rounds 4 ?_
    have e1 := E1.out
    have hu1 := HU1.out
    have fl1 := FL1.out
    have fh1 := FH1.out
    rw [rounds_succ]
    go_wp2_with fail
    have e2 := E2.out
    have hu2 := HU2.out
    have fl2 := FL2.out
    have fh2 := FH2.out
    have hv1 := HV1.out
    rw [rounds_succ]
    go_wp2_with fail
    have e3 := E3.out
    have hu3 := HU3.out
    have fl3 := FL3.out
    have fh3 := FH3.out
    have hv2 := HV2.out
    rw [rounds_succ]
    go_wp2_with fail
    have hv3 := HV3.out
    have y0 := Y0.out
    have y1 := Y1.out
    rw [rounds_succ]
    go_wp2_with fail
    go_ret2
    exact ⟨rfl, rfl⟩
  have cc : ¬ (55296 ≤ r3 ∧ r3 ≤ 57343) := by omega
  obtain rfl : N = (4, r3) := by rw [HE.out]; exact endR_ok ca cb cc
  have Y0 := Lib.hid (show decide ((r3 : Int) < 65536) = false from by simp; omega)
  have Y1 := Lib.hid (show decide ((1114111 : Int) < (r3 : Int)) = false from by simp; omega)
  clear HE
  · have Y2 := Lib.hid (show decide ((55296 : Int) ≤ (r3 : Int)) = true from by simp; omega)
    have Y3 := Lib.hid (show decide ((r3 : Int) ≤ 57343) = false from by simp; omega)
    clear ca cb cc
    clear e1 e2 e3 hv1 hv2 hv3
    go_enter Tryz.func200, Tryz.ntmps200
    go_wp2_with fail
    refine wp_loop_rounds 4 ?_
    have e1 := E1.out
    have hu1 := HU1.out
    have fl1 := FL1.out
    have fh1 := FH1.out
    rw [rounds_succ]
    go_wp2_with fail
    have e2 := E2.out
    have hu2 := HU2.out
    have fl2 := FL2.out
    have fh2 := FH2.out
    have hv1 := HV1.out
    rw [rounds_succ]
    go_wp2_with fail
    have e3 := E3.out
    have hu3 := HU3.out
    have fl3 := FL3.out
    have fh3 := FH3.out
    have hv2 := HV2.out
    rw [rounds_succ]
    go_wp2_with fail
    have hv3 := HV3.out
    have y0 := Y0.out
    have y1 := Y1.out
    have y2 := Y2.out
    have y3 := Y3.out
    rw [rounds_succ]
    go_wp2_with fail
    go_ret2
    exact ⟨rfl, rfl⟩

end Go.Proofs.YtfdnhkjeoeffoaaGreatDoor
end

section
namespace Go.Proofs.YtfdnhkjeoeffoaaGreatDoor
open Go.RowKit
set_option linter.unusedVariables false

theorem infoI : (Tryz.prog.info? 3).map (fun i => (i.zero, i.size, i.bytes)) = some (some (.int .i64 0), 1, 8) := by kernel_rfl
theorem undI : Tryz.prog.underlying 94 = some (.slice 3) := by kernel_rfl

section
variable (w : World) {ops : Array Oper} {rest : List Oper} {o : Oper} {a : Act} {Q : Exit → Act → World → Prop}

/-- append of one word -/
theorem wpList_appI (hg : o.guard = none) (s x : Operand) (ho : o.op = .call { callee := .builtin .append, args := #[s, x], argTypes := #[94, 94] })
    (base : Nat) (v : Value) (L : List Nat) (hs : a.eval s = v) (hown : OwnI w base v L) (p y : Nat) (hx : a.eval x = .slice (some ⟨p, 0, none⟩) 1 1) (hc : w.cell? ⟨p, 0, none⟩ = some (.int .i64 (y : Nat))) (hy : y < 9223372036854775808)
    (hbase : base ≤ w.heap.size) (hlen : L.length ≤ 1000000000)
    (hK : ∀ v' w', OwnI w' base v' (L ++ [y]) → w.grownBy w' v.ownBlock → wpList Tryz.prog ops Q rest (a.put o.dst v') w') : wpList Tryz.prog ops Q (o :: rest) a w := by
  obtain ⟨i0, hi, hz0, hz1, hz2⟩ := info_parts infoI
  refine wpList_append_own w hg s x 94 ho base 3 i0 (.int .i64 0) 1 8 undI hi hz0 hz1 hz2 rfl (by decide) v L.length (cellsI L) hs hown.own ⟨p, 0, none⟩ 1 1 [.int .i64 (y : Nat)] hx rfl ?_ ?_ ?_ ?_ hbase ?_
  · intro j u hj
    cases j with
    | zero => simp at hj; subst hj; simpa [Addr.add] using hc
    | succ j => simp at hj
  · simp [Value.oneCell']
  · simp [maxLen]; omega
  · omega
  · intro v' w' ho hgr _
    refine hK v' w' ⟨?_, ?_⟩ hgr
    · intro z hz
      rcases List.mem_append.1 hz with hz | hz
      · exact hown.lt z hz
      · simp at hz; subst hz; exact hy
    · have e : cellsI (L ++ [y]) = cellsI L ++ [.int .i64 (y : Nat)] := by simp [cellsI]
      rw [e]; simpa using ho

end

end Go.Proofs.YtfdnhkjeoeffoaaGreatDoor
end

section
namespace Go.Proofs.YtfdnhkjeoeffoaaGreatDoor
open Go.RowKit
set_option linter.unusedVariables false

theorem size_any (s : ByteArray) (w : World) (hz : 0 < s.size) (hs : s.size ≤ 140737488351232) :
    Calls Tryz.prog 200 #[.string s] w fun e w' => e = .returned (.tuple #[.int .i64 ((sizeR s).1 : Nat), .int .i64 ((sizeR s).2 : Nat)]) ∧ w = w' := by
  have e : ∀ k, ∀ h : k < s.size, s[k].toNat = ch s k := fun k h => ch_in h
  have l := ch_lt s
  unfold sizeR
  by_cases h0 : ch s 0 < 128
  · exact size_ascii s w _ _ _ _ hz hs (e 0 hz) h0
  by_cases h1 : 194 ≤ ch s 0 ∧ ch s 0 ≤ 223
  · exact size_n2 s w _ _ _ _ hz hs (e 0 hz) (l 0) h1 (l 1) (e 1)
  by_cases h2 : 224 ≤ ch s 0 ∧ ch s 0 ≤ 239
  · exact size_n3 s w _ _ _ _ hz hs (e 0 hz) (l 0) h2 (l 1) (e 1) (l 2) (e 2)
  by_cases h3 : 240 ≤ ch s 0 ∧ ch s 0 ≤ 244
  · exact size_n4 s w _ _ _ _ hz hs (e 0 hz) (l 0) h3 (l 1) (e 1) (l 2) (e 2) (l 3) (e 3)
  · exact size_none s w _ _ _ _ hz hs (e 0 hz) h0 h1 h2 h3 (l 0)

set_option maxHeartbeats 8000000 in
set_option maxRecDepth 1000000 in
theorem Next1_any (s : ByteArray) (m : Nat) (b : Bool) (w : World) (hm : m < s.size) (hs : s.size ≤ 140737488351232) :
    Calls Tryz.prog 133 #[.string s, .int .i64 (m : Int), .bool b] w fun e w' => e = .returned (.tuple #[.int .i64 ((nxt s m b).1 : Nat), .int .i64 ((nxt s m b).2 : Nat)]) ∧ w = w' := by
  have hI : (m : Int) < (s.size : Int) := by omega
  have hI0 : decide ((m : Int) < 0) = false := by simp
  have hS : (s.size : Int) ≤ 140737488351232 := by omega
  have hcc : s[m].toNat = ch s m := ch_in hm
  have hch := ch_lt s m
  cases b
  · have hz : 0 < (s.extract m s.size).size := by rw [ByteArray.size_extract]; omega
    have HSz := Lib.hid (fun W => size_any (s.extract m s.size) W hz (by rw [ByteArray.size_extract]; omega))
    have hx := nxt_ref s m hm
    unfold nxtR at hx
    rw [ch_extract] at hx
    rw [hx]
    have hw := nxt_width false hm
    rw [hx] at hw
    clear hx
    obtain ⟨⟨k, r⟩, hkr⟩ : ∃ x, x = sizeR (s.extract m s.size) := ⟨_, rfl⟩
    rw [← hkr] at HSz hw
    rw [← hkr]
    clear hkr
    dsimp only at HSz hw
    generalize ch s m = c at *
    by_cases hk : k = 0
    · subst hk
      rw [if_pos rfl]
      go_enter Tryz.func133, Tryz.ntmps133
      go_wp2_with fail
      refine (HSz.out _).mono ?_
      rintro e _ ⟨rfl, rfl⟩
      go_wp2_with fail
      go_ret2
      exact ⟨by simp, rfl⟩
    · rw [if_neg hk]
      have hkb : ((k : Int) == 0) = false := by simp; omega
      go_enter Tryz.func133, Tryz.ntmps133
      go_wp2_with fail
      refine (HSz.out _).mono ?_
      rintro e _ ⟨rfl, rfl⟩
      go_wp2_with fail
      go_ret2
      exact ⟨rfl, rfl⟩
  · have hx : nxt s m true = (ch s m, 1) := rfl
    rw [hx]
    generalize ch s m = c at *
    go_enter Tryz.func133, Tryz.ntmps133
    go_wp2_with fail
    go_ret2
    exact ⟨rfl, rfl⟩

set_option maxHeartbeats 8000000 in
set_option maxRecDepth 1000000 in
theorem Starts_any (s : ByteArray) (b : Bool) (w : World) (hs : s.size ≤ 900000000) :
    Calls Tryz.prog 74 #[.string s, .bool b] w fun e w' => ∃ v, e = .returned v ∧ OwnI w' w.heap.size v (startsL s b 0) ∧ Below w.heap.size w w' := by
  have HNx := Lib.hid (fun m W hm => Next1_any s m b W hm (by omega))
  have hsI : (s.size : Int) ≤ 900000000 := by omega
  go_enter Tryz.func74, Tryz.ntmps74
  go_wp2_with fail
  go_loopw [5, 6] (fun o i wr => ∃ (m : Nat) (L : List Nat), i = .int .i64 (m : Nat) ∧ m ≤ s.size ∧ L.length ≤ m ∧ Hid (L ++ startsL s b m = startsL s b 0) ∧ Hid (OwnI wr w.heap.size o L) ∧ Hid (Below w.heap.size w wr)) (fun _ i _ => s.size - (intOf i).toNat)
  case atStart => exact ⟨0, [], rfl, Nat.zero_le _, Nat.zero_le _, rfl, OwnI.nil _ _, Below.refl _ _⟩
  case round =>
    obtain ⟨m, L, rfl, hm, hL, HE, HO, HB⟩ := hrel
    rcases Nat.lt_or_ge m s.size with hlt | hge
    · have hI : (m : Int) < (s.size : Int) := by omega
      have HE1 : Hid ((L ++ [m]) ++ startsL s b (m + (nxt s m b).2) = startsL s b 0) := by
        show _ = _
        rw [← HE.out, starts_step hlt]
        simp
      have HN := Lib.hid (fun W => HNx.out m W hlt)
      have hw := nxt_width b hlt
      have hin := nxt_in s m b hlt
      obtain ⟨⟨c, k⟩, hck⟩ : ∃ x, x = nxt s m b := ⟨_, rfl⟩
      rw [← hck] at HE1 HN hw hin
      clear hck HE
      dsimp only at HE1 HN hw hin
      have hgs := HB.out.size
      have hLen : L.length ≤ 1000000000 := by omega
      go_wp2_with (
        at_builtin
        go_loud (refine wpList_appI _ rfl _ _ rfl w.heap.size _ L rfl (OwnI.alloc HO.out _) wr.heap.size m rfl (by simp [go_sem]) (by omega) (by simp; omega) (by omega) ?_)
        intro v1 w3 hown1 hgr1
        have HO1 := Lib.hid hown1
        have HB3 := Lib.hid ((HB.out.alloc hgs _).grown hgr1 (by simp; omega) (fun x hx => (HO.out.own.lt x hx).1))
        clear hown1 hgr1)
      go_wp2_with fail
      refine (HN.out _).mono ?_
      rintro e _ ⟨rfl, rfl⟩
      go_wp2_with fail
      go_roundw
      case rel => exact ⟨m + k, L ++ [m], by simp, by omega, by simp; omega, HE1, HO1, HB3⟩
      case measure => simp only [intOf]; omega
    · obtain rfl : m = s.size := by omega
      have HE1 : Hid (L ++ [s.size] = startsL s b 0) := by
        show _ = _
        rw [← HE.out, starts_end]
      have hgs := HB.out.size
      go_wp2_with (
        at_builtin
        go_loud (refine wpList_appI _ rfl _ _ rfl w.heap.size _ L rfl (OwnI.alloc HO.out _) wr.heap.size s.size rfl (by simp [go_sem]) (by omega) (by simp; omega) (by omega) ?_)
        intro v1 w3 hown1 hgr1
        have HO1 := Lib.hid hown1
        have HB3 := Lib.hid ((HB.out.alloc hgs _).grown hgr1 (by simp; omega) (fun x hx => (HO.out.own.lt x hx).1))
        clear hown1 hgr1)
      go_wp2_with fail
      go_ret
      exact ⟨_, rfl, HE1.out ▸ HO1.out, HB3.out⟩

end Go.Proofs.YtfdnhkjeoeffoaaGreatDoor
end

section
namespace Go.Proofs.YtfdnhkjeoeffoaaGreatDoor
open Go.RowKit
set_option linter.unusedVariables false

theorem starts_get (s : ByteArray) (b : Bool) (j : Nat) (h : j ≤ (chars s b 0).length) : (startsL s b 0)[j]? = some (placeC s b j) := by
  unfold startsL placeC
  rcases Nat.lt_or_ge j (chars s b 0).length with h' | h'
  · rw [List.getElem?_append_left (by simpa using h'), List.getElem?_map, List.getElem?_eq_getElem h']
    rfl
  · have e : j = (chars s b 0).length := by omega
    subst e
    rw [List.getElem?_append_right (by simp), List.getElem?_eq_none (Nat.le_refl _)]
    simp
end Go.Proofs.YtfdnhkjeoeffoaaGreatDoor
end

section
namespace Go.Proofs.YtfdnhkjeoeffoaaGreatDoor
open Go.RowKit
set_option linter.unusedVariables false

theorem replicate_snoc {α : Type} (j : Nat) (c : α) : List.replicate j c ++ [c] = List.replicate (j + 1) c := by
  rw [← List.replicate_succ']
end Go.Proofs.YtfdnhkjeoeffoaaGreatDoor
end
