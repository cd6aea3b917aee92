/- thresherlaw03: DecWhole. -/
import Derived.Test.YtkpikkeblogdcaaDoorR12
namespace Go.Proofs.YtkpikkeblogdcaaDoor
open Go.RowKit
set_option linter.unusedVariables false

theorem bytes_ext {s t : ByteArray} (h : s.data.toList = t.data.toList) : s = t := by
  cases s; cases t
  simp only at h
  rw [Array.toList_inj.1 h]

/-- so many noughts -/
def zb (j : Nat) : ByteArray := ⟨(List.replicate j 48).toArray⟩
theorem zb_list (j : Nat) : (zb j).data.toList = List.replicate j 48 := by simp [zb]
theorem zb_size (j : Nat) : (zb j).size = j := by
  have h := congrArg List.length (zb_list j)
  simpa using h
theorem zb_succ (j : Nat) : zb j ++ ⟨#[48]⟩ = zb (j + 1) := bytes_ext (by simp [zb_list, List.replicate_succ'])

set_option maxRecDepth 100000 in
set_option maxHeartbeats 4000000 in
theorem whole_any (n0 : Nat) (k0 : Int) (w : World) (hn : n0 < 18446744073709551616) (hk1 : -9223372036854775808 ≤ k0) (hk2 : k0 ≤ 9223372036854775807) :
    Calls Tryd.prog 7 #[.int .u64 n0, .int .i64 k0] w fun e w' => e = .returned (.bool true) ∧ Below w.heap.size w w' := by
  obtain ⟨n, hn1⟩ : ∃ n, n = n0 % 9007199254740992 := ⟨_, rfl⟩
  have en : (n0 : Int) % 9007199254740992 = (n : Int) := by omega
  have hnl : n < 9007199254740992 := by omega
  obtain ⟨k, hk⟩ : ∃ k : Nat, (k : Int) = min (max k0 0) 20 := ⟨(min (max k0 0) 20).toNat, by omega⟩
  have ek : min (max k0 0) 20 = (k : Int) := hk.symm
  have hkl : k ≤ 20 := by omega
  clear hk hk1 hk2 hn1
  obtain ⟨hB, hV⟩ := whole_bits hnl
  obtain ⟨B, hBe⟩ : ∃ B, B = FloatKind.f64.nearest (n : Int) := ⟨_, rfl⟩
  have eB : floatOfInt FloatKind.f64 (n : Int) = B := hBe.symm
  rw [← hBe] at hB hV
  have hfin : fin B = true := (fin_lt_inf (by omega)).2 hB
  have HF0 := Lib.hid (fun W => Fixed_ok B 0 W (by omega) hfin (by omega))
  have HFk := Lib.hid (fun W => Fixed_ok B k W (by omega) hfin (by omega))
  have hS0 : scaledN B ((0 : Nat) : Int) = n := by rw [scaledN_whole 0 hB hV, Nat.pow_zero, Nat.mul_one]
  have hSk := scaledN_whole k hB hV
  have HV := Lib.hid hV
  have HT := Lib.hid (fun W => text_any n W (by omega))
  have ho := order_eq (Nat.le_of_lt hB)
  clear hV hBe hfin
  go_enter Tryd.func7, Tryd.ntmps7
  go_wp2_with fail
  refine (fixed_any w).mono ?_
  rintro e w1 ⟨rfl, hb1⟩
  have HB1 := Lib.hid hb1
  have hs1 := hb1.size
  clear hb1
  go_wp2_with fail
  refine (HF0.out w1).mono ?_
  rintro e w2 ⟨s, l0, rfl, hc0, hs0, hb2⟩
  rw [hS0] at hc0
  rw [fixedL_zero hc0.ne] at hs0
  rw [← hs0] at hc0
  have HC := Lib.hid hc0
  have HB2 := Lib.hid (HB1.out.trans (hb2.mono hs1))
  have hs2 := hb2.size
  clear hb2 HB1 hc0 hs0 HF0
  go_wp2_with fail
  refine (HFk.out w2).mono ?_
  rintro e w3 ⟨t, l2, rfl, hc2, ht2, hb3⟩
  have HB3 := Lib.hid (HB2.out.trans (hb3.mono (by omega)))
  have hs3 := hb3.size
  rw [hSk] at hc2
  have HT2 : Hid ((k = 0 → t = s) ∧ (0 < k → t = s ++ ⟨#[46]⟩ ++ (zb k))) := by
    refine ⟨fun h => ?_, fun h => ?_⟩
    · subst h
      rw [Nat.pow_zero, Nat.mul_one] at hc2
      rw [fixedL_zero hc2.ne] at ht2
      exact bytes_ext (by rw [ht2, canon_unique hc2 HC.out])
    · rw [fixedL_whole HC.out hc2 h] at ht2
      exact bytes_ext (by rw [ht2]; simp [zb])
  clear hb3 HB2 hc2 ht2 HFk hSk hS0
  go_wp2_with fail
  go_loop [9, 10] (fun z i => ∃ j : Nat, j ≤ k ∧ i = .int .i64 j ∧ z = .string (zb j)) (fun _ i => k - (intOf i).toNat)
  case atStart => exact ⟨0, Nat.zero_le _, rfl, rfl⟩
  case round =>
    obtain ⟨j, hj, rfl, rfl⟩ := hrel
    by_cases hlt : j < k
    · have hji : (j : Int) < (k : Int) := by omega
      have hzs : (zb j).size ≤ 20 := by rw [zb_size]; omega
      go_wp2_with fail
      go_round
      case rel => exact ⟨j + 1, by omega, by go_num, by rw [zb_succ]⟩
      case measure => simp [intOf]; omega
    · obtain rfl : j = k := by omega
      go_wp2_with fail
      refine (HT.out w3).mono ?_
      rintro e w4 ⟨s', rfl, hc4, hl4, hb4⟩
      obtain rfl : s' = s := bytes_ext (canon_unique hc4 HC.out)
      have HB4 := Lib.hid (HB3.out.trans (hb4.mono (by omega)))
      have hs4 := hb4.size
      have hsl : s'.size ≤ 20 := by simpa using hl4
      have hzs : (zb j).size ≤ 20 := by rw [zb_size]; omega
      have hR : Hid (∀ W, Calls Tryd.prog 14 #[.string (zb j ++ s' ++ zb j), .int .i64 (-(j : Int))] W fun e w' => e = .returned (.tuple #[.float .f64 B, .int .i64 0]) ∧ Below W.heap.size W w') := by
        intro W
        have hd : (zb j ++ s' ++ zb j : ByteArray).data.toList = List.replicate j 48 ++ s'.data.toList ++ List.replicate j 48 := by simp [zb_list]
        have h := Read_ok (zb j ++ s' ++ zb j) (-(j : Int)) W (by rw [hd]; intro h; have h3 := List.length_pos_iff.2 hc4.ne; have h2 := congrArg List.length h; rw [List.length_append, List.length_append, List.length_nil] at h2; omega) (by
          rw [hd]; intro c hc
          rcases List.mem_append.1 hc with h | h
          · rcases List.mem_append.1 h with h | h
            · exact zeros_digits _ c h
            · exact hc4.dig c h
          · exact zeros_digits _ c h) (by rw [hd, List.length_append, List.length_append, List.length_replicate]; omega) (by omega) (by omega)
        rw [hd, readB_whole hc4 hl4 hkl hB HV.out] at h
        exact h
      clear hb4 HB3 hc4 hl4 HC HT HV
      rcases Nat.eq_zero_or_pos j with h0 | h0
      · have htt := HT2.out.1 h0
        subst h0 htt
        clear HT2
        have hR0 := hR.out w4
        rw [show (-((0 : Nat) : Int)) = 0 by rfl] at hR0
        clear hR
        go_wp2_with fail
        refine hR0.mono ?_
        rintro e w5 ⟨rfl, hb5⟩
        have HB5 := Lib.hid (HB4.out.trans (hb5.mono (by omega)))
        clear hb5 HB4 hR0
        go_wp2_with fail
        go_ret
        exact ⟨rfl, HB5.out⟩
      · have htt := HT2.out.2 h0
        subst htt
        have h0' : 0 < (j : Int) := by omega
        clear HT2
        go_wp2_with fail
        refine (hR.out w4).mono ?_
        rintro e w5 ⟨rfl, hb5⟩
        have HB5 := Lib.hid (HB4.out.trans (hb5.mono (by omega)))
        clear hb5 HB4 hR
        go_wp2_with fail
        go_ret
        exact ⟨rfl, HB5.out⟩
end Go.Proofs.YtkpikkeblogdcaaDoor
