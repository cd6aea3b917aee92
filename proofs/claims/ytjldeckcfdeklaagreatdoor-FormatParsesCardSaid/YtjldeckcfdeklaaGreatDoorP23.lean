/- The document's answer of package format: at, in, figure. -/
import Derived.Test.YtjldeckcfdeklaaGreatDoorP4
import Derived.Test.YtjldeckcfdeklaaGreatDoorM3
namespace Go.Proofs.YtjldeckcfdeklaaGreatDoor
open Go.RowKit
set_option linter.unusedVariables false

set_option maxRecDepth 100000 in
theorem at_any (s : ByteArray) (i : Int) (w : World) : Calls Tryz.prog 42 #[.string s, .int .i64 i] w fun e w' => e = .returned (.int .u8 (chr s i)) ∧ w = w' := by
  obtain ⟨c, hc⟩ : ∃ c, c = chr s i := ⟨_, rfl⟩
  rw [← hc]
  have HC := Lib.hid hc
  clear hc
  rcases Int.lt_or_le i 0 with h | h
  · have h0 : c = 0 := by rw [HC.out]; unfold chr; rw [if_pos h]
    subst h0
    clear HC
    go_enter Tryz.func42, Tryz.ntmps42
    go_wp2_with fail
    go_ret
    exact ⟨rfl, rfl⟩
  · obtain ⟨k, rfl⟩ : ∃ k : Nat, i = (k : Int) := ⟨i.toNat, by omega⟩
    rw [chr_nat] at HC
    have hneg : decide ((k : Int) < 0) = false := by simp
    rcases Nat.lt_or_ge k s.size with hk | hk
    · have hI : (k : Int) < (s.size : Int) := by omega
      have hcc : s[k].toNat = c := by rw [HC.out]; exact ch_in hk
      go_enter Tryz.func42, Tryz.ntmps42
      go_wp2_with fail
      go_ret
      exact ⟨rfl, rfl⟩
    · have h0 : c = 0 := by rw [HC.out]; exact ch_out hk
      have hI : (s.size : Int) ≤ (k : Int) := by omega
      subst h0
      clear HC
      go_enter Tryz.func42, Tryz.ntmps42
      go_wp2_with fail
      go_ret
      exact ⟨rfl, rfl⟩

/-- is the byte one of a text's -/
def inL (c : Nat) (t : ByteArray) : Bool := t.data.toList.any fun x => x.toNat == c
theorem any_take (t : ByteArray) (c k : Nat) (h : ∀ j, j < k → ch t j ≠ c) (hk : k = t.size) : inL c t = false := by
  unfold inL
  rw [List.any_eq_false]
  intro x hx
  obtain ⟨j, hj, rfl⟩ := List.mem_iff_getElem.1 hx
  have := h j (by rw [hk, sz_list]; exact hj)
  unfold ch at this
  rw [List.getD_eq_getElem?_getD, List.getElem?_eq_getElem hj] at this
  simpa using this
theorem any_at (t : ByteArray) (c k : Nat) (hk : k < t.size) (h : ch t k = c) : inL c t = true := by
  unfold inL
  rw [List.any_eq_true]
  have hl : k < t.data.toList.length := by rw [← sz_list]; exact hk
  refine ⟨t.data.toList[k], List.getElem_mem hl, ?_⟩
  unfold ch at h
  rw [List.getD_eq_getElem?_getD, List.getElem?_eq_getElem hl] at h
  simpa using h
set_option maxRecDepth 100000 in
theorem in_any (c : Nat) (t : ByteArray) (w : World) (ht : t.size ≤ 1000000) : Calls Tryz.prog 43 #[.int .u8 (c : Int), .string t] w fun e w' => e = .returned (.bool (inL c t)) ∧ w = w' := by
  obtain ⟨B, hB⟩ : ∃ B, B = inL c t := ⟨_, rfl⟩
  rw [← hB]
  have HB := Lib.hid hB
  clear hB
  go_enter Tryz.func43, Tryz.ntmps43
  go_wp2_with fail
  go_loop [5] (fun iv => ∃ k : Nat, iv = .int .i64 k ∧ k ≤ t.size ∧ Hid (∀ j, j < k → ch t j ≠ c)) (fun iv => t.size - (intOf iv).toNat)
  case atStart => exact ⟨0, rfl, Nat.zero_le _, fun j hj => absurd hj (by omega)⟩
  case round =>
    obtain ⟨k, rfl, hk, HK⟩ := hrel
    rcases Nat.lt_or_ge k t.size with hlt | hge
    · have hI : (k : Int) < (t.size : Int) := by omega
      have hcc : t[k].toNat = ch t k := ch_in hlt
      have hs : (t.size : Int) ≤ 1000000 := by omega
      by_cases hx : ch t k = c
      · have hb : B = true := by rw [HB.out]; exact any_at t c k hlt hx
        rw [hx] at hcc
        subst hb
        clear HB hx
        go_wp2_with fail
        go_ret
        exact ⟨rfl, rfl⟩
      · have HX := Lib.hid hx
        have hn : ((ch t k : Int) == (c : Int)) = false := by simp; omega
        generalize hy : ch t k = y at *
        have HY := Lib.hid hy
        clear hy hx
        go_wp2_with fail
        refine ⟨⟨k + 1, by simp, hlt, fun j hj => ?_⟩, ?_⟩
        · rcases Nat.lt_or_ge j k with h | h
          · exact HK.out j h
          · obtain rfl : j = k := by omega
            rw [HY.out]
            exact HX.out
        · simp only [intOf]; omega
    · obtain rfl : k = t.size := by omega
      have hb : B = false := by rw [HB.out]; exact any_take t c _ HK.out rfl
      subst hb
      clear HB
      go_wp2_with fail
      go_ret
      exact ⟨rfl, rfl⟩

/-- the first six digits' number -/
def six (s : ByteArray) (i k : Nat) : Nat := digVal ((s.data.toList.drop i).take (min k 6))
theorem six_lt (s : ByteArray) (i k : Nat) (hk : k ≤ digN s i) : six s i k < 1000000 := by
  unfold six
  have hd : Digits ((s.data.toList.drop i).take (min k 6)) := by
    intro c hc
    have h1 := take_digits s i
    refine h1 c ?_
    have h2 : (s.data.toList.drop i).take (min k 6) = ((s.data.toList.drop i).take (digN s i)).take (min k 6) := by
      rw [List.take_take]
      congr 1
      omega
    rw [h2] at hc
    exact List.mem_of_mem_take hc
  have h3 := digVal_lt hd
  have h4 : ((s.data.toList.drop i).take (min k 6)).length ≤ 6 := by rw [List.length_take]; omega
  have h5 : 10 ^ ((s.data.toList.drop i).take (min k 6)).length ≤ 10 ^ 6 := Nat.pow_le_pow_right (by decide) h4
  have h6 : (10 : Nat) ^ 6 = 1000000 := by decide
  omega
theorem six_step (s : ByteArray) (i k : Nat) (hk : k < digN s i) (h6 : k < 6) : six s i (k + 1) = 10 * six s i k + (ch s (i + k) - 48) := by
  obtain ⟨x, h1, h2⟩ := takeWhile_at isDig _ k hk
  unfold six
  rw [Nat.min_eq_left (by omega), Nat.min_eq_left (by omega), List.take_add_one, h1, ch_get h1]
  exact digVal_snoc _ _
theorem six_stay (s : ByteArray) (i k : Nat) (h6 : 6 ≤ k) : six s i (k + 1) = six s i k := by
  unfold six
  rw [Nat.min_eq_right h6, Nat.min_eq_right (by omega)]

/-- where a figure ends; -1: too many digits -/
def figEnd (F : Int × Bool × Bool × Nat) (i : Nat) : Int := if F.2.2.1 = true then ((i + F.2.2.2 : Nat) : Int) else -1
set_option maxHeartbeats 4000000 in
set_option maxRecDepth 100000 in
theorem figure_any (s : ByteArray) (i : Nat) (w : World) (hi : i ≤ s.size) (hs : s.size ≤ 200000000000000) :
    Calls Tryz.prog 44 #[.string s, .int .i64 (i : Int)] w fun e w' => e = .returned (.tuple #[.int .i64 (figV s i).1, .bool (figV s i).2.1, .int .i64 (figEnd (figV s i) i)]) ∧ w = w' := by
  have HA := Lib.hid (fun (j : Nat) W => at_any s (j : Int) W)
  have hdn := digN_le s i
  obtain ⟨n, hn⟩ : ∃ n, n = digN s i := ⟨_, rfl⟩
  obtain ⟨F, hF⟩ : ∃ F, F = figV s i := ⟨_, rfl⟩
  rw [← hF]
  have HF := Lib.hid hF
  have HN := Lib.hid hn
  unfold figV at HF
  rw [← hn] at hdn HF
  have hi1 : (i : Int) ≤ 200000000000000 := by omega
  clear hF hn
  by_cases h42 : ch s i = 42
  · rw [h42, if_pos rfl] at HF
    have HX := Lib.hid (HA.out i w)
    rw [chr_nat, h42] at HX
    go_enter Tryz.func44, Tryz.ntmps44
    go_wp2_with fail
    refine HX.out.mono ?_
    rintro e _ ⟨rfl, rfl⟩
    go_wp2_with fail
    go_ret3
    rw [HF.out]
    exact ⟨rfl, rfl⟩
  · have h42' : ((ch s i : Int) == 42) = false := by simp; omega
    rw [if_neg h42] at HF
    have HX := Lib.hid (HA.out i w)
    rw [chr_nat] at HX
    generalize hc : ch s i = c at *
    clear hc h42
    go_enter Tryz.func44, Tryz.ntmps44
    go_wp2_with fail
    refine HX.out.mono ?_
    rintro e _ ⟨rfl, rfl⟩
    go_wp2_with fail
    go_loop [7, 8] (fun nv kv => ∃ k : Nat, k ≤ n ∧ nv = .int .i64 (six s i k : Nat) ∧ kv = .int .i64 ((i : Int) + (k : Int))) (fun _ kv => i + n - (intOf kv).toNat)
    case atStart => exact ⟨0, Nat.zero_le _, rfl, by simp⟩
    case round =>
      obtain ⟨k, hk, rfl, rfl⟩ := hrel
      have HY := Lib.hid (HA.out (i + k) w)
      rw [chr_nat, show ((i + k : Nat) : Int) = (i : Int) + (k : Int) by omega] at HY
      have hk1 : (k : Int) ≤ 200000000000000 := by omega
      have h6l := six_lt s i k (by rw [← HN.out]; exact hk)
      rcases Nat.lt_or_ge k n with hlt | hge
      · obtain ⟨d1, d2⟩ : 48 ≤ ch s (i + k) ∧ ch s (i + k) ≤ 57 := dig_at (by rw [← HN.out]; exact hlt)
        have hin : i + k < s.size := by omega
        have hcc : s[i + k].toNat = ch s (i + k) := ch_in hin
        have HS1 := Lib.hid (fun h6 => six_step s i k (by rw [← HN.out]; exact hlt) h6)
        have HS2 := Lib.hid (fun h6 => six_stay s i k h6)
        generalize six s i k = v at *
        generalize hx : ch s (i + k) = x at *
        have D1 : (48 : Int) ≤ (x : Int) := by omega
        have D2 : (x : Int) ≤ 57 := by omega
        have hinI : (i : Int) + (k : Int) < (s.size : Int) := by omega
        clear hx
        rcases Nat.lt_or_ge k 6 with h6 | h6
        · have H6 : (k : Int) < 6 := by omega
          go_wp2_with fail
          refine HY.out.mono ?_
          rintro e _ ⟨rfl, rfl⟩
          go_wp2_with fail
          refine HY.out.mono ?_
          rintro e _ ⟨rfl, rfl⟩
          go_wp2_with fail
          refine ⟨⟨k + 1, hlt, ?_, ?_⟩, ?_⟩
          · rw [HS1.out h6]
            refine congrArg (Value.int .i64) ?_
            omega
          · refine congrArg (Value.int .i64) ?_
            omega
          · simp only [intOf]
            omega
        · have H6 : (6 : Int) ≤ (k : Int) := by omega
          have H6b : decide ((i : Int) + (k : Int) - (i : Int) < 6) = false := by simp; omega
          go_wp2_with fail
          refine HY.out.mono ?_
          rintro e _ ⟨rfl, rfl⟩
          go_wp2_with fail
          refine HY.out.mono ?_
          rintro e _ ⟨rfl, rfl⟩
          go_wp2_with fail
          refine ⟨⟨k + 1, hlt, ?_, ?_⟩, ?_⟩
          · rw [HS2.out h6]
          · refine congrArg (Value.int .i64) ?_
            omega
          · simp only [intOf]
            omega
      · obtain rfl : k = n := by omega
        have hst := dig_stop s i
        rw [← HN.out] at hst
        have HV : Hid (k ≤ 5 → six s i k = digVal ((s.data.toList.drop i).take k)) := fun h => by unfold six; rw [Nat.min_eq_left (by omega)]
        generalize six s i k = v at *
        generalize ch s (i + k) = x at *
        rcases Nat.lt_or_ge 5 k with h5 | h5
        · have H5 : (5 : Int) < (k : Int) := by omega
          rw [if_pos h5] at HF
          rcases hst with hst | hst
          · have D1 : (x : Int) < 48 := by omega
            clear hst
            go_wp2_with fail
            refine HY.out.mono ?_
            rintro e _ ⟨rfl, rfl⟩
            go_wp2_with fail
            go_ret3
            rw [HF.out]
            exact ⟨rfl, rfl⟩
          · have D1 : (57 : Int) < (x : Int) := by omega
            have D2 : (48 : Int) ≤ (x : Int) := by omega
            clear hst
            go_wp2_with fail
            refine HY.out.mono ?_
            rintro e _ ⟨rfl, rfl⟩
            go_wp2_with fail
            refine HY.out.mono ?_
            rintro e _ ⟨rfl, rfl⟩
            go_wp2_with fail
            go_ret3
            rw [HF.out]
            exact ⟨rfl, rfl⟩
        · have H5 : decide ((5 : Int) < (i : Int) + (k : Int) - (i : Int)) = false := by simp; omega
          have H5b : (k : Int) ≤ 5 := by omega
          rw [if_neg (by omega), ← HV.out h5] at HF
          rcases hst with hst | hst
          · have D1 : (x : Int) < 48 := by omega
            clear hst
            go_wp2_with fail
            refine HY.out.mono ?_
            rintro e _ ⟨rfl, rfl⟩
            go_wp2_with fail
            go_ret3
            rw [HF.out]
            refine ⟨?_, rfl⟩
            simp [figEnd]
          · have D1 : (57 : Int) < (x : Int) := by omega
            have D2 : (48 : Int) ≤ (x : Int) := by omega
            clear hst
            go_wp2_with fail
            refine HY.out.mono ?_
            rintro e _ ⟨rfl, rfl⟩
            go_wp2_with fail
            refine HY.out.mono ?_
            rintro e _ ⟨rfl, rfl⟩
            go_wp2_with fail
            go_ret3
            rw [HF.out]
            refine ⟨?_, rfl⟩
            simp [figEnd]
end Go.Proofs.YtjldeckcfdeklaaGreatDoor
