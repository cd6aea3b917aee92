/- Package num: Literal at any text. -/
import Derived.Test.YtcmpdamfeoaapaaGreatDoorR20
import Derived.Test.YtcmpdamfeoaapaaGreatDoorM5
namespace Go.Proofs.YtcmpdamfeoaapaaGreatDoor
open Go.RowKit
set_option linter.unusedVariables false

theorem two_len {l p : List UInt8} (h : Lib.hasPrefix l p = true) : p.length ≤ l.length := by
  unfold Lib.hasPrefix at h
  exact (List.isPrefixOf_iff_prefix.1 h).length_le
set_option maxRecDepth 100000 in
set_option maxHeartbeats 8000000 in
theorem Literal_any (s : ByteArray) (w : World) (hs : s.size ≤ 100000) :
    Calls Tryz.prog 12 #[.string s] w fun e w' => e = .returned (.tuple #[.float .f64 (litV s.data.toList), .int .i64 (litN s.data.toList : Nat)]) ∧ Below w.heap.size w w' := by
  have hl : s.data.toList.length = s.size := (size_list s).symm
  obtain ⟨A3, X3, M, hnum⟩ : ∃ A3 X3 M, numeralL s.data.toList = (A3, X3, M) := ⟨_, _, _, rfl⟩
  have hnf := numeralL_facts s.data.toList
  have hnl := numeralL_len s.data.toList
  obtain ⟨X, N, hhex⟩ : ∃ X N, hexR (hexL s.data.toList) 0 0 = (X, N) := ⟨_, _, rfl⟩
  have hbase := base_hex s.data.toList
  have hN13 := (hexR_ge (hexL s.data.toList) 0 0).2
  have hN14 := hexL_len s.data.toList
  have HNm := Lib.hid (fun W => numeral_any s W (by omega))
  rw [hhex] at hbase hN13
  simp only [hnum] at hnf hnl HNm
  have hN3 : N ≤ 1000 := by simp only [] at hN13; omega
  have HRd : Hid (∀ (a : ByteArray) (W : World), a.data.toList = A3 → Calls Tryz.prog 49 #[.string a, .int .i64 X3] W fun e w' => e = .returned (.float .f64 (readN A3 X3)) ∧ Below W.heap.size W w') := fun a W h => by
    have hz : a.size ≤ 140737488355328 := by rw [size_list, h]; omega
    have := read_any a X3 W (by rw [h]; exact hnf.1) hz (by omega) (by omega)
    rw [h] at this; exact this
  have HV1 : Hid ((Lib.hasPrefix s.data.toList [48, 120] || Lib.hasPrefix s.data.toList [48, 88]) = true → 0 < N → litV s.data.toList = ofN X ∧ litN s.data.toList = 2 + N) := fun h1 h2 => by
    have : isHex s.data.toList = true := by unfold isHex; rw [h1, hhex]; simpa using h2
    unfold litV litN
    rw [this, if_pos rfl, if_pos rfl, hhex]
    exact ⟨rfl, rfl⟩
  have HV2 : Hid (((Lib.hasPrefix s.data.toList [48, 120] || Lib.hasPrefix s.data.toList [48, 88]) = false ∨ N = 0) → litV s.data.toList = (if M = 0 then 0 else readN A3 X3) ∧ litN s.data.toList = M) := fun h1 => by
    have : isHex s.data.toList = false := by
      unfold isHex; rw [hhex]
      rcases h1 with h | h
      · rw [h]; rfl
      · rw [h]; simp
    unfold litV litN
    rw [this, if_neg Bool.false_ne_true, if_neg Bool.false_ne_true, hnum]
    exact ⟨rfl, rfl⟩
  generalize litV s.data.toList = LV at *
  generalize litN s.data.toList = LN at *
  have hP1 := Lib.hid (fun W => Tryz.strings_HasPrefix s ⟨#[48, 120]⟩ W)
  have hP2 := Lib.hid (fun W => Tryz.strings_HasPrefix s ⟨#[48, 88]⟩ W)
  obtain ⟨z, hz⟩ : ∃ z, z = min s.size 15 := ⟨_, rfl⟩
  have hz2 : min (s.size : Int) 15 = (z : Int) := by omega
  have hs3 : z ≤ s.size := by omega
  have hd : (s.extract 2 z).data.toList = hexL s.data.toList := by
    unfold hexL
    rw [ByteArray.data_extract, Array.toList_extract, List.extract_eq_take_drop, hz, List.drop_take]
    rcases Nat.lt_or_ge s.size 15 with h5 | h5
    · rw [Nat.min_eq_left (by omega), List.take_of_length_le (by rw [List.length_drop]; omega), List.take_of_length_le (by rw [List.length_drop]; omega)]
    · rw [Nat.min_eq_right h5]
  rw [← hd] at hbase
  have HB := Lib.hid (fun W => base_any (s.extract 2 z) (ofN X) N W (by rw [ByteArray.size_extract]; omega) hbase)
  rw [show hexS = ⟨#[48, 49, 50, 51, 52, 53, 54, 55, 56, 57, 97, 98, 99, 100, 101, 102]⟩ from rfl] at HB
  have H2 : ∀ b : Nat, b = 2 → (Lib.hasPrefix s.data.toList [48, 120] = true ∨ Lib.hasPrefix s.data.toList [48, 88] = true) → b ≤ z := by
    rintro b rfl h
    have : 2 ≤ s.data.toList.length := by rcases h with h | h <;> exact two_len h
    omega
  clear hbase hd hN13 hN14 hnum hhex hnf hnl hl hz
  cases ha : Lib.hasPrefix s.data.toList [48, 120]
  · cases hb : Lib.hasPrefix s.data.toList [48, 88]
    · by_cases hM : M = 0
      · have HV := Lib.hid (HV2.out (.inl (by rw [ha, hb]; rfl)))
        rw [if_pos hM] at HV
        have hMI : ((M : Int) == 0) = true := by rw [beq_iff_eq]; omega
        have hM2 : Hid (M = 0) := hM
        clear hM
        go_enter Tryz.func12, Tryz.ntmps12
        go_wp2_with fail
        refine (hP1.out _).mono ?_
        rintro e _ ⟨rfl, rfl⟩
        rw [ha]
        clear ha hP1
        go_wp2_with fail
        refine (hP2.out _).mono ?_
        rintro e _ ⟨rfl, rfl⟩
        rw [hb]
        clear hb hP2
        go_wp2_with fail
        refine (HNm.out _).mono ?_
        rintro e w1 ⟨a, rfl, ha3, hb1⟩
        have HA := Lib.hid (fun W => HRd.out a W ha3)
        have HB1 := Lib.hid hb1
        have hs1 := hb1.size
        clear hb1 ha3
        go_wp2_with fail
        go_ret2
        exact ⟨by rw [HV.out.1, HV.out.2, hM2.out]; rfl, HB1.out⟩
      · have HV := Lib.hid (HV2.out (.inl (by rw [ha, hb]; rfl)))
        rw [if_neg hM] at HV
        have hMI : ((M : Int) == 0) = false := beq_eq_false_iff_ne.2 (by omega)
        clear hM
        go_enter Tryz.func12, Tryz.ntmps12
        go_wp2_with fail
        refine (hP1.out _).mono ?_
        rintro e _ ⟨rfl, rfl⟩
        rw [ha]
        clear ha hP1
        go_wp2_with fail
        refine (hP2.out _).mono ?_
        rintro e _ ⟨rfl, rfl⟩
        rw [hb]
        clear hb hP2
        go_wp2_with fail
        refine (HNm.out _).mono ?_
        rintro e w1 ⟨a, rfl, ha3, hb1⟩
        have HA := Lib.hid (fun W => HRd.out a W ha3)
        have HB1 := Lib.hid hb1
        have hs1 := hb1.size
        clear hb1 ha3
        go_wp2_with fail
        refine (HA.out _).mono ?_
        rintro e w2 ⟨rfl, hb2⟩
        have HB2 := Lib.hid (HB1.out.trans (hb2.mono hs1))
        clear hb2
        go_wp2_with fail
        go_ret2
        exact ⟨by rw [HV.out.1, HV.out.2]; rfl, HB2.out⟩
    · have h2z : 2 ≤ z := H2 2 rfl (.inr hb)
      clear H2
      by_cases hN : N = 0
      · by_cases hM : M = 0
        · have HV := Lib.hid (HV2.out (.inr hN))
          rw [if_pos hM] at HV
          have hMI : ((M : Int) == 0) = true := by rw [beq_iff_eq]; omega
          have hM2 : Hid (M = 0) := hM
          clear hM
          have hNI : decide (0 < (N : Int)) = false := by simp; omega
          have hNJ : (N : Int) ≤ 0 := by omega
          clear hN
          go_enter Tryz.func12, Tryz.ntmps12
          go_wp2_with fail
          refine (hP1.out _).mono ?_
          rintro e _ ⟨rfl, rfl⟩
          rw [ha]
          clear ha hP1
          go_wp2_with fail
          refine (hP2.out _).mono ?_
          rintro e _ ⟨rfl, rfl⟩
          rw [hb]
          clear hb hP2
          go_wp2_with fail
          refine (HB.out _).mono ?_
          rintro e _ ⟨rfl, rfl⟩
          go_wp2_with fail
          refine (HNm.out _).mono ?_
          rintro e w1 ⟨a, rfl, ha3, hb1⟩
          have HA := Lib.hid (fun W => HRd.out a W ha3)
          have HB1 := Lib.hid hb1
          have hs1 := hb1.size
          clear hb1 ha3
          go_wp2_with fail
          go_ret2
          exact ⟨by rw [HV.out.1, HV.out.2, hM2.out]; rfl, HB1.out⟩
        · have HV := Lib.hid (HV2.out (.inr hN))
          rw [if_neg hM] at HV
          have hMI : ((M : Int) == 0) = false := beq_eq_false_iff_ne.2 (by omega)
          clear hM
          have hNI : decide (0 < (N : Int)) = false := by simp; omega
          have hNJ : (N : Int) ≤ 0 := by omega
          clear hN
          go_enter Tryz.func12, Tryz.ntmps12
          go_wp2_with fail
          refine (hP1.out _).mono ?_
          rintro e _ ⟨rfl, rfl⟩
          rw [ha]
          clear ha hP1
          go_wp2_with fail
          refine (hP2.out _).mono ?_
          rintro e _ ⟨rfl, rfl⟩
          rw [hb]
          clear hb hP2
          go_wp2_with fail
          refine (HB.out _).mono ?_
          rintro e _ ⟨rfl, rfl⟩
          go_wp2_with fail
          refine (HNm.out _).mono ?_
          rintro e w1 ⟨a, rfl, ha3, hb1⟩
          have HA := Lib.hid (fun W => HRd.out a W ha3)
          have HB1 := Lib.hid hb1
          have hs1 := hb1.size
          clear hb1 ha3
          go_wp2_with fail
          refine (HA.out _).mono ?_
          rintro e w2 ⟨rfl, hb2⟩
          have HB2 := Lib.hid (HB1.out.trans (hb2.mono hs1))
          clear hb2
          go_wp2_with fail
          go_ret2
          exact ⟨by rw [HV.out.1, HV.out.2]; rfl, HB2.out⟩
      · have hNI : 0 < (N : Int) := by omega
        have HV := Lib.hid (HV1.out (by rw [ha, hb]; rfl) (by omega))
        clear hN
        go_enter Tryz.func12, Tryz.ntmps12
        go_wp2_with fail
        refine (hP1.out _).mono ?_
        rintro e _ ⟨rfl, rfl⟩
        rw [ha]
        clear ha hP1
        go_wp2_with fail
        refine (hP2.out _).mono ?_
        rintro e _ ⟨rfl, rfl⟩
        rw [hb]
        clear hb hP2
        go_wp2_with fail
        refine (HB.out _).mono ?_
        rintro e _ ⟨rfl, rfl⟩
        go_wp2_with fail
        go_ret2
        exact ⟨by rw [HV.out.1, HV.out.2]; rfl, Below.refl _ _⟩
  · have h2z : 2 ≤ z := H2 2 rfl (.inl ha)
    clear H2
    by_cases hN : N = 0
    · by_cases hM : M = 0
      · have HV := Lib.hid (HV2.out (.inr hN))
        rw [if_pos hM] at HV
        have hMI : ((M : Int) == 0) = true := by rw [beq_iff_eq]; omega
        have hM2 : Hid (M = 0) := hM
        clear hM
        have hNI : decide (0 < (N : Int)) = false := by simp; omega
        have hNJ : (N : Int) ≤ 0 := by omega
        clear hN
        go_enter Tryz.func12, Tryz.ntmps12
        go_wp2_with fail
        refine (hP1.out _).mono ?_
        rintro e _ ⟨rfl, rfl⟩
        rw [ha]
        clear ha hP1
        go_wp2_with fail
        refine (HB.out _).mono ?_
        rintro e _ ⟨rfl, rfl⟩
        go_wp2_with fail
        refine (HNm.out _).mono ?_
        rintro e w1 ⟨a, rfl, ha3, hb1⟩
        have HA := Lib.hid (fun W => HRd.out a W ha3)
        have HB1 := Lib.hid hb1
        have hs1 := hb1.size
        clear hb1 ha3
        go_wp2_with fail
        go_ret2
        exact ⟨by rw [HV.out.1, HV.out.2, hM2.out]; rfl, HB1.out⟩
      · have HV := Lib.hid (HV2.out (.inr hN))
        rw [if_neg hM] at HV
        have hMI : ((M : Int) == 0) = false := beq_eq_false_iff_ne.2 (by omega)
        clear hM
        have hNI : decide (0 < (N : Int)) = false := by simp; omega
        have hNJ : (N : Int) ≤ 0 := by omega
        clear hN
        go_enter Tryz.func12, Tryz.ntmps12
        go_wp2_with fail
        refine (hP1.out _).mono ?_
        rintro e _ ⟨rfl, rfl⟩
        rw [ha]
        clear ha hP1
        go_wp2_with fail
        refine (HB.out _).mono ?_
        rintro e _ ⟨rfl, rfl⟩
        go_wp2_with fail
        refine (HNm.out _).mono ?_
        rintro e w1 ⟨a, rfl, ha3, hb1⟩
        have HA := Lib.hid (fun W => HRd.out a W ha3)
        have HB1 := Lib.hid hb1
        have hs1 := hb1.size
        clear hb1 ha3
        go_wp2_with fail
        refine (HA.out _).mono ?_
        rintro e w2 ⟨rfl, hb2⟩
        have HB2 := Lib.hid (HB1.out.trans (hb2.mono hs1))
        clear hb2
        go_wp2_with fail
        go_ret2
        exact ⟨by rw [HV.out.1, HV.out.2]; rfl, HB2.out⟩
    · have hNI : 0 < (N : Int) := by omega
      have HV := Lib.hid (HV1.out (by rw [ha]; rfl) (by omega))
      clear hN
      go_enter Tryz.func12, Tryz.ntmps12
      go_wp2_with fail
      refine (hP1.out _).mono ?_
      rintro e _ ⟨rfl, rfl⟩
      rw [ha]
      clear ha hP1
      go_wp2_with fail
      refine (HB.out _).mono ?_
      rintro e _ ⟨rfl, rfl⟩
      go_wp2_with fail
      go_ret2
      exact ⟨by rw [HV.out.1, HV.out.2]; rfl, Below.refl _ _⟩
end Go.Proofs.YtcmpdamfeoaapaaGreatDoor
