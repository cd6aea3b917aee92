/- The document's answer of package num (thresherref04): hex, Literal. -/
import Derived.Test.YtcmpdamfeoaapaaGreatDoorQ20
import Derived.Test.YtcmpdamfeoaapaaGreatDoorQ24
namespace Go.Proofs.YtcmpdamfeoaapaaGreatDoor
open Go.RowKit
set_option linter.unusedVariables false

set_option maxRecDepth 100000 in
set_option maxHeartbeats 4000000 in
theorem hex_any (c : Nat) (w : World) (hc : c < 256) :
    Calls Tryz.prog 53 #[.int .u8 (c : Int)] w fun e w' => e = .returned (.int .i64 (hx c)) ∧ w = w' := by
  have HR : Hid (hx c = if 48 ≤ c ∧ c ≤ 57 then (c : Int) - 48 else if 97 ≤ c ∧ c ≤ 102 then (c : Int) - 87 else if 65 ≤ c ∧ c ≤ 70 then (c : Int) - 55 else -1) := rfl
  generalize hx c = R at *
  by_cases h0 : c < 48
  · have hR := HR.out
    rw [if_neg (by omega), if_neg (by omega), if_neg (by omega)] at hR
    have HR2 := Lib.hid hR
    have g48 : decide ((48 : Int) ≤ (c : Int)) = false := by simp; omega
    have i48 : (c : Int) < 48 := by omega
    have g97 : decide ((97 : Int) ≤ (c : Int)) = false := by simp; omega
    have i97 : (c : Int) < 97 := by omega
    have g65 : decide ((65 : Int) ≤ (c : Int)) = false := by simp; omega
    have i65 : (c : Int) < 65 := by omega
    have l57 : (c : Int) ≤ 57 := by omega
    have l102 : (c : Int) ≤ 102 := by omega
    have l70 : (c : Int) ≤ 70 := by omega
    clear hR HR
    clear h0
    go_enter Tryz.func53, Tryz.ntmps53
    go_wp2_with fail
    go_ret
    exact ⟨by rw [HR2.out]; rfl, rfl⟩
  · by_cases h1 : c ≤ 57
    · have hR := HR.out
      rw [if_pos (by omega)] at hR
      have HR2 := Lib.hid hR
      have g48 : (48 : Int) ≤ (c : Int) := by omega
      have g97 : decide ((97 : Int) ≤ (c : Int)) = false := by simp; omega
      have i97 : (c : Int) < 97 := by omega
      have g65 : decide ((65 : Int) ≤ (c : Int)) = false := by simp; omega
      have i65 : (c : Int) < 65 := by omega
      have l57 : (c : Int) ≤ 57 := by omega
      have l102 : (c : Int) ≤ 102 := by omega
      have l70 : (c : Int) ≤ 70 := by omega
      clear hR HR
      clear h0 h1
      go_enter Tryz.func53, Tryz.ntmps53
      go_wp2_with fail
      go_ret
      exact ⟨by rw [HR2.out]; go_num, rfl⟩
    · by_cases h2 : c < 65
      · have hR := HR.out
        rw [if_neg (by omega), if_neg (by omega), if_neg (by omega)] at hR
        have HR2 := Lib.hid hR
        have g48 : (48 : Int) ≤ (c : Int) := by omega
        have g97 : decide ((97 : Int) ≤ (c : Int)) = false := by simp; omega
        have i97 : (c : Int) < 97 := by omega
        have g65 : decide ((65 : Int) ≤ (c : Int)) = false := by simp; omega
        have i65 : (c : Int) < 65 := by omega
        have l57 : decide ((c : Int) ≤ 57) = false := by simp; omega
        have j57 : (57 : Int) < (c : Int) := by omega
        have l102 : (c : Int) ≤ 102 := by omega
        have l70 : (c : Int) ≤ 70 := by omega
        clear hR HR
        clear h0 h1 h2
        go_enter Tryz.func53, Tryz.ntmps53
        go_wp2_with fail
        go_ret
        exact ⟨by rw [HR2.out]; rfl, rfl⟩
      · by_cases h3 : c ≤ 70
        · have hR := HR.out
          rw [if_neg (by omega), if_neg (by omega), if_pos (by omega)] at hR
          have HR2 := Lib.hid hR
          have g48 : (48 : Int) ≤ (c : Int) := by omega
          have g97 : decide ((97 : Int) ≤ (c : Int)) = false := by simp; omega
          have i97 : (c : Int) < 97 := by omega
          have g65 : (65 : Int) ≤ (c : Int) := by omega
          have l57 : decide ((c : Int) ≤ 57) = false := by simp; omega
          have j57 : (57 : Int) < (c : Int) := by omega
          have l102 : (c : Int) ≤ 102 := by omega
          have l70 : (c : Int) ≤ 70 := by omega
          clear hR HR
          clear h0 h1 h2 h3
          go_enter Tryz.func53, Tryz.ntmps53
          go_wp2_with fail
          go_ret
          exact ⟨by rw [HR2.out]; go_num, rfl⟩
        · by_cases h4 : c < 97
          · have hR := HR.out
            rw [if_neg (by omega), if_neg (by omega), if_neg (by omega)] at hR
            have HR2 := Lib.hid hR
            have g48 : (48 : Int) ≤ (c : Int) := by omega
            have g97 : decide ((97 : Int) ≤ (c : Int)) = false := by simp; omega
            have i97 : (c : Int) < 97 := by omega
            have g65 : (65 : Int) ≤ (c : Int) := by omega
            have l57 : decide ((c : Int) ≤ 57) = false := by simp; omega
            have j57 : (57 : Int) < (c : Int) := by omega
            have l102 : (c : Int) ≤ 102 := by omega
            have l70 : decide ((c : Int) ≤ 70) = false := by simp; omega
            have j70 : (70 : Int) < (c : Int) := by omega
            clear hR HR
            clear h0 h1 h2 h3 h4
            go_enter Tryz.func53, Tryz.ntmps53
            go_wp2_with fail
            go_ret
            exact ⟨by rw [HR2.out]; rfl, rfl⟩
          · by_cases h5 : c ≤ 102
            · have hR := HR.out
              rw [if_neg (by omega), if_pos (by omega)] at hR
              have HR2 := Lib.hid hR
              have g48 : (48 : Int) ≤ (c : Int) := by omega
              have g97 : (97 : Int) ≤ (c : Int) := by omega
              have g65 : (65 : Int) ≤ (c : Int) := by omega
              have l57 : decide ((c : Int) ≤ 57) = false := by simp; omega
              have j57 : (57 : Int) < (c : Int) := by omega
              have l102 : (c : Int) ≤ 102 := by omega
              have l70 : decide ((c : Int) ≤ 70) = false := by simp; omega
              have j70 : (70 : Int) < (c : Int) := by omega
              clear hR HR
              clear h0 h1 h2 h3 h4 h5
              go_enter Tryz.func53, Tryz.ntmps53
              go_wp2_with fail
              go_ret
              exact ⟨by rw [HR2.out]; go_num, rfl⟩
            · have hR := HR.out
              rw [if_neg (by omega), if_neg (by omega), if_neg (by omega)] at hR
              have HR2 := Lib.hid hR
              have g48 : (48 : Int) ≤ (c : Int) := by omega
              have g97 : (97 : Int) ≤ (c : Int) := by omega
              have g65 : (65 : Int) ≤ (c : Int) := by omega
              have l57 : decide ((c : Int) ≤ 57) = false := by simp; omega
              have j57 : (57 : Int) < (c : Int) := by omega
              have l102 : decide ((c : Int) ≤ 102) = false := by simp; omega
              have j102 : (102 : Int) < (c : Int) := by omega
              have l70 : decide ((c : Int) ≤ 70) = false := by simp; omega
              have j70 : (70 : Int) < (c : Int) := by omega
              clear hR HR
              clear h0 h1 h2 h3 h4 h5
              go_enter Tryz.func53, Tryz.ntmps53
              go_wp2_with fail
              go_ret
              exact ⟨by rw [HR2.out]; rfl, rfl⟩

theorem hex_at {s : ByteArray} {k : Nat} (h1 : 2 + k < s.size) (h2 : k < 13) : ∃ c : UInt8, (hexL s.data.toList).drop k = c :: (hexL s.data.toList).drop (k + 1) ∧ c.toNat = byt s (2 + k) := by
  have hs : s.size = s.data.toList.length := size_list s
  have h3 : 2 + k < (s.data.toList.take 15).length := by rw [List.length_take]; omega
  refine ⟨(s.data.toList.take 15)[2 + k], ?_, ?_⟩
  · unfold hexL
    rw [List.drop_drop, List.drop_drop, List.drop_eq_getElem_cons h3]
    rfl
  · rw [List.getElem_take, byt_list (by omega)]
theorem hex_past {s : ByteArray} {k : Nat} (h : s.size ≤ 2 + k ∨ 13 ≤ k) : (hexL s.data.toList).drop k = [] := by
  have hs : s.size = s.data.toList.length := size_list s
  unfold hexL
  rw [List.drop_drop]
  refine List.drop_of_length_le ?_
  rw [List.length_take]; omega
theorem two_at (s : ByteArray) (x : UInt8) : Lib.hasPrefix s.data.toList [48, x] = true ↔ 2 ≤ s.size ∧ byt s 0 = 48 ∧ byt s 1 = x.toNat := by
  have hs : s.size = s.data.toList.length := size_list s
  have b0 : ∀ h : 0 < s.data.toList.length, byt s 0 = (s.data.toList[0]).toNat := fun h => byt_list h
  have b1 : ∀ h : 1 < s.data.toList.length, byt s 1 = (s.data.toList[1]).toNat := fun h => byt_list h
  generalize byt s 0 = B0 at *
  generalize byt s 1 = B1 at *
  generalize s.data.toList = l at *
  rw [hs]
  unfold Lib.hasPrefix
  rcases l with _ | ⟨a, _ | ⟨b, r⟩⟩
  · simp
  · simp
  · have e0 := b0 (by simp)
    have e1 := b1 (by simp)
    simp only [List.getElem_cons_zero, List.getElem_cons_succ] at e0 e1
    subst e0 e1
    simp only [List.isPrefixOf, Bool.and_true, Bool.and_eq_true, beq_iff_eq, List.length_cons]
    constructor
    · rintro ⟨rfl, rfl⟩; exact ⟨by omega, rfl, rfl⟩
    · rintro ⟨_, h1, h2⟩; exact ⟨(UInt8.toNat_inj.1 h1).symm, (UInt8.toNat_inj.1 h2).symm⟩
theorem isHex_iff (s : ByteArray) : isHex s.data.toList = true ↔ 2 < s.size ∧ byt s 0 = 48 ∧ (byt s 1 = 120 ∨ byt s 1 = 88) ∧ 0 ≤ hx (byt s 2) := by
  unfold isHex
  rw [Bool.and_eq_true, Bool.or_eq_true, two_at, two_at, decide_eq_true_iff]
  have hk : (0 < (hexR (hexL s.data.toList) 0 0).2) ↔ (2 < s.size ∧ 0 ≤ hx (byt s 2)) := by
    by_cases h2 : 2 < s.size
    · obtain ⟨c, e, hc⟩ := hex_at (s := s) (k := 0) h2 (by decide)
      rw [List.drop_zero] at e
      rw [e, hexR, hc]
      show _ ↔ (2 < s.size ∧ 0 ≤ hx (byt s 2))
      by_cases h3 : hx (byt s (2 + 0)) < 0
      · rw [if_pos h3]
        constructor
        · intro h; cases h
        · rintro ⟨_, h⟩; rw [Nat.add_zero] at h3; omega
      · rw [if_neg h3]
        have := (hexR_ge (List.drop (0 + 1) (hexL s.data.toList)) (16 * 0 + (hx (byt s (2 + 0))).toNat) (0 + 1)).1
        rw [Nat.add_zero] at h3
        exact ⟨fun _ => ⟨h2, by omega⟩, fun _ => by omega⟩
    · have e := hex_past (s := s) (k := 0) (.inl (by omega))
      rw [List.drop_zero] at e
      rw [e]
      exact ⟨fun h => absurd h (Nat.lt_irrefl 0), fun h => absurd h.1 h2⟩
  rw [hk]
  show ((2 ≤ s.size ∧ byt s 0 = 48 ∧ byt s 1 = 120) ∨ (2 ≤ s.size ∧ byt s 0 = 48 ∧ byt s 1 = 88)) ∧ _ ↔ _
  constructor
  · rintro ⟨⟨_, h1, h2⟩ | ⟨_, h1, h2⟩, h3, h4⟩
    · exact ⟨h3, h1, .inl h2, h4⟩
    · exact ⟨h3, h1, .inr h2, h4⟩
  · rintro ⟨h1, h2, h3 | h3, h4⟩
    · exact ⟨.inl ⟨by omega, h2, h3⟩, h1, h4⟩
    · exact ⟨.inr ⟨by omega, h2, h3⟩, h1, h4⟩
theorem numeral_none {l : List UInt8} (h : (numeralL l).2.2 = 0) : numV (numeralL l).1 (numeralL l).2.1 = 0 := by
  unfold numeralL at *
  by_cases h0 : (mantL l).1 = []
  · rw [if_pos h0]; rfl
  · rw [if_neg h0] at h
    exfalso
    simp only [] at h
    have h1 : (mantL l).2.2 = 0 := by omega
    by_cases hd : ∃ r, l.drop (lead l).length = 46 :: r
    · obtain ⟨r, hr⟩ := hd
      rw [mantL_dot hr] at h1 h0
      split at h1
      · simp at h1
      · rename_i hn
        rw [if_neg hn] at h0
        simp only [] at h1 h0
        exact h0 (List.length_eq_zero_iff.1 h1)
    · rw [mantL_plain fun r hr => hd ⟨r, hr⟩] at h1 h0
      exact h0 (List.length_eq_zero_iff.1 h1)
theorem litV_val {l : List UInt8} (h : isHex l = false) (hl : l.length ≤ 3500) : litV l = numV (numeralL l).1 (numeralL l).2.1 ∧ litN l = (numeralL l).2.2 := by
  unfold litV litN
  rw [h, if_neg Bool.false_ne_true, if_neg Bool.false_ne_true]
  refine ⟨?_, rfl⟩
  by_cases h0 : (numeralL l).2.2 = 0
  · rw [if_pos h0, numeral_none h0]
  · rw [if_neg h0]
    have h2 := numeralL_len l
    exact readN_val (numeralL_facts l).1 (by omega)
theorem litV_hex {l : List UInt8} (h : isHex l = true) : litV l = ofN (hexR (hexL l) 0 0).1 ∧ litN l = 2 + (hexR (hexL l) 0 0).2 := by
  unfold litV litN
  rw [h, if_pos rfl, if_pos rfl]
  exact ⟨rfl, rfl⟩

set_option maxRecDepth 100000 in
set_option maxHeartbeats 16000000 in
theorem Literal4_any (s : ByteArray) (w : World) (hs : s.size ≤ 3500) :
    Calls Tryz.prog 13 #[.string s] w fun e w' => e = .returned (.tuple #[.float .f64 (litV s.data.toList), .int .i64 (litN s.data.toList : Nat)]) ∧ Below w.heap.size w w' := by
  have hl : s.data.toList.length = s.size := (size_list s).symm
  have HNu := Lib.hid (fun W => Numeral4_any s 0 W (Nat.zero_le _) hs)
  rw [List.drop_zero] at HNu
  have HN1 : Hid (isHex s.data.toList = false → litV s.data.toList = numV (numeralL s.data.toList).1 (numeralL s.data.toList).2.1 ∧ litN s.data.toList = (numeralL s.data.toList).2.2) := fun h => by
    have := litV_val h (by omega)
    exact this
  obtain ⟨X, N, hhex⟩ : ∃ X N, hexR (hexL s.data.toList) 0 0 = (X, N) := ⟨_, _, rfl⟩
  have HN2 : Hid (isHex s.data.toList = true → litV s.data.toList = ofN X ∧ litN s.data.toList = 2 + N) := fun h => by
    have := litV_hex h
    rw [hhex] at this
    exact this
  have HXN : Hid (hexR ((hexL s.data.toList).drop 0) 0 0 = (X, N)) := by show _ = _; rw [List.drop_zero]; exact hhex
  have hiff := isHex_iff s
  generalize litV s.data.toList = LV at *
  generalize litN s.data.toList = LN at *
  generalize numV (numeralL s.data.toList).1 (numeralL s.data.toList).2.1 = NV at *
  generalize (numeralL s.data.toList).2.2 = M at *
  generalize isHex s.data.toList = ih at *
  obtain ⟨n, hn⟩ : ∃ n, n = s.size := ⟨_, rfl⟩
  have HM := Lib.hid hn
  have hnI : (s.size : Int) = (n : Int) := by omega
  have hn3 : n ≤ 3500 := by omega
  have h256 : Hid (∀ k, byt s k < 256) := fun k => by
    unfold byt; split
    · exact UInt8.toNat_lt _
    · omega
  clear hhex hl hs
  by_cases h2 : 2 < n
  · have hz2 : 2 < s.size := by have := HM.out; omega
    have hz1 : 1 < s.size := by omega
    have hz0 : 0 < s.size := by omega
    have hc0 := byt_in hz0
    have hc1 := byt_in hz1
    have hc2 := byt_in hz2
    have hL0 := h256.out 0
    have hL1 := h256.out 1
    have hL2 := h256.out 2
    have h2I : 2 < (n : Int) := by omega
    rw [← hn] at hiff
    have HX2 := Lib.hid (fun W => hex_any (byt s 2) W hL2)
    clear hn
    by_cases h0 : byt s 0 = 48
    · rw [h0] at hc0
      by_cases h3 : hx (byt s 2) < 0
      · have hno : ih = false := Bool.eq_false_iff.2 fun h => by have := (hiff.1 h).2.2.2; omega
        have HV := Lib.hid (HN1.out hno)
        have hxn : decide (0 ≤ hx (byt s 2)) = false := by simp; omega
        clear hiff
        generalize hx (byt s 2) = d at *
        generalize byt s 2 = c2 at *
        by_cases h4 : byt s 1 = 120
        · rw [h4] at hc1
          clear h0 hno
          go_enter Tryz.func13, Tryz.ntmps13
          go_wp2_with fail
          refine (HX2.out _).mono ?_
          rintro e _ ⟨rfl, rfl⟩
          clear HN1 HN2
          go_wp2_with fail
          refine (HNu.out _).mono ?_
          rintro e w1 ⟨rfl, hb1⟩
          have HB1 := Lib.hid hb1
          clear hb1
          go_wp2_with fail
          go_ret2
          exact ⟨by rw [HV.out.1, HV.out.2]; rfl, HB1.out⟩
        · by_cases h5 : byt s 1 = 88
          · rw [h5] at hc1
            clear h0 hno h4
            go_enter Tryz.func13, Tryz.ntmps13
            go_wp2_with fail
            refine (HX2.out _).mono ?_
            rintro e _ ⟨rfl, rfl⟩
            clear HN1 HN2
            go_wp2_with fail
            refine (HNu.out _).mono ?_
            rintro e w1 ⟨rfl, hb1⟩
            have HB1 := Lib.hid hb1
            clear hb1
            go_wp2_with fail
            go_ret2
            exact ⟨by rw [HV.out.1, HV.out.2]; rfl, HB1.out⟩
          · generalize byt s 1 = c1 at *
            have e4 : ((c1 : Int) == 120) = false := beq_eq_false_iff_ne.2 (by omega)
            have e5 : ((c1 : Int) == 88) = false := beq_eq_false_iff_ne.2 (by omega)
            clear h0 hno h4 h5
            go_enter Tryz.func13, Tryz.ntmps13
            clear HN1 HN2
            go_wp2_with fail
            refine (HNu.out _).mono ?_
            rintro e w1 ⟨rfl, hb1⟩
            have HB1 := Lib.hid hb1
            clear hb1
            go_wp2_with fail
            go_ret2
            exact ⟨by rw [HV.out.1, HV.out.2]; rfl, HB1.out⟩
      · by_cases h4 : byt s 1 = 120
        · have HV := Lib.hid (HN2.out (hiff.2 ⟨h2, h0, .inl h4, by omega⟩))
          have hxn : 0 ≤ hx (byt s 2) := by omega
          clear hiff HN1 HN2
          generalize hx (byt s 2) = d at *
          rw [h4] at hc1
          clear h0 h4 h3
          go_enter Tryz.func13, Tryz.ntmps13
          go_wp2_with fail
          refine (HX2.out _).mono ?_
          rintro e _ ⟨rfl, rfl⟩
          go_wp2_with fail
          go_loop [4, 5] (fun nv iv => ∃ m j k : Nat, nv = .int .i64 (m : Int) ∧ iv = .int .i64 (j : Int) ∧ 2 ≤ j ∧ j ≤ n ∧ j ≤ 15 ∧ Hid (j = 2 + k) ∧ Hid (hexR ((hexL s.data.toList).drop k) m k = (X, N) ∧ (m + 1) * 16 ^ (13 - k) ≤ 4503599627370496)) (fun _ iv => 15 - (intOf iv).toNat)
          case atStart => exact ⟨0, 2, 0, rfl, rfl, Nat.le_refl _, by omega, by decide, rfl, HXN.out, by decide⟩
          case round =>
            obtain ⟨m, j, k, rfl, rfl, hj1, hj2, hj3, HJ, HH⟩ := hrel
            have hm1 : m < 4503599627370496 := by
              have h := HH.out.2
              have hp : 0 < 16 ^ (13 - k) := Nat.pow_pos (by decide)
              have := Nat.le_trans (Nat.le_mul_of_pos_right (m + 1) hp) h
              omega
            by_cases h1 : j < n
            · by_cases h2 : j < 15
              · have h1s : j < s.size := by have := HM.out; omega
                have hcc := byt_in h1s
                have hj0 := HJ.out
                obtain ⟨c', e, hc'⟩ := hex_at (s := s) (k := k) (by omega) (by omega)
                rw [← hj0] at hc'
                have hR := HH.out.1
                rw [e, hexR, hc'] at hR
                have hc256 := h256.out j
                generalize byt s j = c at *
                have hI1 : (j : Int) < (n : Int) := by omega
                have hI2 : (j : Int) < 15 := by omega
                by_cases h3 : hx c < 0
                · rw [if_pos h3] at hR
                  obtain ⟨rfl, rfl⟩ := Prod.mk.inj hR
                  have HHx := Lib.hid (fun W => hex_any c W hc256)
                  have hdn : decide (0 ≤ hx c) = false := by simp; omega
                  have hdn2 : hx c < 0 := h3
                  generalize hx c = d at *
                  have hjk : (j : Int) = 2 + (k : Int) := by omega
                  have HJK := Lib.hid hjk
                  clear hR e hc' HH hj0 h3 hjk
                  go_wp2_with fail
                  refine (HHx.out _).mono ?_
                  rintro e _ ⟨rfl, rfl⟩
                  go_wp2_with fail
                  go_ret2
                  exact ⟨by rw [HV.out.1, HV.out.2, HJK.out]; rfl, Below.refl _ _⟩
                · rw [if_neg h3] at hR
                  have hle := hx_le c
                  have HHx := Lib.hid (fun W => hex_any c W hc256)
                  obtain ⟨d, hd⟩ : ∃ d : Nat, hx c = (d : Int) := ⟨(hx c).toNat, by omega⟩
                  rw [hd] at hR HHx hle
                  rw [Int.toNat_natCast] at hR
                  have hd15 : d ≤ 15 := by omega
                  have hb := HH.out.2
                  rw [show 13 - k = (13 - (k + 1)) + 1 by omega, Nat.pow_succ, Nat.mul_comm (16 ^ (13 - (k + 1))), ← Nat.mul_assoc] at hb
                  have hb2 : (16 * m + d + 1) * 16 ^ (13 - (k + 1)) ≤ 4503599627370496 := Nat.le_trans (Nat.mul_le_mul_right _ (by omega)) hb
                  have HR := Lib.hid (And.intro hR hb2)
                  have HJ2 : Hid (j + 1 = 2 + (k + 1)) := by show _ = _; omega
                  clear hR e hc' HH hj0 h3 hd hb hb2 hle
                  go_wp2_with fail
                  refine (HHx.out _).mono ?_
                  rintro e _ ⟨rfl, rfl⟩
                  go_wp2_with fail
                  refine (HHx.out _).mono ?_
                  rintro e _ ⟨rfl, rfl⟩
                  go_wp2_with fail
                  go_round
                  case rel => exact ⟨16 * m + d, j + 1, k + 1, by go_num, by go_num, by omega, by omega, by omega, HJ2, HR⟩
                  case measure => simp only [intOf]; omega
              · have hj0 := HJ.out
                have e := hex_past (s := s) (k := k) (.inr (by omega))
                have hR := HH.out.1
                rw [e] at hR
                obtain ⟨rfl, rfl⟩ := Prod.mk.inj hR
                have hI1 : (j : Int) < (n : Int) := by omega
                have hI2 : decide ((j : Int) < 15) = false := by simp; omega
                have hI3 : decide (j < 15) = false := by simp; omega
                have HJK : Hid ((j : Int) = 2 + (k : Int)) := by show _ = _; omega
                clear hR e HH hj0 h2
                go_wp2_with fail
                go_ret2
                exact ⟨by rw [HV.out.1, HV.out.2, HJK.out]; rfl, Below.refl _ _⟩
            · have hj0 := HJ.out
              have e := hex_past (s := s) (k := k) (.inl (by have := HM.out; omega))
              have hR := HH.out.1
              rw [e] at hR
              obtain ⟨rfl, rfl⟩ := Prod.mk.inj hR
              have hI2 : decide ((j : Int) < (n : Int)) = false := by simp; omega
              have hI3 : decide (j < n) = false := by simp; omega
              have HJK : Hid ((j : Int) = 2 + (k : Int)) := by show _ = _; omega
              clear hR e HH hj0 h1
              go_wp2_with fail
              go_ret2
              exact ⟨by rw [HV.out.1, HV.out.2, HJK.out]; rfl, Below.refl _ _⟩
        · by_cases h5 : byt s 1 = 88
          · have HV := Lib.hid (HN2.out (hiff.2 ⟨h2, h0, .inr h5, by omega⟩))
            have hxn : 0 ≤ hx (byt s 2) := by omega
            clear hiff HN1 HN2
            generalize hx (byt s 2) = d at *
            rw [h5] at hc1
            clear h0 h4 h5 h3
            go_enter Tryz.func13, Tryz.ntmps13
            go_wp2_with fail
            refine (HX2.out _).mono ?_
            rintro e _ ⟨rfl, rfl⟩
            go_wp2_with fail
            go_loop [4, 5] (fun nv iv => ∃ m j k : Nat, nv = .int .i64 (m : Int) ∧ iv = .int .i64 (j : Int) ∧ 2 ≤ j ∧ j ≤ n ∧ j ≤ 15 ∧ Hid (j = 2 + k) ∧ Hid (hexR ((hexL s.data.toList).drop k) m k = (X, N) ∧ (m + 1) * 16 ^ (13 - k) ≤ 4503599627370496)) (fun _ iv => 15 - (intOf iv).toNat)
            case atStart => exact ⟨0, 2, 0, rfl, rfl, Nat.le_refl _, by omega, by decide, rfl, HXN.out, by decide⟩
            case round =>
              obtain ⟨m, j, k, rfl, rfl, hj1, hj2, hj3, HJ, HH⟩ := hrel
              have hm1 : m < 4503599627370496 := by
                have h := HH.out.2
                have hp : 0 < 16 ^ (13 - k) := Nat.pow_pos (by decide)
                have := Nat.le_trans (Nat.le_mul_of_pos_right (m + 1) hp) h
                omega
              by_cases h1 : j < n
              · by_cases h2 : j < 15
                · have h1s : j < s.size := by have := HM.out; omega
                  have hcc := byt_in h1s
                  have hj0 := HJ.out
                  obtain ⟨c', e, hc'⟩ := hex_at (s := s) (k := k) (by omega) (by omega)
                  rw [← hj0] at hc'
                  have hR := HH.out.1
                  rw [e, hexR, hc'] at hR
                  have hc256 := h256.out j
                  generalize byt s j = c at *
                  have hI1 : (j : Int) < (n : Int) := by omega
                  have hI2 : (j : Int) < 15 := by omega
                  by_cases h3 : hx c < 0
                  · rw [if_pos h3] at hR
                    obtain ⟨rfl, rfl⟩ := Prod.mk.inj hR
                    have HHx := Lib.hid (fun W => hex_any c W hc256)
                    have hdn : decide (0 ≤ hx c) = false := by simp; omega
                    have hdn2 : hx c < 0 := h3
                    generalize hx c = d at *
                    have hjk : (j : Int) = 2 + (k : Int) := by omega
                    have HJK := Lib.hid hjk
                    clear hR e hc' HH hj0 h3 hjk
                    go_wp2_with fail
                    refine (HHx.out _).mono ?_
                    rintro e _ ⟨rfl, rfl⟩
                    go_wp2_with fail
                    go_ret2
                    exact ⟨by rw [HV.out.1, HV.out.2, HJK.out]; rfl, Below.refl _ _⟩
                  · rw [if_neg h3] at hR
                    have hle := hx_le c
                    have HHx := Lib.hid (fun W => hex_any c W hc256)
                    obtain ⟨d, hd⟩ : ∃ d : Nat, hx c = (d : Int) := ⟨(hx c).toNat, by omega⟩
                    rw [hd] at hR HHx hle
                    rw [Int.toNat_natCast] at hR
                    have hd15 : d ≤ 15 := by omega
                    have hb := HH.out.2
                    rw [show 13 - k = (13 - (k + 1)) + 1 by omega, Nat.pow_succ, Nat.mul_comm (16 ^ (13 - (k + 1))), ← Nat.mul_assoc] at hb
                    have hb2 : (16 * m + d + 1) * 16 ^ (13 - (k + 1)) ≤ 4503599627370496 := Nat.le_trans (Nat.mul_le_mul_right _ (by omega)) hb
                    have HR := Lib.hid (And.intro hR hb2)
                    have HJ2 : Hid (j + 1 = 2 + (k + 1)) := by show _ = _; omega
                    clear hR e hc' HH hj0 h3 hd hb hb2 hle
                    go_wp2_with fail
                    refine (HHx.out _).mono ?_
                    rintro e _ ⟨rfl, rfl⟩
                    go_wp2_with fail
                    refine (HHx.out _).mono ?_
                    rintro e _ ⟨rfl, rfl⟩
                    go_wp2_with fail
                    go_round
                    case rel => exact ⟨16 * m + d, j + 1, k + 1, by go_num, by go_num, by omega, by omega, by omega, HJ2, HR⟩
                    case measure => simp only [intOf]; omega
                · have hj0 := HJ.out
                  have e := hex_past (s := s) (k := k) (.inr (by omega))
                  have hR := HH.out.1
                  rw [e] at hR
                  obtain ⟨rfl, rfl⟩ := Prod.mk.inj hR
                  have hI1 : (j : Int) < (n : Int) := by omega
                  have hI2 : decide ((j : Int) < 15) = false := by simp; omega
                  have hI3 : decide (j < 15) = false := by simp; omega
                  have HJK : Hid ((j : Int) = 2 + (k : Int)) := by show _ = _; omega
                  clear hR e HH hj0 h2
                  go_wp2_with fail
                  go_ret2
                  exact ⟨by rw [HV.out.1, HV.out.2, HJK.out]; rfl, Below.refl _ _⟩
              · have hj0 := HJ.out
                have e := hex_past (s := s) (k := k) (.inl (by have := HM.out; omega))
                have hR := HH.out.1
                rw [e] at hR
                obtain ⟨rfl, rfl⟩ := Prod.mk.inj hR
                have hI2 : decide ((j : Int) < (n : Int)) = false := by simp; omega
                have hI3 : decide (j < n) = false := by simp; omega
                have HJK : Hid ((j : Int) = 2 + (k : Int)) := by show _ = _; omega
                clear hR e HH hj0 h1
                go_wp2_with fail
                go_ret2
                exact ⟨by rw [HV.out.1, HV.out.2, HJK.out]; rfl, Below.refl _ _⟩
          · have hno : ih = false := Bool.eq_false_iff.2 fun h => by rcases (hiff.1 h).2.2.1 with h | h <;> contradiction
            have HV := Lib.hid (HN1.out hno)
            clear hiff
            generalize byt s 1 = c1 at *
            have e4 : ((c1 : Int) == 120) = false := beq_eq_false_iff_ne.2 (by omega)
            have e5 : ((c1 : Int) == 88) = false := beq_eq_false_iff_ne.2 (by omega)
            clear h0 hno h4 h5
            go_enter Tryz.func13, Tryz.ntmps13
            clear HN1 HN2
            go_wp2_with fail
            refine (HNu.out _).mono ?_
            rintro e w1 ⟨rfl, hb1⟩
            have HB1 := Lib.hid hb1
            clear hb1
            go_wp2_with fail
            go_ret2
            exact ⟨by rw [HV.out.1, HV.out.2]; rfl, HB1.out⟩
    · have hno : ih = false := Bool.eq_false_iff.2 fun h => by have := (hiff.1 h).2.1; contradiction
      have HV := Lib.hid (HN1.out hno)
      clear hiff
      generalize byt s 0 = c0 at *
      have e4 : ((c0 : Int) == 48) = false := beq_eq_false_iff_ne.2 (by omega)
      clear h0 hno
      go_enter Tryz.func13, Tryz.ntmps13
      clear HN1 HN2
      go_wp2_with fail
      refine (HNu.out _).mono ?_
      rintro e w1 ⟨rfl, hb1⟩
      have HB1 := Lib.hid hb1
      clear hb1
      go_wp2_with fail
      go_ret2
      exact ⟨by rw [HV.out.1, HV.out.2]; rfl, HB1.out⟩
  · have hno : ih = false := Bool.eq_false_iff.2 fun h => by have := (hiff.1 h).1; omega
    have HV := Lib.hid (HN1.out hno)
    have h2I : decide (2 < (n : Int)) = false := by simp; omega
    have h2J : decide (2 < n) = false := by simp; omega
    clear hiff hno hn h2
    go_enter Tryz.func13, Tryz.ntmps13
    clear HN1 HN2
    go_wp2_with fail
    refine (HNu.out _).mono ?_
    rintro e w1 ⟨rfl, hb1⟩
    have HB1 := Lib.hid hb1
    clear hb1
    go_wp2_with fail
    go_ret2
    exact ⟨by rw [HV.out.1, HV.out.2]; rfl, HB1.out⟩
end Go.Proofs.YtcmpdamfeoaapaaGreatDoor
