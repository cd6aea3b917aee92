/- The document's answer of package num (thresherref04): Numeral. -/
import Derived.Test.YtcmpdamfeoaapaaGreatDoorQ17
import Derived.Test.YtcmpdamfeoaapaaGreatDoorQ18
import Derived.Deep.DeepCutAuto
namespace Go.Proofs.YtcmpdamfeoaapaaGreatDoor
open Go.RowKit
set_option linter.unusedVariables false

theorem drop_at {s : ByteArray} {i : Nat} (h : i < s.size) : ∃ c : UInt8, s.data.toList.drop i = c :: s.data.toList.drop (i + 1) ∧ c.toNat = byt s i := by
  have hs : s.size = s.data.toList.length := by simp
  exact ⟨_, List.drop_eq_getElem_cons (by omega), (byt_list (by omega)).symm⟩
theorem drop_past {s : ByteArray} {i : Nat} (h : s.size ≤ i) : s.data.toList.drop i = [] := List.drop_of_length_le (by simpa using h)
theorem u8_ne {c : UInt8} {k : Nat} (h : c.toNat ≠ k) (hk : k < 256) : c ≠ UInt8.ofNat k := fun e => h (by rw [e]; simp; omega)
/-- the digits, where there is a point that counts -/
theorem mant_P {s : ByteArray} {f n1 : Nat} (hn1 : n1 = (lead (s.data.toList.drop f)).length) (h1 : f + n1 < s.size) (h2 : byt s (f + n1) = 46) (h3 : 0 < n1 + (lead (s.data.toList.drop (f + n1 + 1))).length) :
    mantL (s.data.toList.drop f) = (lead (s.data.toList.drop f) ++ lead (s.data.toList.drop (f + n1 + 1)), -((lead (s.data.toList.drop (f + n1 + 1))).length : Int), n1 + 1 + (lead (s.data.toList.drop (f + n1 + 1))).length) := by
  obtain ⟨c, e, hc⟩ := drop_at h1
  have hc46 : c = 46 := UInt8.toNat_inj.1 (by rw [hc, h2]; rfl)
  unfold mantL
  rw [← hn1, List.drop_drop, e, hc46]
  simp only []
  rw [if_pos h3]
theorem mant_Q {s : ByteArray} {f n1 : Nat} (hn1 : n1 = (lead (s.data.toList.drop f)).length) (h : ¬ (f + n1 < s.size ∧ byt s (f + n1) = 46 ∧ 0 < n1 + (lead (s.data.toList.drop (f + n1 + 1))).length)) :
    mantL (s.data.toList.drop f) = (lead (s.data.toList.drop f), 0, n1) := by
  unfold mantL
  rw [← hn1, List.drop_drop]
  rcases Nat.lt_or_ge (f + n1) s.size with h1 | h1
  · obtain ⟨c, e, hc⟩ := drop_at h1
    rw [e]
    by_cases h46 : c = 46
    · rw [h46]
      simp only []
      rw [if_neg (fun h3 => h ⟨h1, by rw [← hc, h46]; rfl, h3⟩)]
    · split
      · rename_i r hr; injection hr with hr1 _; exact absurd hr1 h46
      · rfl
  · rw [drop_past h1]
/-- the sign behind the letter -/
def sgnB (s : ByteArray) (i : Nat) : Nat × Bool := if i + 1 < s.size ∧ byt s (i + 1) = 43 then (2, false) else if i + 1 < s.size ∧ byt s (i + 1) = 45 then (2, true) else (1, false)
theorem sgn_drop {s : ByteArray} {i : Nat} (h : i < s.size) : signK (s.data.toList.drop i) = sgnB s i := by
  obtain ⟨c, e, hc⟩ := drop_at h
  rw [e]
  unfold sgnB
  rcases Nat.lt_or_ge (i + 1) s.size with h1 | h1
  · obtain ⟨d, e2, hd⟩ := drop_at h1
    rw [e2]
    by_cases h43 : d = 43
    · rw [if_pos ⟨h1, by rw [← hd, h43]; rfl⟩, h43]; rfl
    · rw [if_neg (fun hh => h43 (UInt8.toNat_inj.1 (by rw [hd, hh.2]; rfl)))]
      by_cases h45 : d = 45
      · rw [if_pos ⟨h1, by rw [← hd, h45]; rfl⟩, h45]; rfl
      · rw [if_neg (fun hh => h45 (UInt8.toNat_inj.1 (by rw [hd, hh.2]; rfl)))]
        unfold signK
        split
        · rename_i hr; injection hr with _ hr; injection hr with hr _; exact absurd hr h43
        · rename_i hr; injection hr with _ hr; injection hr with hr _; exact absurd hr h45
        · rfl
  · rw [drop_past h1, if_neg (by omega), if_neg (by omega)]; rfl
theorem exp_none {s : ByteArray} {i : Nat} (h : ¬ (i < s.size ∧ (byt s i = 101 ∨ byt s i = 69))) : expL (s.data.toList.drop i) = (0, 0) := by
  rcases Nat.lt_or_ge i s.size with h1 | h1
  · obtain ⟨c, e, hc⟩ := drop_at h1
    rw [e]
    unfold expL
    simp only []
    rw [if_neg]
    rintro (hh | hh)
    · exact h ⟨h1, .inl (by rw [← hc, hh]; rfl)⟩
    · exact h ⟨h1, .inr (by rw [← hc, hh]; rfl)⟩
  · rw [drop_past h1]; rfl
theorem exp_some {s : ByteArray} {i k : Nat} {mi : Bool} (h : i < s.size) (h2 : byt s i = 101 ∨ byt s i = 69) (hk : sgnB s i = (k, mi)) :
    expL (s.data.toList.drop i) = if 0 < (lead (s.data.toList.drop (i + k))).length then (powL (lead (s.data.toList.drop (i + k))) mi, k + (lead (s.data.toList.drop (i + k))).length) else (0, 0) := by
  have hsg := sgn_drop h
  rw [hk] at hsg
  obtain ⟨c, e, hc⟩ := drop_at h
  have hdd : (s.data.toList.drop i).drop k = s.data.toList.drop (i + k) := by rw [List.drop_drop]
  unfold expL
  rw [hsg, hdd]
  rw [e]
  simp only []
  rw [if_pos]
  rcases h2 with h2 | h2
  · exact .inl (UInt8.toNat_inj.1 (by rw [hc, h2]; rfl))
  · exact .inr (UInt8.toNat_inj.1 (by rw [hc, h2]; rfl))
theorem own_bytes {w : World} {base : Nat} {v : Value} {A : List UInt8} (h : OwnB w base v (A.map (·.toNat))) (hne : A ≠ []) : ∃ g cap, v = .slice (some ⟨g, 0, none⟩) A.length cap ∧ g < w.heap.size ∧ BytesAt w g 0 A.length cap A := by
  rcases h.slice with ⟨_, h0⟩ | ⟨g, cap, h1, _, h2⟩
  · exact absurd (List.map_eq_nil_iff.1 h0) hne
  · rw [List.length_map] at h1
    refine ⟨g, cap, h1, h2.ltg, rfl, by have := h2.le; simpa using this, h2.max, fun j hj => ?_⟩
    have := h2.cell j (by simpa using hj)
    rw [Nat.zero_add, this]; simp

set_option maxRecDepth 100000 in
set_option maxHeartbeats 64000000 in
theorem Numeral4_any (s : ByteArray) (f : Nat) (w : World) (hf : f ≤ s.size) (hs : s.size ≤ 3500) :
    Calls Tryz.prog 51 #[.string s, .int .i64 (f : Int)] w fun e w' => e = .returned (.tuple #[.float .f64 (numV (numeralL (s.data.toList.drop f)).1 (numeralL (s.data.toList.drop f)).2.1), .int .i64 ((f + (numeralL (s.data.toList.drop f)).2.2 : Nat) : Int)]) ∧ Below w.heap.size w w' := by
  have HN0 : Hid ((mantL (s.data.toList.drop f)).1 = [] → numV (numeralL (s.data.toList.drop f)).1 (numeralL (s.data.toList.drop f)).2.1 = 0 ∧ f + (numeralL (s.data.toList.drop f)).2.2 = f) := by
    intro h
    unfold numeralL
    rw [if_pos h]
    exact ⟨rfl, rfl⟩
  have HN : Hid (∀ (A : List UInt8) (X0 : Int) (N0 : Nat) (X1 : Int) (N1 : Nat), mantL (s.data.toList.drop f) = (A, X0, N0) → A ≠ [] → expL (s.data.toList.drop (f + N0)) = (X1, N1) → numV (numeralL (s.data.toList.drop f)).1 (numeralL (s.data.toList.drop f)).2.1 = numV A (X0 + X1) ∧ f + (numeralL (s.data.toList.drop f)).2.2 = f + N0 + N1) := by
    intro A X0 N0 X1 N1 h1 h2 h3
    unfold numeralL
    rw [h1, if_neg h2, List.drop_drop, h3]
    exact ⟨rfl, by simp only []; omega⟩
  generalize numV (numeralL (s.data.toList.drop f)).1 (numeralL (s.data.toList.drop f)).2.1 = RV at *
  generalize f + (numeralL (s.data.toList.drop f)).2.2 = RE at *
  have HSin : Hid (∀ p k, k < (lead (s.data.toList.drop p)).length → p + k < s.size ∧ digB s (p + k) = true ∧ 48 ≤ byt s (p + k) ∧ byt s (p + k) ≤ 57 ∧ (lead (s.data.toList.drop p)).map (·.toNat) = (lead (s.data.toList.drop p)).map (·.toNat) ∧ ((lead (s.data.toList.drop p)).take (k + 1)).map (·.toNat) = ((lead (s.data.toList.drop p)).take k).map (·.toNat) ++ [byt s (p + k)] ∧ powN ((lead (s.data.toList.drop p)).take (k + 1)) = min (10 * powN ((lead (s.data.toList.drop p)).take k) + (byt s (p + k) - 48)) 100000) := by
    intro p k h
    obtain ⟨a1, a2, a3, a4, a5⟩ := scan_in h
    refine ⟨a1, a2, a3, a4, rfl, ?_, ?_⟩
    · rw [take_succ_nat h, a5]
    · rw [List.take_succ_eq_append_getElem h, powN_snoc, a5]
  have HSout : Hid (∀ p, digB s (p + (lead (s.data.toList.drop p)).length) = false) := fun p => scan_out s p
  have HSle : Hid (∀ p, p ≤ s.size → p + (lead (s.data.toList.drop p)).length ≤ s.size) := fun p hp => scan_le s p hp
  have HDg := Lib.hid (fun (i : Nat) (W : World) (hi : i ≤ 200000) => isDigit_any s i W (by omega) hi)
  have HLd : Hid (∀ p, Digits (lead (s.data.toList.drop p))) := fun p => lead_digits _
  obtain ⟨m, hm⟩ : ∃ m, m = s.size := ⟨_, rfl⟩
  have HM := Lib.hid hm
  have hmI : (s.size : Int) = (m : Int) := by omega
  have hm3 : m ≤ 3500 := by omega
  have hfm : f ≤ m := by omega
  obtain ⟨n1, hn1⟩ : ∃ n1, n1 = (lead (s.data.toList.drop f)).length := ⟨_, rfl⟩
  have HN1 := Lib.hid hn1
  obtain ⟨i1, hi1⟩ : ∃ i1, i1 = f + n1 := ⟨_, rfl⟩
  have hi1m : i1 ≤ m := by have := HSle.out f hf; omega
  have HI1 := Lib.hid hi1
  have hfi1 : f ≤ i1 := by omega
  clear hf hs hm hn1 hi1
  go_enter Tryz.func51, Tryz.ntmps51
  go_wp2_with fail
  go_loopw [6, 8, 9] (fun iv sv ov wr => ∃ p : Nat, iv = .int .i64 (p : Int) ∧ sv = .bool (decide (f < p)) ∧ f ≤ p ∧ p ≤ i1 ∧ Hid (OwnB wr w.heap.size ov (((lead (s.data.toList.drop f)).take (p - f)).map (·.toNat))) ∧ Hid (Below w.heap.size w wr)) (fun iv _ _ _ => i1 - (intOf iv).toNat)
  case atStart => exact ⟨f, rfl, by simp, Nat.le_refl _, hfi1, by rw [Nat.sub_self]; exact OwnB.nil _ _, Below.refl _ _⟩
  case round =>
    obtain ⟨p, rfl, rfl, hp1, hp2, HO, HB⟩ := hrel
    have hgs := HB.out.size
    by_cases hpi : p < i1
    · obtain ⟨a1, a2, a3, a4, _, a6, _⟩ := HSin.out f (p - f) (by rw [← HN1.out]; have := HI1.out; omega)
      rw [show f + (p - f) = p by omega] at a1 a2 a3 a4 a6
      have HC := Lib.hid (HDg.out p wr (by omega))
      rw [a2] at HC
      have hcc := byt_in a1
      have HO1' : Hid (((lead (s.data.toList.drop f)).take (p + 1 - f)).map (·.toNat) = ((lead (s.data.toList.drop f)).take (p - f)).map (·.toNat) ++ [byt s p]) := by
        show _ = _
        rw [← a6, show p - f + 1 = p + 1 - f by omega]
      have hpm : (p : Int) < (m : Int) := by omega
      have hTL : (((lead (s.data.toList.drop f)).take (p - f)).map (·.toNat)).length ≤ 3500 := by rw [List.length_map, List.length_take]; omega
      have HTL := Lib.hid hTL
      generalize ((lead (s.data.toList.drop f)).take (p - f)).map (·.toNat) = T at *
      generalize byt s p = c at *
      have hc256 : c < 256 := by omega
      clear a2 a6 hTL
      go_wp2_with fail
      refine HC.out.mono ?_
      rintro e _ ⟨rfl, rfl⟩
      go_wp2_with (
        at_builtin
        go_loud (refine wpList_appB _ rfl _ _ rfl w.heap.size _ T rfl (OwnB.alloc HO.out _) wr.heap.size c rfl (by simp [go_sem]) hc256 (by simp; omega) (by have := HTL.out; omega) ?_)
        intro v1 w1 hown1 hgr1
        have HO1 := Lib.hid hown1
        have HB1 := Lib.hid ((HB.out.alloc hgs _).grown hgr1 (by simp; omega) (fun x hx => (HO.out.own.lt x hx).1))
        clear hown1 hgr1)
      go_wp2_with fail
      go_roundw
      case rel => exact ⟨p + 1, by go_num, by congr 1; simp; omega, by omega, by omega, by rw [HO1'.out]; exact HO1, HB1⟩
      case measure => simp only [intOf]; omega
    · obtain rfl : p = i1 := by omega
      have HC := Lib.hid (HDg.out p wr (by omega))
      have hx0 := HSout.out f
      rw [← HN1.out, ← HI1.out] at hx0
      rw [hx0] at HC
      have htk : (lead (s.data.toList.drop f)).take (p - f) = lead (s.data.toList.drop f) := List.take_of_length_le (by rw [← HN1.out]; have := HI1.out; omega)
      rw [htk] at HO
      clear hx0 htk
      obtain ⟨A1, hA1⟩ : ∃ A1, A1 = lead (s.data.toList.drop f) := ⟨_, rfl⟩
      rw [← hA1] at HO
      have HA1 := Lib.hid hA1
      have HA1l : Hid (A1.length = n1) := by show _ = _; rw [hA1]; exact HN1.out.symm
      clear hA1 hpi
      -- is there a point that counts?
      obtain ⟨n2, hn2⟩ : ∃ n2, n2 = (lead (s.data.toList.drop (p + 1))).length := ⟨_, rfl⟩
      have HN2 := Lib.hid hn2
      obtain ⟨dot, hdot⟩ : ∃ dot : Bool, dot = decide (p < m ∧ byt s p = 46 ∧ 0 < n1 + n2) := ⟨_, rfl⟩
      have HDot := Lib.hid hdot
      have hfp : f ≤ p := hp1
      have hpe : f + n1 = p := HI1.out.symm
      have HPe := Lib.hid hpe
      have HX2 : Hid (n2 = 0 → digB s (p + 1) = false) := by intro h0; have := HSout.out (p + 1); rw [← HN2.out, h0] at this; exact this
      have HX3 : Hid (0 < n2 → digB s (p + 1) = true) := by intro h0; have := (HSin.out (p + 1) 0 (by rw [← HN2.out]; exact h0)).2.1; exact this
      obtain ⟨sm, hsm⟩ : ∃ sm : Bool, sm = decide (f < p) := ⟨_, rfl⟩
      rw [← hsm]
      have HSm : Hid (sm = true ↔ 0 < n1) := by show _ ↔ _; rw [hsm, decide_eq_true_iff]; omega
      clear hn2 hdot hpe hsm
      go_upto_region 7 with (refine HC.out.mono ?_; rintro e _ ⟨rfl, rfl⟩)
      go_cut [43] (fun c wx => c = .bool dot ∧ wr = wx)
      case first =>
        by_cases hpm : p < m
        · have hps : p < s.size := by rw [← HM.out]; exact hpm
          have hcc := byt_in hps
          have hpI : (p : Int) < (m : Int) := by omega
          by_cases h46 : byt s p = 46
          · rw [h46] at hcc
            have HC2 := Lib.hid (HDg.out (p + 1) wr (by omega))
            rw [show ((p + 1 : Nat) : Int) = (p : Int) + 1 by omega] at HC2
            cases sm
            · have hn10 : n1 = 0 := by
                rcases Nat.eq_zero_or_pos n1 with h | h
                · exact h
                · have := HSm.out.2 h; cases this
              by_cases hn20 : n2 = 0
              · have hcn := HX2.out hn20
                rw [hcn] at HC2
                have hd : Hid (dot = false) := by show _ = _; rw [HDot.out]; exact decide_eq_false (fun h => by omega)
                clear h46 hn10 hn20 hcn
                go_wp2_with (refine HC2.out.mono ?_; rintro e _ ⟨rfl, rfl⟩)
                go_meet
                exact ⟨by rw [hd.out], rfl⟩
              · have hcn := HX3.out (by omega)
                rw [hcn] at HC2
                have hd : Hid (dot = true) := by show _ = _; rw [HDot.out]; exact decide_eq_true ⟨hpm, h46, by omega⟩
                clear h46 hn10 hn20 hcn
                go_wp2_with (refine HC2.out.mono ?_; rintro e _ ⟨rfl, rfl⟩)
                go_meet
                exact ⟨by rw [hd.out], rfl⟩
            · have hn10 : 0 < n1 := HSm.out.1 rfl
              have hd : Hid (dot = true) := by show _ = _; rw [HDot.out]; exact decide_eq_true ⟨hpm, h46, by omega⟩
              clear h46 hn10
              go_wp2_with fail
              go_meet
              exact ⟨by rw [hd.out], rfl⟩
          · have hd : Hid (dot = false) := by show _ = _; rw [HDot.out]; exact decide_eq_false (fun h => h46 h.2.1)
            generalize byt s p = c at *
            have hcb : ((c : Int) == 46) = false := beq_eq_false_iff_ne.2 (by omega)
            clear h46
            go_wp2_with fail
            go_meet
            exact ⟨by rw [hd.out], rfl⟩
        · have hd : Hid (dot = false) := by show _ = _; rw [HDot.out]; exact decide_eq_false (fun h => hpm h.1)
          have hpI : (m : Int) ≤ (p : Int) := by omega
          have hpJ : decide ((p : Int) < (m : Int)) = false := by simp; omega
          have hpK : decide (p < m) = false := by simp; omega
          go_wp2_with fail
          go_meet
          exact ⟨by rw [hd.out], rfl⟩
      case rest =>
        obtain ⟨rfl, rfl⟩ := hcut
        obtain ⟨⟨A, X0, N0⟩, hAN⟩ : ∃ x, x = mantL (s.data.toList.drop f) := ⟨_, rfl⟩
        have HAN : Hid (mantL (s.data.toList.drop f) = (A, X0, N0)) := hAN.symm
        clear hAN
        have HMt : Hid (A = A1 ++ (if dot then lead (s.data.toList.drop (p + 1)) else []) ∧ X0 = (if dot then -(n2 : Int) else 0) ∧ f + N0 = (if dot then p + 1 + n2 else p)) := by
          have h := HAN.out
          rcases hd : dot with _ | _
          · have hno : ¬ (f + n1 < s.size ∧ byt s (f + n1) = 46 ∧ 0 < n1 + (lead (s.data.toList.drop (f + n1 + 1))).length) := by
              rw [HPe.out, ← HN2.out, ← HM.out]
              intro h2
              have := HDot.out
              rw [hd, decide_eq_true h2] at this
              cases this
            rw [mant_Q HN1.out hno, ← HA1.out] at h
            injection h with h1 h2
            injection h2 with h2 h3
            refine ⟨?_, h2.symm, ?_⟩
            · rw [← h1]; simp
            · rw [← h3]; exact HPe.out
          · have hyes : p < m ∧ byt s p = 46 ∧ 0 < n1 + n2 := by
              have := HDot.out
              rw [hd] at this
              exact of_decide_eq_true this.symm
            have h9 := mant_P (s := s) (f := f) HN1.out (by rw [HPe.out, ← HM.out]; exact hyes.1) (by rw [HPe.out]; exact hyes.2.1) (by rw [HPe.out, ← HN2.out]; exact hyes.2.2)
            rw [HPe.out, ← HA1.out, ← HN2.out] at h9
            rw [h9] at h
            injection h with h1 h2
            injection h2 with h2 h3
            refine ⟨?_, h2.symm, ?_⟩
            · rw [← h1]; rfl
            · rw [← h3]; have := HPe.out; show _ = p + 1 + n2; omega
        have HdP : Hid (dot = true → p < m ∧ p + 1 + n2 ≤ m) := by
          intro hd
          have h := HDot.out
          rw [hd] at h
          have h2 := of_decide_eq_true h.symm
          refine ⟨h2.1, ?_⟩
          have := HSle.out (p + 1) (by rw [← HM.out]; exact h2.1)
          rw [← HN2.out, ← HM.out] at this
          exact this
        have hdP := HdP.out
        clear hdP
        go_upto_if 43 with fail
        go_cut [6, 7, 8, 9] (fun iv xv sv ov wx => iv = .int .i64 ((f + N0 : Nat) : Int) ∧ xv = .int .i64 X0 ∧ sv = .bool (decide (A ≠ [])) ∧ Hid (OwnB wx w.heap.size ov (A.map (·.toNat))) ∧ Hid (Below w.heap.size w wx))
        case first =>
          cases dot
          · have hmt := HMt.out
            simp only [Bool.false_eq_true, if_false, List.append_nil] at hmt
            have HO3 := HO
            rw [← hmt.1] at HO3
            have HE : Hid (p = f + N0 ∧ X0 = 0 ∧ sm = decide (A ≠ [])) := by
              refine ⟨hmt.2.2.symm, hmt.2.1, ?_⟩
              have h1 := HSm.out
              have h2 : A.length = n1 := by rw [hmt.1]; exact HA1l.out
              rw [Bool.eq_iff_iff, h1, decide_eq_true_iff, ← h2]
              exact List.length_pos_iff
            clear hmt
            go_wp2_with fail
            go_meet
            exact ⟨by rw [HE.out.1], by rw [HE.out.2.1], by rw [HE.out.2.2], HO3, HB⟩
          · have hmt := HMt.out
            simp only [if_true] at hmt
            have HMt1 := Lib.hid hmt
            have hpm2 := HdP.out rfl
            have hpmI : (p : Int) < (m : Int) := by omega
            obtain ⟨i2, hi2⟩ : ∃ i2, i2 = p + 1 + n2 := ⟨_, rfl⟩
            have HI2 := Lib.hid hi2
            have hi2m : i2 ≤ m := by omega
            have hi2p : p + 1 ≤ i2 := by omega
            clear hmt hi2 hpm2
            obtain ⟨wo, rfl⟩ : ∃ wo : World, wo = wr := ⟨_, rfl⟩
            go_wp2_with fail
            go_loopw [6, 7, 8, 9] (fun iv xv sv ov wr => ∃ (r : Nat) (b : Bool), iv = .int .i64 (r : Int) ∧ p + 1 ≤ r ∧ r ≤ i2 ∧ xv = .int .i64 ((p : Int) + 1 - (r : Int)) ∧ sv = .bool b ∧ Hid (b = true ↔ 0 < n1 + (r - (p + 1))) ∧ Hid (OwnB wr w.heap.size ov (A1.map (·.toNat) ++ ((lead (s.data.toList.drop (p + 1))).take (r - (p + 1))).map (·.toNat))) ∧ Hid (Below w.heap.size w wr)) (fun iv _ _ _ _ => i2 - (intOf iv).toNat)
            case atStart => exact ⟨p + 1, sm, by go_num, Nat.le_refl _, hi2p, by congr 1; omega, rfl, by rw [Nat.sub_self]; exact HSm, by rw [Nat.sub_self]; simpa using HO, HB⟩
            case round =>
              obtain ⟨r, b, rfl, hr1, hr2, rfl, rfl, HBt, HOr, HBr⟩ := hrel
              have hgs2 := HBr.out.size
              by_cases hri : r < i2
              · obtain ⟨a1, a2, a3, a4, _, a6, _⟩ := HSin.out (p + 1) (r - (p + 1)) (by rw [← HN2.out]; have := HI2.out; omega)
                rw [show p + 1 + (r - (p + 1)) = r by omega] at a1 a2 a3 a4 a6
                have HC2 := Lib.hid (HDg.out r wr (by omega))
                rw [a2] at HC2
                have hcc := byt_in a1
                have HO1' : Hid (A1.map (·.toNat) ++ ((lead (s.data.toList.drop (p + 1))).take (r + 1 - (p + 1))).map (·.toNat) = (A1.map (·.toNat) ++ ((lead (s.data.toList.drop (p + 1))).take (r - (p + 1))).map (·.toNat)) ++ [byt s r]) := by
                  show _ = _
                  rw [show r + 1 - (p + 1) = r - (p + 1) + 1 by omega, a6, List.append_assoc]
                have hpm : (r : Int) < (m : Int) := by omega
                have hTL : (A1.map (·.toNat) ++ ((lead (s.data.toList.drop (p + 1))).take (r - (p + 1))).map (·.toNat)).length ≤ 8000 := by
                  rw [List.length_append, List.length_map, List.length_map, List.length_take, HA1l.out]
                  have := HPe.out
                  omega
                have HTL := Lib.hid hTL
                generalize A1.map (·.toNat) ++ ((lead (s.data.toList.drop (p + 1))).take (r - (p + 1))).map (·.toNat) = T at *
                generalize byt s r = c at *
                have hc256 : c < 256 := by omega
                clear a2 a6 hTL
                go_wp2_with fail
                refine HC2.out.mono ?_
                rintro e _ ⟨rfl, rfl⟩
                go_wp2_with (
                  at_builtin
                  go_loud (refine wpList_appB _ rfl _ _ rfl w.heap.size _ T rfl (OwnB.alloc HOr.out _) wr.heap.size c rfl (by simp [go_sem]) hc256 (by simp; omega) (by have := HTL.out; omega) ?_)
                  intro v1 w1 hown1 hgr1
                  have HO1 := Lib.hid hown1
                  have HB1 := Lib.hid ((HBr.out.alloc hgs2 _).grown hgr1 (by simp; omega) (fun x hx => (HOr.out.own.lt x hx).1))
                  clear hown1 hgr1)
                go_wp2_with fail
                go_roundw
                case rel => exact ⟨r + 1, true, by go_num, by omega, by omega, by congr 1; omega, rfl, ⟨fun _ => by omega, fun _ => rfl⟩, by rw [HO1'.out]; exact HO1, HB1⟩
                case measure => simp only [intOf]; omega
              · obtain rfl : r = i2 := by omega
                have HC2 := Lib.hid (HDg.out r wr (by omega))
                have hx0 := HSout.out (p + 1)
                rw [← HN2.out, ← HI2.out] at hx0
                rw [hx0] at HC2
                have htk : (lead (s.data.toList.drop (p + 1))).take (r - (p + 1)) = lead (s.data.toList.drop (p + 1)) := List.take_of_length_le (by rw [← HN2.out]; have := HI2.out; omega)
                have HO3 : Hid (_ = _) := htk
                have HO4 := HOr
                rw [HO3.out, ← List.map_append, ← HMt1.out.1] at HO4
                have HE : Hid ((r : Int) = ((f + N0 : Nat) : Int) ∧ (p : Int) + 1 - (r : Int) = X0 ∧ b = decide (A ≠ [])) := by
                  have h2 := HMt1.out.2.2
                  have h3 := HI2.out
                  refine ⟨by omega, by rw [HMt1.out.2.1]; omega, ?_⟩
                  have h1 := HBt.out
                  have h5 : A.length = n1 + n2 := by rw [HMt1.out.1, List.length_append, HA1l.out, ← HN2.out]
                  rw [Bool.eq_iff_iff, h1, decide_eq_true_iff, show n1 + (r - (p + 1)) = A.length by omega]
                  exact List.length_pos_iff
                clear htk hx0 hri
                go_wp2_with fail
                refine HC2.out.mono ?_
                rintro e _ ⟨rfl, rfl⟩
                go_wp2_with fail
                go_meet
                exact ⟨by rw [HE.out.1], by rw [HE.out.2.1], by rw [HE.out.2.2], HO4, HBr⟩
        case rest =>
          obtain ⟨rfl, rfl, rfl, HO2, HB2⟩ := hcut
          obtain ⟨wx0, rfl⟩ : ∃ wx0 : World, wx0 = wc := ⟨_, rfl⟩
          have hgs2 := HB2.out.size
          by_cases hA0 : A = []
          · have hres := HN0.out (by rw [HAN.out]; exact hA0)
            have HRes := Lib.hid hres
            have hdA : decide (A ≠ []) = false := by simp [hA0]
            rw [hdA]
            clear hres hA0 hdA
            go_wp2_with fail
            go_ret2
            exact ⟨by rw [HRes.out.1, HRes.out.2]; rfl, HB2.out⟩
          have hdA : decide (A ≠ []) = true := by simp [hA0]
          rw [hdA]
          obtain ⟨g, cap, rfl, hgl, hba⟩ := own_bytes HO2.out hA0
          have HBa := Lib.hid hba
          have HNe := Lib.hid hA0
          have HDa : Hid (Digits A) := by
            show Digits A
            rw [HMt.out.1, HA1.out]
            refine digits_append (HLd.out f) ?_
            cases dot
            · exact fun c h => by cases h
            · exact HLd.out (p + 1)
          obtain ⟨i, hi⟩ : ∃ i, i = f + N0 := ⟨_, rfl⟩
          rw [← hi]
          have HI := Lib.hid hi
          have hnA : A.length ≤ 3500 ∧ -3500 ≤ X0 ∧ X0 ≤ 0 ∧ i ≤ m := by
            have h1 := HMt.out
            have h2 := HPe.out
            rw [h1.1, List.length_append, HA1l.out, hi, h1.2.1, h1.2.2]
            rcases hd : dot with _ | _
            · simp only [Bool.false_eq_true, if_false, List.length_nil]; omega
            · have h3 := HdP.out hd
              simp only [if_true, ← HN2.out]; omega
          obtain ⟨hAl, hX1, hX2, him⟩ := hnA
          have hA1 : 0 < A.length := List.length_pos_iff.2 hA0
          have HFin : Hid (∀ X1 N1, expL (s.data.toList.drop i) = (X1, N1) → RV = numV A (X0 + X1) ∧ RE = i + N1) := by
            intro X1 N1 h
            have := HN.out A X0 N0 X1 N1 HAN.out HNe.out (by rw [← HI.out]; exact h)
            rw [← HI.out] at this
            exact this
          clear hba hA0 hdA hi HO2 HO HB HMt HdP HX2 HX3 HAN HDot HSm HC
          -- the letter
          obtain ⟨eB, heB⟩ : ∃ eB : Bool, eB = decide (i < m ∧ (byt s i = 101 ∨ byt s i = 69)) := ⟨_, rfl⟩
          have HEB := Lib.hid heB
          clear heB
          go_upto_region 16 with fail
          go_cut [77] (fun c wx => c = .bool eB ∧ wx0 = wx)
          case first =>
            by_cases him2 : i < m
            · have his : i < s.size := by rw [← HM.out]; exact him2
              have hcc := byt_in his
              have hiI : (i : Int) < (m : Int) := by omega
              by_cases h101 : byt s i = 101
              · have hd : Hid (eB = true) := by show _ = _; rw [HEB.out]; exact decide_eq_true ⟨him2, .inl h101⟩
                rw [h101] at hcc
                clear h101
                go_wp2_with fail
                go_meet
                exact ⟨by rw [hd.out], rfl⟩
              · by_cases h69 : byt s i = 69
                · have hd : Hid (eB = true) := by show _ = _; rw [HEB.out]; exact decide_eq_true ⟨him2, .inr h69⟩
                  rw [h69] at hcc
                  clear h69 h101
                  go_wp2_with fail
                  go_meet
                  exact ⟨by rw [hd.out], rfl⟩
                · have hd : Hid (eB = false) := by show _ = _; rw [HEB.out]; exact decide_eq_false (fun h => h.2.elim h101 h69)
                  generalize byt s i = c at *
                  have hc1 : ((c : Int) == 101) = false := beq_eq_false_iff_ne.2 (by omega)
                  have hc2 : ((c : Int) == 69) = false := beq_eq_false_iff_ne.2 (by omega)
                  clear h69 h101
                  go_wp2_with fail
                  go_meet
                  exact ⟨by rw [hd.out], rfl⟩
            · have hd : Hid (eB = false) := by show _ = _; rw [HEB.out]; exact decide_eq_false (fun h => him2 h.1)
              have hpI : (m : Int) ≤ (i : Int) := by omega
              have hpJ : decide ((i : Int) < (m : Int)) = false := by simp; omega
              have hpK : decide (i < m) = false := by simp; omega
              go_wp2_with fail
              go_meet
              exact ⟨by rw [hd.out], rfl⟩
          case rest =>
            obtain ⟨rfl, rfl⟩ := hcut
            obtain ⟨⟨X1, N1⟩, hXN⟩ : ∃ x, x = expL (s.data.toList.drop i) := ⟨_, rfl⟩
            have HXN : Hid (expL (s.data.toList.drop i) = (X1, N1)) := hXN.symm
            clear hXN
            go_upto_if 77 with fail
            go_cut [6, 7] (fun iv xv wx => iv = .int .i64 ((i + N1 : Nat) : Int) ∧ xv = .int .i64 (X0 + X1) ∧ -100000 ≤ X1 ∧ X1 ≤ 100000 ∧ wx0 = wx)
            case first =>
              cases eB
              · have hex := exp_none (s := s) (i := i) (fun h => by
                  have := HEB.out
                  rw [HM.out, decide_eq_true h] at this; cases this)
                have hx := HXN.out
                rw [hex] at hx
                injection hx with hx1 hx2
                have HX := Lib.hid (And.intro hx1 hx2)
                clear hx1 hx2 hex
                go_wp2_with fail
                go_meet
                refine ⟨?_, ?_, ?_, ?_, rfl⟩
                · rw [← HX.out.2]; rfl
                · rw [← HX.out.1, Int.add_zero]
                · rw [← HX.out.1]; decide
                · rw [← HX.out.1]; decide
              · have hee := of_decide_eq_true HEB.out.symm
                have him2 : i < m := hee.1
                have his : i < s.size := by rw [← HM.out]; exact him2
                obtain ⟨⟨k, mi⟩, hsg⟩ : ∃ x, x = sgnB s i := ⟨_, rfl⟩
                have hex := exp_some (k := k) (mi := mi) his hee.2 hsg.symm
                have HEx := Lib.hid hex
                have HSg := Lib.hid hsg
                obtain ⟨sB, hsB⟩ : ∃ sB : Bool, sB = decide (i + 1 < m ∧ (byt s (i + 1) = 43 ∨ byt s (i + 1) = 45)) := ⟨_, rfl⟩
                have HSB := Lib.hid hsB
                have hiI : (i : Int) < (m : Int) := by omega
                have HCase : Hid ((sB = true ∧ k = 2 ∧ i + 1 < m ∧ ((mi = false ∧ byt s (i + 1) = 43) ∨ (mi = true ∧ byt s (i + 1) = 45))) ∨ (sB = false ∧ k = 1 ∧ mi = false)) := by
                  show _ ∨ _
                  have h := hsg
                  unfold sgnB at h
                  rw [← HM.out] at h
                  by_cases h43 : i + 1 < m ∧ byt s (i + 1) = 43
                  · rw [if_pos h43] at h
                    injection h with h1 h2
                    exact .inl ⟨by rw [hsB]; exact decide_eq_true ⟨h43.1, .inl h43.2⟩, h1, h43.1, .inl ⟨h2, h43.2⟩⟩
                  · rw [if_neg h43] at h
                    by_cases h45 : i + 1 < m ∧ byt s (i + 1) = 45
                    · rw [if_pos h45] at h
                      injection h with h1 h2
                      exact .inl ⟨by rw [hsB]; exact decide_eq_true ⟨h45.1, .inr h45.2⟩, h1, h45.1, .inr ⟨h2, h45.2⟩⟩
                    · rw [if_neg h45] at h
                      injection h with h1 h2
                      exact .inr ⟨by rw [hsB]; exact decide_eq_false (fun hh => hh.2.elim (fun x => h43 ⟨hh.1, x⟩) (fun x => h45 ⟨hh.1, x⟩)), h1, h2⟩
                have hk12 : 1 ≤ k ∧ k ≤ 2 ∧ i + k ≤ m := by
                  rcases HCase.out with ⟨_, h1, h2, _⟩ | ⟨_, h1, _⟩ <;> omega
                obtain ⟨hk1, hk2, hkm⟩ := hk12
                clear hee his hex hsg hsB
                go_upto_region 18 with fail
                go_cut [95] (fun c wx => c = .bool sB ∧ wx0 = wx)
                case first =>
                  by_cases him3 : i + 1 < m
                  · have his : i + 1 < s.size := by rw [← HM.out]; exact him3
                    have hcc := byt_in his
                    have hi3 : (i : Int) + 1 < (m : Int) := by omega
                    by_cases h43 : byt s (i + 1) = 43
                    · have hd : Hid (sB = true) := by show _ = _; rw [HSB.out]; exact decide_eq_true ⟨him3, .inl h43⟩
                      rw [h43] at hcc
                      clear h43
                      go_wp2_with fail
                      go_meet
                      exact ⟨by rw [hd.out], rfl⟩
                    · by_cases h45 : byt s (i + 1) = 45
                      · have hd : Hid (sB = true) := by show _ = _; rw [HSB.out]; exact decide_eq_true ⟨him3, .inr h45⟩
                        rw [h45] at hcc
                        clear h45 h43
                        go_wp2_with fail
                        go_meet
                        exact ⟨by rw [hd.out], rfl⟩
                      · have hd : Hid (sB = false) := by show _ = _; rw [HSB.out]; exact decide_eq_false (fun h => h.2.elim h43 h45)
                        generalize byt s (i + 1) = c at *
                        have hc1 : ((c : Int) == 43) = false := beq_eq_false_iff_ne.2 (by omega)
                        have hc2 : ((c : Int) == 45) = false := beq_eq_false_iff_ne.2 (by omega)
                        clear h43 h45
                        go_wp2_with fail
                        go_meet
                        exact ⟨by rw [hd.out], rfl⟩
                  · have hd : Hid (sB = false) := by show _ = _; rw [HSB.out]; exact decide_eq_false (fun h => him3 h.1)
                    have hpI : (m : Int) ≤ (i : Int) + 1 := by omega
                    have hpJ : decide ((i : Int) + 1 < (m : Int)) = false := by simp; omega
                    go_wp2_with fail
                    go_meet
                    exact ⟨by rw [hd.out], rfl⟩
                case rest =>
                  obtain ⟨rfl, rfl⟩ := hcut
                  obtain ⟨q, hq⟩ : ∃ q, q = i + k := ⟨_, rfl⟩
                  have HQ := Lib.hid hq
                  go_upto_if 95 with fail
                  go_cut [10, 11] (fun kv mv wx => kv = .int .i64 (q : Int) ∧ mv = .bool mi ∧ wx0 = wx)
                  case first =>
                    rcases HCase.out with ⟨rfl, hk, hm1, ⟨rfl, hb⟩ | ⟨rfl, hb⟩⟩ | ⟨rfl, hk, rfl⟩
                    · have his : i + 1 < s.size := by rw [← HM.out]; exact hm1
                      have hcc := byt_in his
                      rw [hb] at hcc
                      have hi3 : (i : Int) + 1 < (m : Int) := by omega
                      have hqI : (i : Int) + 1 + 1 = (q : Int) := by omega
                      have HQI := Lib.hid hqI
                      clear hb hqI hq hk hkm hk1 hk2
                      go_wp2_with fail
                      go_meet
                      exact ⟨by first | rfl | exact congrArg (Value.int .i64) HQI.out | (have := HQI.out; congr 1; omega), rfl, rfl⟩
                    · have his : i + 1 < s.size := by rw [← HM.out]; exact hm1
                      have hcc := byt_in his
                      rw [hb] at hcc
                      have hi3 : (i : Int) + 1 < (m : Int) := by omega
                      have hqI : (i : Int) + 1 + 1 = (q : Int) := by omega
                      have HQI := Lib.hid hqI
                      clear hb hqI hq hk hkm hk1 hk2
                      go_wp2_with fail
                      go_meet
                      exact ⟨by first | rfl | exact congrArg (Value.int .i64) HQI.out | (have := HQI.out; congr 1; omega), rfl, rfl⟩
                    · have hqI : (i : Int) + 1 = (q : Int) := by omega
                      have HQI := Lib.hid hqI
                      clear hqI hq hk hkm hk1 hk2
                      go_wp2_with fail
                      go_meet
                      exact ⟨by first | rfl | exact congrArg (Value.int .i64) HQI.out, rfl, rfl⟩
                  case rest =>
                    obtain ⟨rfl, rfl, rfl⟩ := hcut
                    obtain ⟨n3, hn3⟩ : ∃ n3, n3 = (lead (s.data.toList.drop q)).length := ⟨_, rfl⟩
                    have hex := HEx.out
                    rw [← HQ.out, ← hn3] at hex
                    have HN3 := Lib.hid hn3
                    have HEx1 := Lib.hid hex
                    have hqm : q ≤ m := by omega
                    have hqn : q + n3 ≤ m := by
                      have := HSle.out q (by rw [← HM.out]; exact hqm)
                      rw [← HN3.out, ← HM.out] at this; exact this
                    have HC3 := Lib.hid (HDg.out q wx0 (by omega))
                    have hiq : i < q ∧ q = i + k := by omega
                    have HIQ := Lib.hid hiq
                    clear hn3 hex hq hiq HCase HEB HSB HSg HEx
                    by_cases hn0 : n3 = 0
                    · have hcn := HSout.out q
                      rw [← HN3.out, hn0, Nat.add_zero] at hcn
                      rw [hcn] at HC3
                      have hx := HXN.out
                      rw [HEx1.out, if_neg (by omega)] at hx
                      injection hx with hx1 hx2
                      have HX := Lib.hid (And.intro hx1 hx2)
                      clear hx1 hx2 hcn hn0
                      go_wp2_with fail
                      refine HC3.out.mono ?_
                      rintro e _ ⟨rfl, rfl⟩
                      go_wp2_with fail
                      go_meet
                      refine ⟨?_, ?_, ?_, ?_, rfl⟩
                      · rw [← HX.out.2]; rfl
                      · rw [← HX.out.1, Int.add_zero]
                      · rw [← HX.out.1]; decide
                      · rw [← HX.out.1]; decide
                    · have hcn := (HSin.out q 0 (by rw [← HN3.out]; omega)).2.1
                      rw [Nat.add_zero] at hcn
                      rw [hcn] at HC3
                      have hx := HXN.out
                      rw [HEx1.out, if_pos (by omega)] at hx
                      injection hx with hx1 hx2
                      have HX := Lib.hid (And.intro hx1 hx2)
                      obtain ⟨q3, hq3⟩ : ∃ q3, q3 = q + n3 := ⟨_, rfl⟩
                      have HQ3 := Lib.hid hq3
                      have hq3m : q3 ≤ m := by omega
                      have hqq : q ≤ q3 := by omega
                      clear hx1 hx2 hcn hn0 hq3
                      go_wp2_with fail
                      refine HC3.out.mono ?_
                      rintro e _ ⟨rfl, rfl⟩
                      go_wp2_with fail
                      go_loop [10, 12] (fun iv nv => ∃ r : Nat, iv = .int .i64 (r : Int) ∧ q ≤ r ∧ r ≤ q3 ∧ nv = .int .i64 ((powN ((lead (s.data.toList.drop q)).take (r - q)) : Nat) : Int)) (fun iv _ => q3 - (intOf iv).toNat)
                      case atStart => exact ⟨q, rfl, Nat.le_refl _, hqq, by rw [Nat.sub_self]; rfl⟩
                      case round =>
                        obtain ⟨r, rfl, hr1, hr2, rfl⟩ := hrel
                        by_cases hri : r < q3
                        · obtain ⟨a1, a2, a3, a4, _, _, a7⟩ := HSin.out q (r - q) (by rw [← HN3.out]; have := HQ3.out; omega)
                          rw [show q + (r - q) = r by omega] at a1 a2 a3 a4 a7
                          have HC4 := Lib.hid (HDg.out r wx0 (by omega))
                          rw [a2] at HC4
                          have hcc := byt_in a1
                          have hrm : (r : Int) < (m : Int) := by omega
                          have hpl := powN_le ((lead (s.data.toList.drop q)).take (r - q))
                          rw [show r - q + 1 = r + 1 - q by omega] at a7
                          generalize powN ((lead (s.data.toList.drop q)).take (r - q)) = P at *
                          generalize byt s r = c at *
                          have ed : IntKind.wrap .u8 ((c : Int) - 48) = ((c - 48 : Nat) : Int) := by rw [IntKind.wrap_u8]; omega
                          have ed2 : ((c : Int) - 48) % 256 = ((c - 48 : Nat) : Int) := by omega
                          have ed3 : (c : Int) - 48 = ((c - 48 : Nat) : Int) := by omega
                          have hd9 : c - 48 ≤ 9 := by omega
                          generalize c - 48 = d at *
                          obtain ⟨M, hMM⟩ : ∃ M, M = min (10 * P + d) 100000 := ⟨_, rfl⟩
                          have eM : min ((10 : Int) * P + d) 100000 = (M : Int) := by omega
                          rw [← hMM] at a7
                          have A7 := Lib.hid a7
                          clear a2 a7 hMM
                          go_wp2_with fail
                          refine HC4.out.mono ?_
                          rintro e _ ⟨rfl, rfl⟩
                          go_wp2_with fail
                          go_round
                          case rel => exact ⟨r + 1, by go_num, by omega, by omega, by rw [A7.out]⟩
                          case measure => simp only [intOf]; omega
                        · obtain rfl : r = q3 := by omega
                          have HC4 := Lib.hid (HDg.out r wx0 (by omega))
                          have hx0 := HSout.out q
                          rw [← HN3.out, ← HQ3.out] at hx0
                          rw [hx0] at HC4
                          have htk : (lead (s.data.toList.drop q)).take (r - q) = lead (s.data.toList.drop q) := List.take_of_length_le (by rw [← HN3.out]; have := HQ3.out; omega)
                          rw [htk]
                          have hpl := powN_le (lead (s.data.toList.drop q))
                          have HRI : Hid (r = i + N1) := by show _ = _; rw [← HX.out.2]; have := HQ3.out; have := HIQ.out; omega
                          have hXX := HX.out.1
                          unfold powL at hXX
                          rw [← HQ.out] at *
                          generalize powN (lead (s.data.toList.drop q)) = P at *
                          cases mi
                          · have HXX : Hid ((P : Int) = X1) := by rw [← hXX]; rfl
                            clear hXX hx0 htk hri
                            go_wp2_with fail
                            refine HC4.out.mono ?_
                            rintro e _ ⟨rfl, rfl⟩
                            go_wp2_with fail
                            go_meet
                            refine ⟨by rw [HRI.out], by rw [HXX.out], ?_, ?_, rfl⟩
                            · rw [← HXX.out]; omega
                            · rw [← HXX.out]; omega
                          · have HXX : Hid (-(P : Int) = X1) := by rw [← hXX]; rfl
                            clear hXX hx0 htk hri
                            go_wp2_with fail
                            refine HC4.out.mono ?_
                            rintro e _ ⟨rfl, rfl⟩
                            go_wp2_with fail
                            go_meet
                            refine ⟨by rw [HRI.out], by first | rw [HXX.out] | (rw [← HXX.out]; congr 1; omega), ?_, ?_, rfl⟩
                            · rw [← HXX.out]; omega
                            · rw [← HXX.out]; omega
            case rest =>
              obtain ⟨rfl, rfl, hY1, hY2, rfl⟩ := hcut
              have HRes := Lib.hid (HFin.out X1 N1 HXN.out)
              go_wp2_with fail
              refine (value_any g 0 A.length cap A (X0 + X1) _ HBa.out HDa.out (by omega) hA1 hgl (by omega) (by omega)).mono ?_
              rintro e w9 ⟨rfl, hb9⟩
              have HB9 := Lib.hid (HB2.out.trans (hb9.mono hgs2))
              clear hb9
              go_wp2_with fail
              go_ret2
              exact ⟨by rw [HRes.out.1, HRes.out.2]; rfl, HB9.out⟩
end Go.Proofs.YtcmpdamfeoaapaaGreatDoor
