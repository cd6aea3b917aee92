/- The document's answer of package num (thresherref04): Prefix, Looks. -/
import Derived.Test.YtcmpdamfeoaapaaGreatDoorQ19
import Derived.Test.YtcmpdamfeoaapaaGreatDoorM5
namespace Go.Proofs.YtcmpdamfeoaapaaGreatDoor
open Go.RowKit
set_option linter.unusedVariables false

/-- a blank of a number's text -/
def blkB (c : Nat) : Bool := decide (c = 32) || (decide (c = 9) || decide (c = 10))
theorem blank_any (c : Nat) (w : World) (hc : c < 256) :
    Calls Tryz.prog 50 #[.int .u8 (c : Int)] w fun e w' => e = .returned (.bool (blkB c)) ∧ w = w' := by
  by_cases h1 : c = 32
  · subst h1
    go_enter Tryz.func50, Tryz.ntmps50
    go_wp2_with fail
    go_ret
    exact ⟨rfl, rfl⟩
  · by_cases h2 : c = 9
    · subst h2
      go_enter Tryz.func50, Tryz.ntmps50
      go_wp2_with fail
      go_ret
      exact ⟨rfl, rfl⟩
    · by_cases h3 : c = 10
      · subst h3
        go_enter Tryz.func50, Tryz.ntmps50
        go_wp2_with fail
        go_ret
        exact ⟨rfl, rfl⟩
      · have HR : Hid (blkB c = false) := by show _ = _; unfold blkB; simp [h1, h2, h3]
        have e1 : ((c : Int) == 32) = false := beq_eq_false_iff_ne.2 (by omega)
        have e2 : ((c : Int) == 9) = false := beq_eq_false_iff_ne.2 (by omega)
        have e3 : ((c : Int) == 10) = false := beq_eq_false_iff_ne.2 (by omega)
        clear h1 h2 h3
        go_enter Tryz.func50, Tryz.ntmps50
        go_wp2_with fail
        go_ret
        exact ⟨by rw [HR.out]; rfl, rfl⟩
theorem ws_iff (c : UInt8) : wsL.contains c = blkB c.toNat := by
  unfold blkB wsL
  rw [Bool.eq_iff_iff]
  simp only [List.contains_iff_mem, List.mem_cons, List.not_mem_nil, or_false, Bool.or_eq_true, decide_eq_true_iff]
  constructor
  · rintro (rfl | rfl | rfl) <;> decide
  · rintro (h | h | h)
    · exact .inl (UInt8.toNat_inj.1 h)
    · exact .inr (.inl (UInt8.toNat_inj.1 h))
    · exact .inr (.inr (UInt8.toNat_inj.1 h))
/-- the blanks ahead -/
def nbL (l : List UInt8) : Nat := (l.takeWhile (wsL.contains ·)).length
theorem unblank_drop (l : List UInt8) : unblank l = l.drop (nbL l) := by
  have h := List.takeWhile_append_dropWhile (p := (wsL.contains ·)) (l := l)
  have h2 : l.drop (nbL l) = (l.takeWhile (wsL.contains ·) ++ l.dropWhile (wsL.contains ·)).drop (nbL l) := by rw [h]
  rw [h2]
  unfold nbL
  rw [List.drop_left]; rfl
theorem nb_in {s : ByteArray} {k : Nat} (h : k < nbL s.data.toList) : k < s.size ∧ blkB (byt s k) = true := by
  have hl : nbL s.data.toList ≤ s.data.toList.length := (List.takeWhile_sublist _).length_le
  have hs : s.size = s.data.toList.length := by simp
  refine ⟨by omega, ?_⟩
  have e : s.data.toList = s.data.toList.takeWhile (wsL.contains ·) ++ s.data.toList.dropWhile (wsL.contains ·) := (List.takeWhile_append_dropWhile).symm
  have h2 : s.data.toList[k]? = (s.data.toList.takeWhile (wsL.contains ·))[k]? := by
    have e2 : s.data.toList[k]? = (s.data.toList.takeWhile (wsL.contains ·) ++ s.data.toList.dropWhile (wsL.contains ·))[k]? := by rw [← e]
    rw [e2, List.getElem?_append_left h]
  rw [List.getElem?_eq_getElem (by omega), List.getElem?_eq_getElem h] at h2
  have h3 := Option.some.inj h2
  have h4 := tw_all _ _ _ (List.getElem_mem h)
  rw [byt_list (by omega), ← ws_iff, h3]
  exact h4
theorem nb_out {s : ByteArray} (h : nbL s.data.toList < s.size) : blkB (byt s (nbL s.data.toList)) = false := by
  have hs : s.size = s.data.toList.length := by simp
  have hne : unblank s.data.toList ≠ [] := by
    rw [unblank_drop]
    intro h0
    have := congrArg List.length h0
    rw [List.length_drop] at this
    simp at this; omega
  obtain ⟨c, e, hc⟩ := drop_at h
  have e2 := unblank_drop s.data.toList
  rw [e] at e2
  have := dw_head _ _ _ _ e2
  rw [← hc, ← ws_iff]
  exact this
theorem numV_le (l : List UInt8) (e : Int) : numV l e ≤ 9218868437227405312 := by
  unfold numV; split
  · omega
  · exact near_le _ _

set_option maxRecDepth 100000 in
set_option maxHeartbeats 16000000 in
theorem Prefix4_any (s : ByteArray) (w : World) (hs : s.size ≤ 3500) :
    Calls Tryz.prog 11 #[.string s] w fun e w' => e = .returned (.tuple #[.float .f64 (prefB s.data.toList), .int .i64 (prefN s.data.toList : Nat)]) ∧ Below w.heap.size w w' := by
  have hsl : s.size = s.data.toList.length := by simp
  obtain ⟨n0, hn0⟩ : ∃ n0, n0 = nbL s.data.toList := ⟨_, rfl⟩
  have hn0m : n0 ≤ s.size := by rw [hn0, hsl]; exact (List.takeWhile_sublist _).length_le
  have HIn : Hid (∀ k, k < n0 → k < s.size ∧ blkB (byt s k) = true) := fun k h => nb_in (by rw [← hn0]; exact h)
  have HOut : Hid (n0 < s.size → blkB (byt s n0) = false) := fun h => by rw [hn0]; exact nb_out (by rw [← hn0]; exact h)
  have hub : unblank s.data.toList = s.data.toList.drop n0 := by rw [hn0]; exact unblank_drop _
  obtain ⟨⟨sk, mi⟩, hsg⟩ : ∃ x, x = signB (s.data.toList.drop n0) := ⟨_, rfl⟩
  have hsg2 : (n0 < s.size ∧ byt s n0 = 45 ∧ sk = 1 ∧ mi = true) ∨ (n0 < s.size ∧ byt s n0 = 43 ∧ sk = 1 ∧ mi = false) ∨ ((n0 < s.size → byt s n0 ≠ 45 ∧ byt s n0 ≠ 43) ∧ sk = 0 ∧ mi = false) := by
    rcases Nat.lt_or_ge n0 s.size with h1 | h1
    · obtain ⟨c, e, hc⟩ := drop_at h1
      rw [e] at hsg
      by_cases h45 : c = 45
      · rw [h45] at hsg
        injection hsg with h2 h3
        exact .inl ⟨h1, by rw [← hc, h45]; rfl, h2, h3⟩
      · by_cases h43 : c = 43
        · rw [h43] at hsg
          injection hsg with h2 h3
          exact .inr (.inl ⟨h1, by rw [← hc, h43]; rfl, h2, h3⟩)
        · have : signB (c :: s.data.toList.drop (n0 + 1)) = (0, false) := by
            unfold signB
            split
            · rename_i h; injection h with h _; exact absurd h h45
            · rename_i h; injection h with h _; exact absurd h h43
            · rfl
          rw [this] at hsg
          injection hsg with h2 h3
          exact .inr (.inr ⟨fun _ => ⟨fun h => h45 (UInt8.toNat_inj.1 (by rw [hc, h]; rfl)), fun h => h43 (UInt8.toNat_inj.1 (by rw [hc, h]; rfl))⟩, h2, h3⟩)
    · rw [drop_past h1] at hsg
      injection hsg with h2 h3
      exact .inr (.inr ⟨fun h => by omega, h2, h3⟩)
  have hskm : n0 + sk ≤ s.size := by rcases hsg2 with ⟨h, _, h2, _⟩ | ⟨h, _, h2, _⟩ | ⟨_, h2, _⟩ <;> omega
  obtain ⟨i, hi⟩ : ∃ i, i = n0 + sk := ⟨_, rfl⟩
  have hcore : coreL s.data.toList = numeralL (s.data.toList.drop i) := by
    unfold coreL
    rw [hub, ← hsg, List.drop_drop, hi]
  have HNu := Lib.hid (fun W => Numeral4_any s i W (by omega) hs)
  obtain ⟨⟨A, X, N⟩, hnu⟩ : ∃ x, x = numeralL (s.data.toList.drop i) := ⟨_, rfl⟩
  rw [← hnu] at HNu hcore
  have hAd : Digits A ∧ A.length ≤ 3600 := by
    have : A = (numeralL (s.data.toList.drop i)).1 := by rw [← hnu]
    rw [this]
    unfold numeralL
    split
    · exact ⟨fun c h => by (cases h), by decide⟩
    · show Digits (mantL _).1 ∧ (mantL _).1.length ≤ _
      unfold mantL
      have hl1 := lead_le4 (s.data.toList.drop i)
      rw [List.length_drop] at hl1
      split
      · rename_i r hr
        split
        · have hl2 := lead_le4 r
          have hl3 : r.length ≤ s.data.toList.length := by
            have := congrArg List.length hr
            rw [List.length_drop, List.length_drop] at this
            simp at this; omega
          refine ⟨digits_append (lead_digits _) (lead_digits _), ?_⟩
          show (lead _ ++ lead r).length ≤ _
          have hl4 : (lead (s.data.toList.drop i)).length + r.length ≤ s.data.toList.length := by
            have := congrArg List.length hr
            rw [List.length_drop, List.length_drop] at this
            simp at this; omega
          rw [List.length_append]; omega
        · exact ⟨lead_digits _, by show (lead _).length ≤ _; omega⟩
      · exact ⟨lead_digits _, by show (lead _).length ≤ _; omega⟩
  have hrd := readN_val (e := X) hAd.1 hAd.2
  have HZ : Hid (N = 0 → prefB s.data.toList = 0 ∧ prefN s.data.toList = 0) := by
    intro h
    unfold prefB prefM prefV prefN
    rw [hcore]
    simp only []
    rw [if_pos h, if_pos h, if_pos h]
    exact ⟨rfl, rfl⟩
  have hvl := numV_le A X
  have HP : Hid (N ≠ 0 → prefB s.data.toList = (if mi then numV A X + 9223372036854775808 else numV A X) ∧ prefN s.data.toList = i + N) := by
    intro h
    unfold prefB prefM prefV prefN
    rw [hcore, hub, ← hsg]
    simp only []
    rw [if_neg h, if_neg h, if_neg h, hrd]
    refine ⟨rfl, ?_⟩
    rw [List.length_drop, hi]
    omega
  generalize numV A X = V at *
  generalize prefB s.data.toList = RB at *
  generalize prefN s.data.toList = RN at *
  have HS2 := Lib.hid hsg2
  obtain ⟨m, hm⟩ : ∃ m, m = s.size := ⟨_, rfl⟩
  have HM := Lib.hid hm
  have hmI : (s.size : Int) = (m : Int) := by omega
  have hm3 : m ≤ 3500 := by omega
  have hn0m2 : n0 ≤ m := by omega
  have him : i ≤ m := by omega
  have HI := Lib.hid hi
  have h256 : Hid (∀ k, byt s k < 256) := fun k => by
    unfold byt; split
    · exact UInt8.toNat_lt _
    · omega
  clear hsg2 hskm hcore hnu hAd hrd hub hsg hn0 hn0m hs hsl hm hi
  go_enter Tryz.func11, Tryz.ntmps11
  go_wp2_with fail
  go_loop [4] (fun v => ∃ p : Nat, v = .int .i64 (p : Int) ∧ p ≤ n0) (fun v => n0 - (intOf v).toNat)
  case atStart => exact ⟨0, rfl, Nat.zero_le _⟩
  case round =>
    obtain ⟨p, rfl, hp⟩ := hrel
    by_cases hpn : p < n0
    · obtain ⟨h1, h2⟩ := HIn.out p hpn
      have hcc := byt_in h1
      have hb := h256.out p
      have hpI : (p : Int) < (m : Int) := by omega
      generalize byt s p = c at *
      have HBk := Lib.hid (blank_any c w hb)
      rw [h2] at HBk
      clear h2
      go_wp2_with fail
      refine HBk.out.mono ?_
      rintro e _ ⟨rfl, rfl⟩
      go_wp2_with fail
      go_round
      case rel => exact ⟨p + 1, by go_num, by omega⟩
      case measure => simp only [intOf]; omega
    · obtain rfl : p = n0 := by omega
      clear hpn
      rcases HS2.out with ⟨h, hb, rfl, rfl⟩ | ⟨h, hb, rfl, rfl⟩ | ⟨h, rfl, rfl⟩
      · have hcc := byt_in h
        rw [hb] at hcc
        have hpI : (p : Int) < (m : Int) := by have := HM.out; omega
        have HBk : Hid (Calls Tryz.prog 50 #[.int .u8 45] w fun e w' => e = .returned (.bool false) ∧ w = w') := blank_any 45 w (by decide)
        clear hb
        have ei : (i : Int) = (p : Int) + 1 := by have := HI.out; omega
        have HNu2 := HNu
        rw [ei] at HNu2
        by_cases hN : N = 0
        · have HZ1 := Lib.hid (HZ.out hN)
          have htst : (((i + N : Nat) : Int) == (p : Int) + 1) = true := by rw [beq_iff_eq]; omega
          clear ei hN
          go_wp2_with fail
          refine HBk.out.mono ?_
          rintro e _ ⟨rfl, rfl⟩
          go_wp2_with fail
          refine (HNu2.out _).mono ?_
          rintro e w1 ⟨rfl, hb1⟩
          have HB1 := Lib.hid hb1
          clear hb1
          go_wp2_with fail
          go_ret2
          exact ⟨by rw [HZ1.out.1, HZ1.out.2]; rfl, HB1.out⟩
        · have HPn : Hid (RB = Op.negFloat .f64 V ∧ RN = i + N) := ⟨by have h := (HP.out hN).1; rw [if_pos rfl] at h; rw [h, negF (by omega)], (HP.out hN).2⟩
          have htst : (((i + N : Nat) : Int) == (p : Int) + 1) = false := beq_eq_false_iff_ne.2 (by omega)
          clear ei hN
          go_wp2_with fail
          refine HBk.out.mono ?_
          rintro e _ ⟨rfl, rfl⟩
          go_wp2_with fail
          refine (HNu2.out _).mono ?_
          rintro e w1 ⟨rfl, hb1⟩
          have HB1 := Lib.hid hb1
          clear hb1
          go_wp2_with fail
          go_ret2
          exact ⟨by rw [HPn.out.1, HPn.out.2]; rfl, HB1.out⟩
      · have hcc := byt_in h
        rw [hb] at hcc
        have hpI : (p : Int) < (m : Int) := by have := HM.out; omega
        have HBk : Hid (Calls Tryz.prog 50 #[.int .u8 43] w fun e w' => e = .returned (.bool false) ∧ w = w') := blank_any 43 w (by decide)
        clear hb
        have ei : (i : Int) = (p : Int) + 1 := by have := HI.out; omega
        have HNu2 := HNu
        rw [ei] at HNu2
        by_cases hN : N = 0
        · have HZ1 := Lib.hid (HZ.out hN)
          have htst : (((i + N : Nat) : Int) == (p : Int) + 1) = true := by rw [beq_iff_eq]; omega
          clear ei hN
          go_wp2_with fail
          refine HBk.out.mono ?_
          rintro e _ ⟨rfl, rfl⟩
          go_wp2_with fail
          refine (HNu2.out _).mono ?_
          rintro e w1 ⟨rfl, hb1⟩
          have HB1 := Lib.hid hb1
          clear hb1
          go_wp2_with fail
          go_ret2
          exact ⟨by rw [HZ1.out.1, HZ1.out.2]; rfl, HB1.out⟩
        · have HPn : Hid (RB = V ∧ RN = i + N) := ⟨by have h := (HP.out hN).1; rw [if_neg Bool.false_ne_true] at h; exact h, (HP.out hN).2⟩
          have htst : (((i + N : Nat) : Int) == (p : Int) + 1) = false := beq_eq_false_iff_ne.2 (by omega)
          clear ei hN
          go_wp2_with fail
          refine HBk.out.mono ?_
          rintro e _ ⟨rfl, rfl⟩
          go_wp2_with fail
          refine (HNu2.out _).mono ?_
          rintro e w1 ⟨rfl, hb1⟩
          have HB1 := Lib.hid hb1
          clear hb1
          go_wp2_with fail
          go_ret2
          exact ⟨by rw [HPn.out.1, HPn.out.2]; rfl, HB1.out⟩
      · by_cases hpm : p < m
        · have hps : p < s.size := by rw [← HM.out]; exact hpm
          have hcc := byt_in hps
          have h2 := HOut.out hps
          have h3 := h hps
          have hb := h256.out p
          have hpI : (p : Int) < (m : Int) := by omega
          generalize byt s p = c at *
          have HBk := Lib.hid (blank_any c w hb)
          rw [h2] at HBk
          have c1 : ((c : Int) == 45) = false := beq_eq_false_iff_ne.2 (by omega)
          have c2 : ((c : Int) == 43) = false := beq_eq_false_iff_ne.2 (by omega)
          clear h2 h3 h
          have ei : (i : Int) = (p : Int) := by have := HI.out; omega
          have HNu2 := HNu
          rw [ei] at HNu2
          by_cases hN : N = 0
          · have HZ1 := Lib.hid (HZ.out hN)
            have htst : (((i + N : Nat) : Int) == (p : Int)) = true := by rw [beq_iff_eq]; omega
            clear ei hN
            go_wp2_with fail
            refine HBk.out.mono ?_
            rintro e _ ⟨rfl, rfl⟩
            go_wp2_with fail
            refine (HNu2.out _).mono ?_
            rintro e w1 ⟨rfl, hb1⟩
            have HB1 := Lib.hid hb1
            clear hb1
            go_wp2_with fail
            go_ret2
            exact ⟨by rw [HZ1.out.1, HZ1.out.2]; rfl, HB1.out⟩
          · have HPn : Hid (RB = V ∧ RN = i + N) := ⟨by have h := (HP.out hN).1; rw [if_neg Bool.false_ne_true] at h; exact h, (HP.out hN).2⟩
            have htst : (((i + N : Nat) : Int) == (p : Int)) = false := beq_eq_false_iff_ne.2 (by omega)
            clear ei hN
            go_wp2_with fail
            refine HBk.out.mono ?_
            rintro e _ ⟨rfl, rfl⟩
            go_wp2_with fail
            refine (HNu2.out _).mono ?_
            rintro e w1 ⟨rfl, hb1⟩
            have HB1 := Lib.hid hb1
            clear hb1
            go_wp2_with fail
            go_ret2
            exact ⟨by rw [HPn.out.1, HPn.out.2]; rfl, HB1.out⟩
        · have hpI : (m : Int) ≤ (p : Int) := by omega
          have hpJ : decide ((p : Int) < (m : Int)) = false := by simp; omega
          have hpK : decide (p < m) = false := by simp; omega
          clear h
          have ei : (i : Int) = (p : Int) := by have := HI.out; omega
          have HNu2 := HNu
          rw [ei] at HNu2
          by_cases hN : N = 0
          · have HZ1 := Lib.hid (HZ.out hN)
            have htst : (((i + N : Nat) : Int) == (p : Int)) = true := by rw [beq_iff_eq]; omega
            clear ei hN
            go_wp2_with fail
            refine (HNu2.out _).mono ?_
            rintro e w1 ⟨rfl, hb1⟩
            have HB1 := Lib.hid hb1
            clear hb1
            go_wp2_with fail
            go_ret2
            exact ⟨by rw [HZ1.out.1, HZ1.out.2]; rfl, HB1.out⟩
          · have HPn : Hid (RB = V ∧ RN = i + N) := ⟨by have h := (HP.out hN).1; rw [if_neg Bool.false_ne_true] at h; exact h, (HP.out hN).2⟩
            have htst : (((i + N : Nat) : Int) == (p : Int)) = false := beq_eq_false_iff_ne.2 (by omega)
            clear ei hN
            go_wp2_with fail
            refine (HNu2.out _).mono ?_
            rintro e w1 ⟨rfl, hb1⟩
            have HB1 := Lib.hid hb1
            clear hb1
            go_wp2_with fail
            go_ret2
            exact ⟨by rw [HPn.out.1, HPn.out.2]; rfl, HB1.out⟩

theorem looks_eq {l : List UInt8} : looksL l = (decide (0 < prefN l) && (l.drop (prefN l)).all (fun c => blkB c.toNat)) := by
  unfold looksL
  congr 1
  generalize l.drop (prefN l) = q
  have hnil : Lib.trimS q wsL = [] ↔ ∀ c ∈ q, wsL.contains c = true := by
    unfold Lib.trimS Lib.trimRightS Lib.trimLeftS
    constructor
    · intro h c hc
      have h1 := dw_nil _ _ h
      have h2 : ∀ x ∈ q.reverse.dropWhile (wsL.contains ·), wsL.contains x = true := fun x hx => h1 x (List.mem_reverse.2 hx)
      have h3 : q.reverse.dropWhile (wsL.contains ·) = [] := by
        cases hw : q.reverse.dropWhile (wsL.contains ·) with
        | nil => rfl
        | cons x r =>
          have := dw_head _ _ _ _ hw
          have h4 := h2 x (by rw [hw]; simp)
          rw [h4] at this; cases this
      exact dw_nil _ _ h3 c (List.mem_reverse.2 hc)
    · intro h
      have h3 : q.reverse.dropWhile (wsL.contains ·) = [] := dw_all _ _ fun x hx => h x (List.mem_reverse.1 hx)
      rw [h3]; rfl
  rw [Bool.eq_iff_iff, List.isEmpty_iff, hnil, List.all_eq_true]
  exact ⟨fun h c hc => by rw [← ws_iff]; exact h c hc, fun h c hc => by rw [ws_iff]; exact h c hc⟩
set_option maxRecDepth 100000 in
set_option maxHeartbeats 4000000 in
theorem Looks4_any (s : ByteArray) (w : World) (hs : s.size ≤ 3500) :
    Calls Tryz.prog 16 #[.string s] w fun e w' => e = .returned (.bool (looksL s.data.toList)) ∧ Below w.heap.size w w' := by
  have HP := Lib.hid (Prefix4_any s w hs)
  have hsl : s.size = s.data.toList.length := by simp
  rw [looks_eq]
  have HA : Hid ((s.data.toList.drop (prefN s.data.toList)).all (fun c => blkB c.toNat) = true ↔ ∀ k, prefN s.data.toList ≤ k → k < s.size → blkB (byt s k) = true) := by
    show _ ↔ _
    rw [List.all_eq_true]
    constructor
    · intro h k h1 h2
      have h3 : k < s.data.toList.length := by omega
      have := h (s.data.toList[k]) (by
        rw [List.mem_drop_iff_getElem]
        exact ⟨k - prefN s.data.toList, by omega, by congr 1; omega⟩)
      rw [byt_list h3]; exact this
    · intro h c hc
      rw [List.mem_drop_iff_getElem] at hc
      obtain ⟨j, hj, rfl⟩ := hc
      have := h (prefN s.data.toList + j) (by omega) (by omega)
      rw [byt_list (by omega)] at this
      exact this
  generalize (s.data.toList.drop (prefN s.data.toList)).all (fun c => blkB c.toNat) = Z at *
  have hpn : prefN s.data.toList ≤ 100000 := by
    have := prefN_le s.data.toList
    omega
  generalize prefN s.data.toList = n at *
  generalize prefB s.data.toList = X at *
  obtain ⟨m, hm⟩ : ∃ m, m = s.size := ⟨_, rfl⟩
  have HM := Lib.hid hm
  have hmI : (s.size : Int) = (m : Int) := by omega
  have hm3 : m ≤ 3500 := by omega
  have h256 : Hid (∀ k, byt s k < 256) := fun k => by
    unfold byt; split
    · exact UInt8.toNat_lt _
    · omega
  clear hsl hm hs
  by_cases hn0 : n = 0
  · have hb : ((n : Int) == 0) = true := by simp [hn0]
    have HR : Hid ((decide (0 < n) && Z) = false) := by show _ = _; rw [hn0]; rfl
    generalize (decide (0 < n) && Z) = R at *
    clear hn0
    go_enter Tryz.func16, Tryz.ntmps16
    go_wp2_with fail
    refine HP.out.mono ?_
    rintro e w1 ⟨rfl, hb1⟩
    have HB1 := Lib.hid hb1
    clear hb1
    go_wp2_with fail
    go_ret
    exact ⟨by rw [HR.out]; rfl, HB1.out⟩
  · have hb : ((n : Int) == 0) = false := beq_eq_false_iff_ne.2 (by omega)
    have HR : Hid ((decide (0 < n) && Z) = Z) := by show _ = _; rw [decide_eq_true (by omega)]; rfl
    generalize (decide (0 < n) && Z) = R at *
    clear hn0
    go_enter Tryz.func16, Tryz.ntmps16
    go_wp2_with fail
    refine HP.out.mono ?_
    rintro e w1 ⟨rfl, hb1⟩
    have HB1 := Lib.hid hb1
    clear hb1
    go_wp2_with fail
    go_loop [5] (fun v => ∃ k : Nat, v = .int .i64 (k : Int) ∧ n ≤ k ∧ (k ≤ m ∨ k = n) ∧ Hid (∀ j, n ≤ j → j < k → blkB (byt s j) = true)) (fun v => m - (intOf v).toNat)
    case atStart => exact ⟨n, rfl, Nat.le_refl _, .inr rfl, fun j h1 h2 => by omega⟩
    case round =>
      obtain ⟨k, rfl, hk, hk2, HK⟩ := hrel
      by_cases hkm : k < m
      · have hks : k < s.size := by rw [← HM.out]; exact hkm
        have hcc := byt_in hks
        have hb2 := h256.out k
        have hkI : (k : Int) < (m : Int) := by omega
        cases hbk : blkB (byt s k)
        · have HZf : Hid (Z = false) := by
            refine Bool.eq_false_iff.2 fun h => ?_
            have := HA.out.1 h k hk hks
            rw [hbk] at this; cases this
          generalize byt s k = c at *
          have HBk := Lib.hid (blank_any c w1 hb2)
          rw [hbk] at HBk
          clear hbk
          go_wp2_with fail
          refine HBk.out.mono ?_
          rintro e _ ⟨rfl, rfl⟩
          go_wp2_with fail
          go_ret
          exact ⟨by rw [HR.out, HZf.out]; rfl, HB1.out⟩
        · have HK1 : Hid (∀ j, n ≤ j → j < k + 1 → blkB (byt s j) = true) := by
            intro j h1 h2
            rcases Nat.lt_or_ge j k with h | h
            · exact HK.out j h1 h
            · obtain rfl : j = k := by omega
              exact hbk
          generalize byt s k = c at *
          have HBk := Lib.hid (blank_any c w1 hb2)
          rw [hbk] at HBk
          clear hbk HK
          go_wp2_with fail
          refine HBk.out.mono ?_
          rintro e _ ⟨rfl, rfl⟩
          go_wp2_with fail
          go_round
          case rel => exact ⟨k + 1, by go_num, by omega, .inl (by omega), HK1⟩
          case measure => simp only [intOf]; omega
      · have hkI : (m : Int) ≤ (k : Int) := by omega
        have hkJ : decide ((k : Int) < (m : Int)) = false := by simp; omega
        have hkK : decide (k < m) = false := by simp; omega
        have HZt : Hid (Z = true) := HA.out.2 fun j h1 h2 => HK.out j h1 (by have := HM.out; omega)
        go_wp2_with fail
        go_ret
        exact ⟨by rw [HR.out, HZt.out]; rfl, HB1.out⟩
end Go.Proofs.YtcmpdamfeoaapaaGreatDoor
