/- The document's answer of package dec (thresherref03): Fixed, Sci. -/
import Derived.Test.YtcmpdamfeoaapaaGreatDoorQ13
import Derived.Test.YtcmpdamfeoaapaaGreatDoorP0
namespace Go.Proofs.YtcmpdamfeoaapaaGreatDoor
open Go.RowKit
set_option linter.unusedVariables false

theorem canon_ex (n : Nat) : ∃ l, Canon l n := by
  induction n using Nat.strongRecOn with
  | _ n ih =>
    rcases Nat.lt_or_ge n 10 with h | h
    · refine ⟨[UInt8.ofNat (48 + n)], by simp, ?_, ?_, ?_⟩
      · intro c hc
        obtain rfl := List.mem_singleton.1 hc
        rw [show (UInt8.ofNat (48 + n)).toNat = 48 + n by simp; omega]; omega
      · simp [digVal]; omega
      · intro c r e _; simp at e; exact e.2
    · obtain ⟨l, hl⟩ := ih (n / 10) (by omega)
      have e : (UInt8.ofNat (48 + n % 10)).toNat = 48 + n % 10 := by simp; omega
      refine ⟨l ++ [UInt8.ofNat (48 + n % 10)], by simp, ?_, ?_, ?_⟩
      · refine digits_append hl.dig fun c hc => ?_
        obtain rfl := List.mem_singleton.1 hc
        rw [e]; omega
      · rw [digVal_snoc, hl.val, e]; omega
      · intro c r hcr hc
        cases hl' : l with
        | nil => exact absurd hl' hl.ne
        | cons a t =>
          rw [hl'] at hcr
          injection hcr with h1 h2
          have h3 := hl.top a t hl' (by rw [h1]; exact hc)
          have h4 := hl.val
          rw [hl', h3, digVal_cons, h1, hc] at h4
          simp [digVal] at h4
          omega
theorem fixT_of {b p : Nat} {l : List UInt8} (h : Canon l (scaledN b p)) : fixT b p = fixedL l p := by unfold fixT; rw [dl_eq h]
theorem mk_self (s : ByteArray) : (⟨s.data.toList.toArray⟩ : ByteArray) = s := by cases s; simp

theorem Fixed3_bad (b : Nat) (p : Int) (w : World) (hb : b < 18446744073709551616) (h : fin b = false ∨ p < 0 ∨ 200 < p) :
    Calls Tryz.prog 189 #[.float .f64 b, .int .i64 p] w fun e w' => e = .returned (.tuple #[.string ⟨#[]⟩, .int .i64 1]) ∧ w = w' := by
  have HP := Lib.hid (Parts3_any b w hb)
  generalize mant b = m at *
  generalize expo b = E at *
  generalize fin b = F at *
  cases F
  · clear h
    go_enter Tryz.func189, Tryz.ntmps189
    go_wp2_with fail
    refine HP.out.mono ?_
    rintro e _ ⟨rfl, rfl⟩
    go_wp2_with fail
    go_ret2
    exact ⟨rfl, rfl⟩
  · by_cases h0 : p < 0
    · clear h
      go_enter Tryz.func189, Tryz.ntmps189
      go_wp2_with fail
      refine HP.out.mono ?_
      rintro e _ ⟨rfl, rfl⟩
      go_wp2_with fail
      go_ret2
      exact ⟨rfl, rfl⟩
    · have h1 : 200 < p := by rcases h with h | h | h; cases h; exact absurd h h0; exact h
      have h2 : decide (p < 0) = false := by simp; omega
      clear h h0
      go_enter Tryz.func189, Tryz.ntmps189
      go_wp2_with fail
      refine HP.out.mono ?_
      rintro e _ ⟨rfl, rfl⟩
      go_wp2_with fail
      go_ret2
      exact ⟨rfl, rfl⟩
theorem Sci3_bad (b : Nat) (p : Int) (w : World) (hb : b < 18446744073709551616) (h : fin b = false ∨ p < 0 ∨ 200 < p) :
    Calls Tryz.prog 190 #[.float .f64 b, .int .i64 p] w fun e w' => e = .returned (.tuple #[.string ⟨#[]⟩, .int .i64 0, .int .i64 1]) ∧ w = w' := by
  have HP := Lib.hid (Parts3_any b w hb)
  generalize mant b = m at *
  generalize expo b = E at *
  generalize fin b = F at *
  cases F
  · clear h
    go_enter Tryz.func190, Tryz.ntmps190
    go_wp2_with fail
    refine HP.out.mono ?_
    rintro e _ ⟨rfl, rfl⟩
    go_wp2_with fail
    go_ret3
    exact ⟨rfl, rfl⟩
  · by_cases h0 : p < 0
    · clear h
      go_enter Tryz.func190, Tryz.ntmps190
      go_wp2_with fail
      refine HP.out.mono ?_
      rintro e _ ⟨rfl, rfl⟩
      go_wp2_with fail
      go_ret3
      exact ⟨rfl, rfl⟩
    · have h1 : 200 < p := by rcases h with h | h | h; cases h; exact absurd h h0; exact h
      have h2 : decide (p < 0) = false := by simp; omega
      clear h h0
      go_enter Tryz.func190, Tryz.ntmps190
      go_wp2_with fail
      refine HP.out.mono ?_
      rintro e _ ⟨rfl, rfl⟩
      go_wp2_with fail
      go_ret3
      exact ⟨rfl, rfl⟩

set_option maxRecDepth 100000 in
set_option maxHeartbeats 8000000 in
theorem Fixed3_ok (b p : Nat) (w : World) (hb : b < 18446744073709551616) (hf : fin b = true) (hp : p ≤ 200) :
    Calls Tryz.prog 189 #[.float .f64 b, .int .i64 (p : Int)] w fun e w' => e = .returned (.tuple #[.string ⟨(fixT b p).toArray⟩, .int .i64 0]) ∧ Below w.heap.size w w' := by
  have HP := Lib.hid (Parts3_any b w hb)
  rw [hf] at HP
  have HDg := Lib.hid (fun W => Digits3_any b W hb hf)
  have hR : Hid (∀ (Wl Fl s : List UInt8), Exact b Wl Fl → CutOk (48 :: (Wl ++ Fl)) (1 + Wl.length + p) s → s.length = 1 + Wl.length + p ∧ fixT b p = if 0 < p then stripL (s.take (1 + Wl.length)) ++ 46 :: s.drop (1 + Wl.length) else stripL (s.take (1 + Wl.length))) := by
    intro Wl Fl s h1 h2
    obtain ⟨l, hl⟩ := canon_ex (scaledN b p)
    rw [fixT_of hl]
    exact ref_fixed h1 h2 hl
  generalize mant b = m at *
  generalize expo b = E at *
  have hpI : (p : Int) ≤ 200 := by omega
  clear hf
  go_enter Tryz.func189, Tryz.ntmps189
  go_wp2_with fail
  refine HP.out.mono ?_
  rintro e _ ⟨rfl, rfl⟩
  go_wp2_with fail
  refine (HDg.out _).mono ?_
  rintro e w1 ⟨Wb, Fb, rfl, hex, hW, hF, hb1⟩
  have HEx := Lib.hid hex
  have HB1 := Lib.hid hb1
  have hs1 := hb1.size
  have HWd := Lib.hid hex.whole.dig
  have HFd := Lib.hid hex.dig
  clear hb1 HDg hex HP
  have hWl : Wb.size = Wb.data.toList.length := by simp
  have hFl : Fb.size = Fb.data.toList.length := by simp
  obtain ⟨lw, hlw⟩ : ∃ lw, lw = Wb.size := ⟨_, rfl⟩
  have hlw1 : lw ≤ 5000 := by omega
  have HLw : Hid (Wb.data.toList.length = lw) := by show _ = _; omega
  have hlwI : (Wb.size : Int) = (lw : Int) := by omega
  have hcat : (⟨#[48]⟩ ++ Wb ++ Fb : ByteArray).data.toList = 48 :: (Wb.data.toList ++ Fb.data.toList) := by simp
  have HC := Lib.hid (Cut3_any (⟨#[48]⟩ ++ Wb ++ Fb) (1 + lw + p) w1 (by rw [hcat]; intro c hc; rcases List.mem_cons.1 hc with rfl | hc; exact ⟨by decide, by decide⟩; exact digits_append HWd.out HFd.out c hc) (by
    rw [ByteArray.size_append, ByteArray.size_append]; have : (⟨#[48]⟩ : ByteArray).size = 1 := rfl
    omega) (by omega))
  rw [hcat] at HC
  have en : ((1 + lw + p : Nat) : Int) = 1 + (lw : Int) + (p : Int) := by omega
  rw [en] at HC
  clear hcat hlw hWl hFl HWd HFd en
  go_wp2_with fail
  refine HC.out.mono ?_
  rintro e w2 ⟨out, rfl, hco, hb2⟩
  rw [← HLw.out] at hco
  obtain ⟨r1, r2⟩ := hR.out _ _ _ HEx.out hco
  rw [HLw.out] at r1 r2
  have HB2 := Lib.hid (HB1.out.trans (hb2.mono hs1))
  have hol : out.size = out.data.toList.length := by simp
  have HOl : Hid (out.size = 1 + lw + p) := by show _ = _; omega
  have HOd := Lib.hid hco.dig
  have R2 := Lib.hid r2
  obtain ⟨k, hk⟩ : ∃ k, k = 1 + lw := ⟨_, rfl⟩
  rw [← hk] at R2 HOl
  have hko : k + p ≤ 9000 := by omega
  have hk1 : 1 ≤ k := by omega
  have hoI : (out.size : Int) = (k : Int) + (p : Int) := by have := HOl.out; omega
  obtain ⟨N, hN⟩ : ∃ N : Int, N = (k : Int) + (p : Int) := ⟨_, rfl⟩
  have hNp : N - (p : Int) = (k : Int) := by omega
  have hN1 : N ≤ 9000 := by omega
  have hN0 : 0 ≤ N := by omega
  rw [← hN] at hoI
  have HNn := Lib.hid hN
  clear hR hco r1 r2 hb2 HB1 hol HC HEx hk HLw hlwI hlw1 hW hF hN
  go_wp2_with fail
  go_loop [13] (fun v => ∃ i : Nat, v = .int .i64 (i : Int) ∧ i < k ∧ Hid (stripL ((out.data.toList.take k).drop i) = stripL (out.data.toList.take k))) (fun v => k - (intOf v).toNat)
  case atStart => exact ⟨0, rfl, by omega, rfl⟩
  case round =>
    obtain ⟨i, rfl, hik, HS⟩ := hrel
    have his : i < out.size := by rw [HOl.out]; omega
    have hkt : k ≤ out.size := by rw [HOl.out]; omega
    have hcc := byt_in his
    by_cases hmore : i + 1 < k ∧ byt out i = 48
    · have HS1 : Hid (stripL ((out.data.toList.take k).drop (i + 1)) = stripL (out.data.toList.take k)) := by
        show _ = _
        rw [← HS.out, strip_byt hkt hmore.1 hmore.2]
      obtain ⟨h1, h2⟩ := hmore
      rw [h2] at hcc
      have h1I : (i : Int) + 1 < (k : Int) := by omega
      have hiN : (i : Int) < N := by have := HNn.out; omega
      clear HS h2
      go_wp2_with fail
      go_round
      case rel => exact ⟨i + 1, by go_num, by omega, HS1⟩
      case measure => simp only [intOf]; omega
    · have HS1 : Hid ((out.data.toList.take k).drop i = stripL (out.data.toList.take k)) := by
        show _ = _
        rw [← HS.out, strip_end hkt hik (fun h1 h2 => hmore ⟨h1, h2⟩)]
      have hikI : (i : Int) < (k : Int) := by omega
      have hkN : (k : Int) ≤ N := by have := HNn.out; omega
      have hiN : (i : Int) < N := by omega
      have hii : (i : Int) ≤ (k : Int) := by omega
      have hfin0 : Hid (p = 0 → out.extract i k = ⟨(fixT b p).toArray⟩) := by
        intro h
        rw [R2.out, if_neg (by omega), ← HS1.out, ← extract_list, mk_self]
      have hfin1 : Hid (0 < p → out.extract i k ++ ⟨#[46]⟩ ++ out.extract k out.size = ⟨(fixT b p).toArray⟩) := by
        intro h
        have : (out.extract i k ++ ⟨#[46]⟩ ++ out.extract k out.size).data.toList = fixT b p := by
          rw [R2.out, if_pos h, ← HS1.out]
          have e1 : (out.extract i k ++ ⟨#[46]⟩ ++ out.extract k out.size).data.toList = (out.extract i k).data.toList ++ 46 :: (out.extract k out.size).data.toList := by simp
          rw [e1, extract_list, extract_list, List.take_of_length_le (l := out.data.toList) (i := out.size) (by simp)]
        rw [← this, mk_self]
      have z1 : (out.extract i k).size ≤ 9000 := by rw [ByteArray.size_extract]; have := HOl.out; omega
      have z2 : (out.extract k out.size).size ≤ 9000 := by rw [ByteArray.size_extract]; have := HOl.out; omega
      by_cases h1 : i + 1 < k
      · have h2 : byt out i ≠ 48 := fun h => hmore ⟨h1, h⟩
        have h1I : (i : Int) + 1 < (k : Int) := by omega
        generalize byt out i = c at *
        have hcb : ((c : Int) == 48) = false := beq_eq_false_iff_ne.2 (by omega)
        clear h2
        clear hmore HS HS1
        rcases Nat.eq_zero_or_pos p with hp0 | hp0
        · have hpb : ((p : Int) == 0) = true := by simp [hp0]
          have HF0 := Lib.hid (hfin0.out hp0)
          clear hp0
          go_wp2_with fail
          go_ret2
          exact ⟨by rw [HF0.out]; rfl, HB2.out⟩
        · have hpb : ((p : Int) == 0) = false := beq_eq_false_iff_ne.2 (by omega)
          have HF0 := Lib.hid (hfin1.out hp0)
          clear hp0
          go_wp2_with fail
          go_quiet (fail)
          go_wp2_with fail
          go_ret2
          exact ⟨by rw [HF0.out]; rfl, HB2.out.drewN _⟩
      · have h1I : decide ((i : Int) + 1 < (k : Int)) = false := by simp; omega
        clear hmore HS HS1
        rcases Nat.eq_zero_or_pos p with hp0 | hp0
        · have hpb : ((p : Int) == 0) = true := by simp [hp0]
          have HF0 := Lib.hid (hfin0.out hp0)
          clear hp0
          go_wp2_with fail
          go_ret2
          exact ⟨by rw [HF0.out]; rfl, HB2.out⟩
        · have hpb : ((p : Int) == 0) = false := beq_eq_false_iff_ne.2 (by omega)
          have HF0 := Lib.hid (hfin1.out hp0)
          clear hp0
          go_wp2_with fail
          go_quiet (fail)
          go_wp2_with fail
          go_ret2
          exact ⟨by rw [HF0.out]; rfl, HB2.out.drewN _⟩
theorem digVal_drop_zeros {l : List UInt8} (k : Nat) (h : ∀ c ∈ l.take k, c = 48) : digVal (l.drop k) = digVal l := by
  have e : l.take k = List.replicate (l.take k).length 48 := List.eq_replicate_iff.2 ⟨rfl, h⟩
  have := digVal_app (l.take k) (l.drop k)
  rw [List.take_append_drop, e, digVal_noughts] at this
  omega
set_option maxRecDepth 100000 in
set_option maxHeartbeats 8000000 in
theorem Sci3_ok (b p : Nat) (w : World) (hb : b < 18446744073709551616) (hf : fin b = true) (hp : p ≤ 200) :
    Calls Tryz.prog 190 #[.float .f64 b, .int .i64 (p : Int)] w fun e w' => e = .returned (.tuple #[.string ⟨(sciD b p).toArray⟩, .int .i64 (sciE b p), .int .i64 0]) ∧ Below w.heap.size w w' := by
  have HP := Lib.hid (Parts3_any b w hb)
  rw [hf] at HP
  have HDg := Lib.hid (fun W => Digits3_any b W hb hf)
  have hpI : (p : Int) ≤ 200 := by omega
  have e1 : ((p + 1 : Nat) : Int) = (p : Int) + 1 := by omega
  by_cases hm : mant b = 0
  · have hZ : Hid (∀ out, CutOk [48] (p + 1) out → sciD b p = out ∧ sciE b p = 0) := by
      intro out h
      refine ⟨?_, by unfold sciE; rw [if_pos hm]⟩
      unfold sciD
      rw [if_pos hm, ref_zero h]
    have HC := Lib.hid (Cut3_any ⟨#[48]⟩ (p + 1) w (fun c hc => by rcases List.mem_singleton.1 hc with rfl; exact ⟨by decide, by decide⟩) (by show 1 ≤ _; omega) (by omega))
    rw [e1] at HC
    have hmI : ((mant b : Int) == 0) = true := by simp [hm]
    generalize mant b = m at *
    generalize expo b = E at *
    clear hf hm HDg e1
    go_enter Tryz.func190, Tryz.ntmps190
    go_wp2_with fail
    refine HP.out.mono ?_
    rintro e _ ⟨rfl, rfl⟩
    go_wp2_with fail
    refine HC.out.mono ?_
    rintro e w2 ⟨out, rfl, hco, hb2⟩
    have HZ := Lib.hid (hZ.out _ hco)
    have HB2 := Lib.hid hb2
    clear hco hb2 hZ
    go_wp2_with fail
    go_ret3
    exact ⟨by rw [HZ.out.1, HZ.out.2, mk_self]; rfl, HB2.out⟩
  · have hR : Hid (∀ (s out : List UInt8) (x : Int), Digits s → (∃ c r, s = c :: r ∧ c ≠ 48) → digVal s = exN b → (s.length : Int) = x + 1 + exD b → CutOk s (p + 1) out → (out.length = p + 1 → sciD b p = out ∧ sciE b p = x) ∧ (out.length ≠ p + 1 → out.length = p + 2 ∧ sciD b p = out.take (p + 1) ∧ sciE b p = x + 1)) :=
      fun s out x h1 h2 h3 h4 h5 => ref_sci hm h1 h2 h3 h4 h5
    have hN0 : Hid (0 < exN b) := by
      show 0 < _
      unfold exN
      exact Nat.mul_pos (Nat.mul_pos (Nat.pos_of_ne_zero hm) (pow2_pos _)) (Nat.pow_pos (by decide))
    have hmI : ((mant b : Int) == 0) = false := beq_eq_false_iff_ne.2 (by omega)
    generalize mant b = m at *
    generalize expo b = E at *
    clear hf hm e1
    go_enter Tryz.func190, Tryz.ntmps190
    go_wp2_with fail
    refine HP.out.mono ?_
    rintro e _ ⟨rfl, rfl⟩
    go_wp2_with fail
    refine (HDg.out _).mono ?_
    rintro e w1 ⟨Wb, Fb, rfl, hex, hW, hF, hb1⟩
    have HB1 := Lib.hid hb1
    have hs1 := hb1.size
    obtain ⟨s, hs⟩ : ∃ s, s = Wb ++ Fb := ⟨_, rfl⟩
    have hsl : s.data.toList = Wb.data.toList ++ Fb.data.toList := by rw [hs]; simp
    have hsd : Digits s.data.toList := by rw [hsl]; exact digits_append hex.whole.dig hex.dig
    have hsv : digVal s.data.toList = exN b := by rw [hsl]; exact hex.all
    obtain ⟨lw, hlw⟩ : ∃ lw, lw = Wb.size := ⟨_, rfl⟩
    have hWl : Wb.size = Wb.data.toList.length := by simp
    have hsn : s.size = lw + exD b := by rw [hs, ByteArray.size_append, hlw]; have := hex.len; have h9 : Fb.size = Fb.data.toList.length := by simp
                                         omega
    have hlwI : (Wb.size : Int) = (lw : Int) := by omega
    have hlw5 : lw ≤ 5000 := by omega
    have hD5 : exD b ≤ 1074 := by have := hex.len; have h9 : Fb.size = Fb.data.toList.length := by simp
                                  omega
    have hns : Hid (∃ j, j < s.size ∧ byt s j ≠ 48) := by
      obtain ⟨j, hj, h⟩ := (digVal_pos_of hsd).1 (by rw [hsv]; exact hN0.out)
      exact ⟨j, by simpa using hj, by rw [byt_list hj]; exact h⟩
    have HSd := Lib.hid hsd; have HSv := Lib.hid hsv; have HS := Lib.hid hs.symm; have HSn := Lib.hid hsn
    have hsb : s.size ≤ 7000 := by omega
    clear hb1 HDg hex HP hsl hsd hsv hWl hsn hlw hN0 hs
    go_wp2_with fail
    simp only [HS.out]
    go_loop [13] (fun v => ∃ i : Nat, v = .int .i64 (i : Int) ∧ Hid (∀ c ∈ s.data.toList.take i, c = 48) ∧ Hid (∃ j, i ≤ j ∧ j < s.size ∧ byt s j ≠ 48)) (fun v => s.size - (intOf v).toNat)
    case atStart =>
      obtain ⟨j, h1, h2⟩ := hns.out
      exact ⟨0, rfl, (fun c h => by simp at h), j, Nat.zero_le _, h1, h2⟩
    case round =>
      obtain ⟨i, rfl, HZ, HM⟩ := hrel
      have his : i < s.size := by obtain ⟨j, h1, h2, _⟩ := HM.out; omega
      have hcc := byt_in his
      have hil : i < s.data.toList.length := by simpa using his
      have hbl := byt_list hil
      by_cases h48 : byt s i = 48
      · have HZ1 : Hid (∀ c ∈ s.data.toList.take (i + 1), c = 48) := by
          intro c hc
          rw [List.take_succ_eq_append_getElem hil] at hc
          rcases List.mem_append.1 hc with h | h
          · exact HZ.out c h
          · obtain rfl := List.mem_singleton.1 h
            exact UInt8.toNat_inj.1 (by rw [← hbl, h48]; rfl)
        have HM1 : Hid (∃ j, i + 1 ≤ j ∧ j < s.size ∧ byt s j ≠ 48) := by
          obtain ⟨j, h1, h2, h3⟩ := HM.out
          refine ⟨j, ?_, h2, h3⟩
          rcases Nat.lt_or_ge i j with h | h
          · exact h
          · obtain rfl : j = i := by omega
            exact absurd h48 h3
        rw [h48] at hcc
        clear HZ HM h48 hbl
        go_wp2_with fail
        go_round
        case rel => exact ⟨i + 1, by go_num, HZ1, HM1⟩
        case measure => simp only [intOf]; omega
      · have hdr : (s.extract i s.size).data.toList = s.data.toList.drop i := by rw [extract_list, List.take_of_length_le (by simp)]
        have hhd : ∃ c r, s.data.toList.drop i = c :: r ∧ c ≠ 48 := ⟨_, _, List.drop_eq_getElem_cons hil, fun h => h48 (by rw [hbl, h]; rfl)⟩
        have hdv : digVal (s.data.toList.drop i) = exN b := by rw [digVal_drop_zeros i HZ.out]; exact HSv.out
        have hdx : ((s.data.toList.drop i).length : Int) = ((lw : Int) - 1 - (i : Int)) + 1 + exD b := by
          have h1 := HSn.out
          have h2 : s.size = s.data.toList.length := by simp
          rw [List.length_drop]; omega
        have HC := Lib.hid (Cut3_any (s.extract i s.size) (p + 1) w1 (by rw [hdr]; exact digits_drop HSd.out i) (by rw [ByteArray.size_extract]; omega) (by omega))
        rw [hdr, show ((p + 1 : Nat) : Int) = (p : Int) + 1 by omega] at HC
        have HR1 : Hid (∀ out, CutOk (s.data.toList.drop i) (p + 1) out → (out.length = p + 1 → sciD b p = out ∧ sciE b p = (lw : Int) - 1 - (i : Int)) ∧ (out.length ≠ p + 1 → out.length = p + 2 ∧ sciD b p = out.take (p + 1) ∧ sciE b p = (lw : Int) - 1 - (i : Int) + 1)) := fun out h => hR.out _ out _ (digits_drop HSd.out i) hhd hdv hdx h
        have hiI : (i : Int) ≤ 7000 := by omega
        have hcb : ((byt s i : Int) == 48) = false := beq_eq_false_iff_ne.2 (by omega)
        generalize byt s i = c at *
        clear hdr hhd hdv hdx h48 hbl HZ HM hR hns
        go_wp2_with fail
        refine HC.out.mono ?_
        rintro e w2 ⟨out, rfl, hco, hb2⟩
        have HR2 := HR1.out _ hco
        have HB2 := Lib.hid (HB1.out.trans (hb2.mono hs1))
        have hol : out.size = out.data.toList.length := by simp
        clear hco hb2 HR1 HC HB1
        by_cases hl : out.data.toList.length = p + 1
        · have h1 := HR2.1 hl
          have HR3 := Lib.hid h1
          have hoI : (out.size : Int) = (p : Int) + 1 := by omega
          have hoJ : decide ((p : Int) + 1 < (out.size : Int)) = false := by simp; omega
          clear h1 HR2 hl hol
          go_wp2_with fail
          go_ret3
          exact ⟨by rw [HR3.out.1, HR3.out.2, mk_self]; rfl, HB2.out⟩
        · obtain ⟨h0, h1, h2⟩ := HR2.2 hl
          have h3 : (out.extract 0 (p + 1)).data.toList = out.data.toList.take (p + 1) := by rw [extract_list]; simp
          have HR3 : Hid (sciD b p = (out.extract 0 (p + 1)).data.toList ∧ sciE b p = (lw : Int) - 1 - (i : Int) + 1) := ⟨by rw [h1, h3], h2⟩
          have hoI : (out.size : Int) = (p : Int) + 2 := by omega
          have hoJ : (p : Int) + 1 < (out.size : Int) := by omega
          clear h0 h1 h2 h3 HR2 hl hol
          go_wp2_with fail
          go_ret3
          exact ⟨by rw [HR3.out.1, HR3.out.2, mk_self]; rfl, HB2.out⟩
end Go.Proofs.YtcmpdamfeoaapaaGreatDoor
