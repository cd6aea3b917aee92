/- thresherlaw03: DecRises. -/
import Derived.Test.YtkpikkeblogdcaaDoorL2
import Derived.Test.YtkpikkeblogdcaaDoorR9
namespace Go.Proofs.YtkpikkeblogdcaaDoor
open Go.RowKit
set_option linter.unusedVariables false

theorem bare_self {c : UInt8} {r : List UInt8} (h : c ≠ 48) : bare (c :: r) = c :: r := by
  unfold bare
  rw [List.dropWhile_cons, if_neg (by simpa using h)]
theorem bare_nought (l : List UInt8) : bare (48 :: l) = bare l := by
  unfold bare
  rw [List.dropWhile_cons, if_pos (by decide)]
theorem canon_zero_text {l : List UInt8} (h : Canon l 0) : l = [48] :=
  canon_unique h (canon_mk (by decide) (by simp) (by decide) (.inl rfl))
theorem canon_pos_text {l : List UInt8} {n : Nat} (h : Canon l n) (hn : 0 < n) : ∃ c r, l = c :: r ∧ c ≠ 48 := by
  cases h1 : l with
  | nil => exact absurd h1 h.ne
  | cons c r =>
    refine ⟨c, r, rfl, fun hc => ?_⟩
    have h2 := h.top c r h1 (by rw [hc]; decide)
    rw [h1, h2, hc] at h
    have h3 := h.val
    have h4 : digVal [48] = 0 := by decide
    omega
theorem readB_nil {l : List UInt8} (h : bare l = []) (e : Int) : readB l e = 0 := by
  unfold readB
  rw [h, if_pos (.inl rfl)]
theorem readB_le (l : List UInt8) (e : Int) : readB l e ≤ 9218868437227405312 := by
  unfold readB
  split
  · omega
  · split
    · omega
    · split
      · omega
      · exact near_le _ _
theorem readB_inf {l : List UInt8} {e : Int} (h0 : (bare l).length ≠ 0) (h1 : -4000 ≤ e) (h : 310 < (bare l).length + e) : readB l e = 9218868437227405312 := by
  unfold readB
  rw [if_neg (by omega), if_pos (.inr h)]
theorem readB_low {l : List UInt8} {e : Int} (h2 : e ≤ 2000) (h : (bare l).length + e < -330) : readB l e = 0 := by
  unfold readB
  by_cases h3 : (bare l).length = 0 ∨ e < -4000
  · rw [if_pos h3]
  · rw [if_neg h3, if_neg (by omega), if_pos h]
theorem readB_near {l : List UInt8} {e : Int} (h0 : (bare l).length ≠ 0) (h1 : -4000 ≤ e) (h2 : e ≤ 2000) (h3 : -330 ≤ (bare l).length + e) (h4 : (bare l).length + e ≤ 310) : readB l e = near (digVal (bare l) * 10 ^ e.toNat) (10 ^ (-e).toNat) := by
  unfold readB
  rw [if_neg (by omega), if_neg (by omega), if_neg (by omega)]
theorem bare_pos_text {l : List UInt8} {n : Nat} (h : Canon l n) (hn : 0 < n) : bare l = l := by
  obtain ⟨c, r, rfl, hc⟩ := canon_pos_text h hn
  exact bare_self hc
theorem readB_append {l : List UInt8} {n : Nat} {e : Int} (h : Canon l n) (h1 : -700 ≤ e) (h2 : e ≤ 700) : readB (l ++ [48]) (e - 1) = readB l e := by
  rcases Nat.eq_zero_or_pos n with hn | hn
  · subst hn
    rw [canon_zero_text h, readB_nil (by decide), readB_nil (by decide)]
  · have hb0 := bare_pos_text h hn
    have hb : bare (l ++ [48]) = l ++ [48] := by
      obtain ⟨c, r, rfl, hc⟩ := canon_pos_text h hn
      exact bare_self hc
    have hk : (bare (l ++ [48])).length = l.length + 1 := by rw [hb]; simp
    have hk0 : (bare l).length = l.length := by rw [hb0]
    have hk1 : l.length ≠ 0 := by have := List.length_pos_iff.2 h.ne; omega
    rcases Int.lt_or_le 310 (l.length + e) with c2 | c2
    · rw [readB_inf (by omega) (by omega) (by omega), readB_inf (by omega) (by omega) (by omega)]
    · rcases Int.lt_or_le (l.length + e) (-330) with c3 | c3
      · rw [readB_low (by omega) (by omega), readB_low (by omega) (by omega)]
      · rw [readB_near (by omega) (by omega) (by omega) (by omega) (by omega), readB_near (by omega) (by omega) (by omega) (by omega) (by omega), hb, hb0, digVal_snoc, h.val]
        have e0 : (UInt8.toNat 48 - 48 : Nat) = 0 := by decide
        rw [e0, Nat.add_zero]
        refine near_same (Nat.pow_pos (by decide)) (Nat.pow_pos (by decide)) ?_
        rcases Int.lt_or_le 0 e with he | he
        · rw [show e.toNat = (e - 1).toNat + 1 by omega, show (-e).toNat = (-(e - 1)).toNat by omega, Nat.pow_succ]
          generalize 10 ^ (-(e - 1)).toNat = P
          generalize 10 ^ (e - 1).toNat = Q
          ac_rfl
        · rw [show (-(e - 1)).toNat = (-e).toNat + 1 by omega, show (e - 1).toNat = e.toNat by omega, Nat.pow_succ]
          generalize 10 ^ (-e).toNat = P
          generalize 10 ^ e.toNat = Q
          ac_rfl
theorem readB_noughts (l : List UInt8) (e : Int) : readB (48 :: 48 :: l) e = readB l e := by
  unfold readB
  rw [bare_nought, bare_nought]
theorem canon_rise {l l' : List UInt8} {n m : Nat} (h : Canon l n) (h' : Canon l' m) (hn : 0 < n) (hnm : n ≤ m) : l.length ≤ l'.length := by
  have h3 := digVal_lt h'.dig
  rw [h'.val] at h3
  have h0 : 0 < l'.length := List.length_pos_iff.2 h'.ne
  rcases Nat.lt_or_ge l'.length l.length with h1 | h1
  · have h2 := canon_low h (by omega)
    have h4 : 10 ^ l'.length ≤ 10 ^ (l.length - 1) := Nat.pow_le_pow_right (by decide) (by omega)
    omega
  · exact h1
theorem readB_mono {l l' : List UInt8} {n m : Nat} {e : Int} (h : Canon l n) (h' : Canon l' m) (hnm : n ≤ m) (h1 : -700 ≤ e) (h2 : e ≤ 700) : readB l e ≤ readB l' e := by
  rcases Nat.eq_zero_or_pos n with hn | hn
  · subst hn
    rw [canon_zero_text h, readB_nil (by decide)]
    exact Nat.zero_le _
  · have hl := canon_rise h h' hn hnm
    have hk : (bare l).length = l.length := by rw [bare_pos_text h hn]
    have hk' : (bare l').length = l'.length := by rw [bare_pos_text h' (by omega)]
    have hk1 : l.length ≠ 0 := by have := List.length_pos_iff.2 h.ne; omega
    rcases Int.lt_or_le 310 (l'.length + e) with c2 | c2
    · rw [readB_inf (l := l') (by omega) (by omega) (by omega)]
      exact readB_le _ _
    · rcases Int.lt_or_le (l.length + e) (-330) with c3 | c3
      · rw [readB_low (l := l) (by omega) (by omega)]
        exact Nat.zero_le _
      · rw [readB_near (l := l) (by omega) (by omega) (by omega) (by omega) (by omega), readB_near (l := l') (by omega) (by omega) (by omega) (by omega) (by omega), bare_pos_text h hn, bare_pos_text h' (by omega), h.val, h'.val]
        exact near_mono (Nat.pow_pos (by decide)) (Nat.pow_pos (by decide)) (Nat.mul_le_mul_right _ (Nat.mul_le_mul_right _ hnm))

set_option maxRecDepth 100000 in
set_option maxHeartbeats 4000000 in
theorem rises_any (n m : Nat) (e0 : Int) (w : World) (hn : n < 18446744073709551616) (hm : m < 18446744073709551616) (he1 : -9223372036854775808 ≤ e0) (he2 : e0 ≤ 9223372036854775807) :
    Calls Tryd.prog 5 #[.int .u64 n, .int .u64 m, .int .i64 e0] w fun e w' => e = .returned (.bool true) ∧ Below w.heap.size w w' := by
  obtain ⟨E, hE⟩ : ∃ E : Int, E = min (max e0 (-700)) 700 := ⟨_, rfl⟩
  have e1 : min (max e0 (-700)) 700 = E := hE.symm
  have hE1 : -700 ≤ E := by omega
  have hE2 : E ≤ 700 := by omega
  have T1 := Lib.hid (fun W => text_any n W hn)
  have T2 := Lib.hid (fun W => text_any m W hm)
  clear hE
  go_enter Tryd.func5, Tryd.ntmps5
  go_wp2_with fail
  refine (fixed_any w).mono ?_
  rintro e w1 ⟨rfl, hb1⟩
  have HB1 := Lib.hid hb1
  have hs1 := hb1.size
  clear hb1
  go_wp2_with fail
  refine (T1.out w1).mono ?_
  rintro e w2 ⟨s, rfl, hc2, hl2, hb2⟩
  have HC2 := Lib.hid hc2
  have HB2 := Lib.hid (HB1.out.trans (hb2.mono hs1))
  have hs2 := hb2.size
  clear hb2 HB1 T1 hc2
  go_wp2_with fail
  refine (T2.out w2).mono ?_
  rintro e w3 ⟨t, rfl, hc3, hl3, hb3⟩
  have HC3 := Lib.hid hc3
  have HB3 := Lib.hid (HB2.out.trans (hb3.mono (by omega)))
  have hs3 := hb3.size
  clear hb3 HB2 T2 hc3
  have hsz : s.size ≤ 20 := by simpa using hl2
  have R1 := Lib.hid (fun W => Read_ok s E W HC2.out.ne HC2.out.dig (by omega) (by omega) (by omega))
  have R2 := Lib.hid (fun W => Read_ok t E W HC3.out.ne HC3.out.dig (by omega) (by omega) (by omega))
  have hR3 : Hid (∀ W, Calls Tryd.prog 14 #[.string (s ++ ⟨#[48]⟩), .int .i64 (E - 1)] W fun e w' => e = .returned (.tuple #[.float .f64 (readB s.data.toList E), .int .i64 0]) ∧ Below W.heap.size W w') := by
    intro W
    have hd : (s ++ ⟨#[48]⟩ : ByteArray).data.toList = s.data.toList ++ [48] := by simp
    have h := Read_ok (s ++ ⟨#[48]⟩) (E - 1) W (by rw [hd]; simp) (by
      rw [hd]; intro c hc
      rcases List.mem_append.1 hc with h | h
      · exact HC2.out.dig c h
      · simp at h; subst h; decide) (by rw [hd]; simp; omega) (by omega) (by omega)
    rw [hd, readB_append HC2.out hE1 hE2] at h
    exact h
  have hR4 : Hid (∀ W, Calls Tryd.prog 14 #[.string (⟨#[48, 48]⟩ ++ s), .int .i64 E] W fun e w' => e = .returned (.tuple #[.float .f64 (readB s.data.toList E), .int .i64 0]) ∧ Below W.heap.size W w') := by
    intro W
    have hd : (⟨#[48, 48]⟩ ++ s : ByteArray).data.toList = 48 :: 48 :: s.data.toList := by simp
    have h := Read_ok (⟨#[48, 48]⟩ ++ s) E W (by rw [hd]; simp) (by
      rw [hd]; intro c hc
      rcases List.mem_cons.1 hc with h | h
      · subst h; decide
      · rcases List.mem_cons.1 h with h | h
        · subst h; decide
        · exact HC2.out.dig c h) (by rw [hd]; simp; omega) (by omega) (by omega)
    rw [hd, readB_noughts] at h
    exact h
  have hX := readB_le s.data.toList E
  have hY := readB_le t.data.toList E
  have hM1 : Hid (n ≤ m → readB s.data.toList E ≤ readB t.data.toList E) := fun h => readB_mono HC2.out HC3.out h hE1 hE2
  have hM2 : Hid (m ≤ n → readB t.data.toList E ≤ readB s.data.toList E) := fun h => readB_mono HC3.out HC2.out h hE1 hE2
  generalize readB s.data.toList E = X at *
  generalize readB t.data.toList E = Y at *
  clear hl2 hl3 HC2 HC3
  go_wp2_with fail
  refine (R1.out w3).mono ?_
  rintro e w4 ⟨rfl, hb4⟩
  have HB4 := Lib.hid (HB3.out.trans (hb4.mono (by omega)))
  have hs4 := hb4.size
  clear hb4 HB3 R1
  go_wp2_with fail
  refine (R2.out w4).mono ?_
  rintro e w5 ⟨rfl, hb5⟩
  have HB5 := Lib.hid (HB4.out.trans (hb5.mono (by omega)))
  have hs5 := hb5.size
  clear hb5 HB4 R2
  go_wp2_with fail
  refine (hR3.out w5).mono ?_
  rintro e w6 ⟨rfl, hb6⟩
  have HB6 := Lib.hid (HB5.out.trans (hb6.mono (by omega)))
  have hs6 := hb6.size
  clear hb6 HB5 hR3
  go_wp2_with fail
  refine (hR4.out w6).mono ?_
  rintro e w7 ⟨rfl, hb7⟩
  have HB7 := Lib.hid (HB6.out.trans (hb7.mono (by omega)))
  have hs7 := hb7.size
  clear hb7 HB6 hR4
  have S1 := Lib.hid (same_any X X w7)
  rw [beq_self_eq_true] at S1
  go_wp2_with fail
  refine S1.out.mono ?_
  rintro e w8 ⟨rfl, rfl⟩
  go_wp2_with fail
  refine S1.out.mono ?_
  rintro e w8 ⟨rfl, rfl⟩
  clear S1
  rcases Nat.lt_trichotomy n m with h | h | h
  · have h2 := hM1.out (Nat.le_of_lt h)
    have hi : (n : Int) < (m : Int) := by omega
    rcases Nat.eq_or_lt_of_le h2 with h3 | h3
    · subst h3
      have ho := order_eq hX
      clear hM1 hM2 h2 h
      go_wp2_with fail
      go_ret
      exact ⟨rfl, HB7.out⟩
    · have ho := order_lt hX hY h3
      clear hM1 hM2 h2 h h3
      go_wp2_with fail
      go_ret
      exact ⟨rfl, HB7.out⟩
  · obtain rfl : X = Y := Nat.le_antisymm (hM1.out (Nat.le_of_eq h)) (hM2.out (Nat.le_of_eq h.symm))
    subst h
    have ho := order_eq hX
    clear hM1 hM2
    go_wp2_with fail
    go_ret
    exact ⟨rfl, HB7.out⟩
  · have h2 := hM2.out (Nat.le_of_lt h)
    have hi : (m : Int) < (n : Int) := by omega
    rcases Nat.eq_or_lt_of_le h2 with h3 | h3
    · subst h3
      have ho := order_eq hX
      clear hM1 hM2 h2 h
      go_wp2_with fail
      go_ret
      exact ⟨rfl, HB7.out⟩
    · have ho := order_gt hX hY h3
      clear hM1 hM2 h2 h h3
      go_wp2_with fail
      go_ret
      exact ⟨rfl, HB7.out⟩
end Go.Proofs.YtkpikkeblogdcaaDoor
