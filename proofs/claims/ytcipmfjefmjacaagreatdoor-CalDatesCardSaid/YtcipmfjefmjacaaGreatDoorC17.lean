/- Package ref13: Of. -/
import Derived.Test.YtcipmfjefmjacaaGreatDoorC16
import Derived.Test.YtcipmfjefmjacaaGreatDoorC14
namespace Go.Proofs.YtcipmfjefmjacaaGreatDoor
open Go.RowKit
set_option linter.unusedVariables false

theorem yearL_pos (y : Int) : 365 ≤ yearL y ∧ yearL y ≤ 366 := by
  unfold yearL; split <;> omega
theorem lenL_pos (y m : Int) : 28 ≤ lenL y m ∧ lenL y m ≤ 31 := by
  unfold lenL; split
  · split <;> omega
  · split <;> omega
theorem lenL_dec (y : Int) : lenL y 12 = 31 := by
  unfold lenL
  rw [if_neg (by decide), if_neg (by decide)]

set_option maxRecDepth 100000 in
set_option maxHeartbeats 2000000 in
theorem ROf_bad (t : Int) (w : World) (h : t < -62135596800 ∨ 253402300799 < t) (h1 : -9223372036854775808 ≤ t) (h2 : t ≤ 9223372036854775807) :
    Calls Tryz.prog 11 #[.int .i64 t] w fun e w' => e = .returned (.tuple #[dateV 0 0 0 0 0 0 0 0, .int .i64 1]) ∧ Below w.heap.size w w' := by
  go_enter Tryz.func11, Tryz.ntmps11
  rcases h with h | h
  · go_wp2_with fail
    exact bodyPost_ret (v := .tuple #[.agg #[.int .i64 0, .int .i64 0, .int .i64 0, .int .i64 0, .int .i64 0, .int .i64 0, .int .i64 0, .int .i64 0], .int .i64 1]) (by simp [results, Tryz.results11, go_sem]) rfl ⟨rfl, (Below.refl _ _).alloc (Nat.le_refl _) _⟩
  · have h3 : -62135596800 ≤ t := by omega
    go_wp2_with fail
    exact bodyPost_ret (v := .tuple #[.agg #[.int .i64 0, .int .i64 0, .int .i64 0, .int .i64 0, .int .i64 0, .int .i64 0, .int .i64 0, .int .i64 0], .int .i64 1]) (by simp [results, Tryz.results11, go_sem]) rfl ⟨rfl, (Below.refl _ _).alloc (Nat.le_refl _) _⟩

set_option maxRecDepth 100000 in
set_option maxHeartbeats 4000000 in
theorem ROf_ok (t : Int) (w : World) (h1 : -62135596800 ≤ t) (h2 : t ≤ 253402300799) :
    Calls Tryz.prog 11 #[.int .i64 t] w fun e w' => (∃ y mo, e = .returned (.tuple #[ofV t y mo, .int .i64 0]) ∧ DateOk (t / 86400) y mo) ∧ Below w.heap.size w w' := by
  obtain ⟨day, hday⟩ : ∃ day, day = t / 86400 := ⟨_, rfl⟩
  obtain ⟨sec, hsec⟩ : ∃ sec, sec = t % 86400 := ⟨_, rfl⟩
  have d1 : -719162 ≤ day := by omega
  have d2 : day ≤ 2932896 := by omega
  have s1 : 0 ≤ sec := by omega
  have s2 : sec < 86400 := by omega
  unfold ofV
  rw [← hday, ← hsec]
  have e1 : (t - -62135596800).tdiv 86400 = day + 719162 := by rw [Int.tdiv_eq_ediv_of_nonneg (by omega)]; omega
  have e2 : (t - -62135596800).tmod 86400 = sec := by rw [Int.tmod_eq_emod_of_nonneg (by omega)]; omega
  have e3 : (t + 62135596800).tdiv 86400 = day + 719162 := by rw [Int.tdiv_eq_ediv_of_nonneg (by omega)]; omega
  have e4 : (t + 62135596800).tmod 86400 = sec := by rw [Int.tmod_eq_emod_of_nonneg (by omega)]; omega
  clear hday hsec
  go_enter Tryz.func11, Tryz.ntmps11
  go_wp2_with fail
  obtain ⟨N, hN⟩ : ∃ N, N = w.heap.size := ⟨_, rfl⟩
  rw [← hN]
  have HN := Lib.hid hN
  obtain ⟨H, hH⟩ : ∃ H, H = sec / 3600 := ⟨_, rfl⟩
  obtain ⟨M, hM⟩ : ∃ M, M = sec / 60 % 60 := ⟨_, rfl⟩
  have hM2 : sec % 3600 / 60 = M := by omega
  obtain ⟨S, hS⟩ : ∃ S, S = sec % 60 := ⟨_, rfl⟩
  obtain ⟨K, hK⟩ : ∃ K, K = (day + 4) % 7 := ⟨_, rfl⟩
  have hK2 : (day + 719162 + 1) % 7 = K := by omega
  rw [← hH, hM2, ← hS, hK2]
  have HH := Lib.hid hH
  have HM := Lib.hid hM
  have HS := Lib.hid hS
  have HK := Lib.hid hK
  have hb1 : beginL 1 1 = -719162 := by decide
  have HB1 := Lib.hid hb1
  clear hH hM hS hK hM2 hK2 e1 e2 e3 e4 hN hb1
  go_loopw [4] (fun dv wr => ∃ (w0 : World) (y dd : Int), dv = .int .i64 dd ∧ wr = (w0.alloc (.cells #[.int .i64 0, .int .i64 0, .int .i64 0, .int .i64 0, .int .i64 0, .int .i64 0, .int .i64 0, .int .i64 0] 23)).alloc (.cells #[.int .i64 y, .int .i64 1, .int .i64 0, .int .i64 H, .int .i64 M, .int .i64 S, .int .i64 K, .int .i64 0] 23) ∧ w0.heap.size = N ∧ Hid (Below w.heap.size w w0) ∧ 1 ≤ y ∧ y ≤ 20000 ∧ 0 ≤ dd ∧ dd ≤ 10000000 ∧ Hid (dd + beginL y 1 = day)) (fun dv _ => (intOf dv).toNat)
  case atStart => exact ⟨w, 1, day + 719162, rfl, rfl, HN.out.symm, Below.refl _ _, by decide, by decide, by omega, by omega, by show _ = _; rw [HB1.out]; omega⟩
  case round =>
    obtain ⟨w0, y, dd, rfl, rfl, hw0, HB, g1, g2, g3, g4, HE⟩ := hrel
    have HY := Lib.hid (fun W => year_any y W)
    obtain ⟨Y, hY⟩ : ∃ Y, Y = yearL y := ⟨_, rfl⟩
    have hyp := yearL_pos y
    rw [← hY] at HY hyp
    obtain ⟨yp1, yp2⟩ := hyp
    have HYY := Lib.hid hY
    clear hY
    rcases Int.lt_or_le dd Y with hc | hc
    · go_wp2_with fail
      refine (HY.out _).mono ?_
      rintro e _ ⟨rfl, rfl⟩
      go_wp2_with fail
      obtain ⟨yd, hyd⟩ : ∃ yd, yd = dd + 1 := ⟨_, rfl⟩
      rw [← hyd]
      have HYD : Hid (yd = day - beginL y 1 + 1) := by show _ = _; rw [hyd, ← HE.out]; omega
      have HHi : Hid (day < beginL (y + 1) 1) := by
        show _ < _
        have q1 := yearL_eq y
        have q2 := HE.out
        have q3 := HYY.out
        omega
      clear hyd
      go_loopw [4] (fun dv wr => ∃ (w0 : World) (mo dd : Int), dv = .int .i64 dd ∧ wr = (w0.alloc (.cells #[.int .i64 0, .int .i64 0, .int .i64 0, .int .i64 0, .int .i64 0, .int .i64 0, .int .i64 0, .int .i64 0] 23)).alloc (.cells #[.int .i64 y, .int .i64 mo, .int .i64 0, .int .i64 H, .int .i64 M, .int .i64 S, .int .i64 K, .int .i64 yd] 23) ∧ w0.heap.size = N ∧ Hid (Below w.heap.size w w0) ∧ 1 ≤ mo ∧ mo ≤ 12 ∧ 0 ≤ dd ∧ dd ≤ 1000 ∧ Hid (dd + beginL y mo = day)) (fun dv _ => (intOf dv).toNat)
      case atStart => exact ⟨w0, 1, dd, rfl, rfl, hw0, HB, by decide, by decide, g3, by omega, HE⟩
      case round =>
        have HLo : Hid (beginL y 1 ≤ day) := by show _ ≤ _; have := HE.out; omega
        clear g3 g4 HE hc HB hw0 HY HYY yp1 yp2
        obtain ⟨w1, mo, dd1, rfl, rfl, hw1, HB1', m1, m2, k1, k2, HE1⟩ := hrel
        have HL := Lib.hid (fun W => length_any y mo W)
        obtain ⟨L, hL⟩ : ∃ L, L = lenL y mo := ⟨_, rfl⟩
        have hlp := lenL_pos y mo
        rw [← hL] at HL hlp
        obtain ⟨lp1, lp2⟩ := hlp
        have HLL := Lib.hid hL
        clear hL
        rcases Int.lt_or_le dd1 L with hc | hc
        · have HMh : Hid (mo < 12 → day < beginL y (mo + 1)) := by
            show _ → _
            intro h12
            have q1 := lenL_eq (y := y) (m := mo) m1 (by omega)
            have q2 := HE1.out
            have q3 := HLL.out
            omega
          go_wp2_with fail
          refine (HL.out _).mono ?_
          rintro e _ ⟨rfl, rfl⟩
          go_wp2_with fail
          refine bodyPost_ret (v := .tuple #[.agg #[.int .i64 y, .int .i64 mo, .int .i64 (dd1 + 1), .int .i64 H, .int .i64 M, .int .i64 S, .int .i64 K, .int .i64 yd], .int .i64 0]) (by simp [results, Tryz.results11, go_sem, hw1]) rfl ⟨⟨y, mo, ?_, ?_⟩, ?_⟩
          · have q1 : dd1 + 1 = day - beginL y mo + 1 := by have := HE1.out; omega
            rw [q1, HYD.out, HH.out, HM.out, HS.out, HK.out]
            rfl
          · exact ⟨HLo.out, HHi.out, m1, m2, by have := HE1.out; omega, HMh.out⟩
          · exact ((HB1'.out).alloc (by have := HN.out; omega) _).alloc (by simp; have := HN.out; omega) _
        · have hm11 : mo ≤ 11 := by
            rcases Int.lt_or_le mo 12 with h | h
            · omega
            · exfalso
              have h12 : mo = 12 := by omega
              subst h12
              have q1 := month_top (y := y)
              have q2 := HE1.out
              have q3 := HLL.out
              have q4 := HHi.out
              rw [lenL_dec] at q3
              omega
          have HE2 : Hid (dd1 - L + beginL y (mo + 1) = day) := by
            show _ = _
            have q1 := lenL_eq (y := y) (m := mo) m1 hm11
            have q2 := HE1.out
            have q3 := HLL.out
            omega
          clear HE1 HLL
          go_wp2_with fail
          refine (HL.out _).mono ?_
          rintro e _ ⟨rfl, rfl⟩
          go_wp2_with fail
          refine (HL.out _).mono ?_
          rintro e _ ⟨rfl, rfl⟩
          go_wp2_with fail
          go_roundw
          case rel => exact ⟨w1, mo + 1, dd1 - L, rfl, rfl, hw1, HB1', by omega, by omega, by omega, by omega, HE2⟩
          case measure => simp only [intOf]; omega
    · have hy' : y ≤ 10001 := by
        have h3 := HE.out
        rcases Int.lt_or_le 10001 y with h | h
        · exfalso
          have := begin_mono (y := 10001) (z := y) (by omega)
          have h4 : beginL 10001 1 = 2933263 := by decide
          omega
        · exact h
      have HE2 : Hid (dd - Y + beginL (y + 1) 1 = day) := by
        show _ = _
        have q1 := yearL_eq y
        have q2 := HE.out
        have q3 := HYY.out
        omega
      clear HE HYY
      go_wp2_with fail
      refine (HY.out _).mono ?_
      rintro e _ ⟨rfl, rfl⟩
      go_wp2_with fail
      refine (HY.out _).mono ?_
      rintro e _ ⟨rfl, rfl⟩
      go_wp2_with fail
      go_roundw
      case rel => exact ⟨w0, y + 1, dd - Y, rfl, rfl, hw0, HB, by omega, by omega, by omega, by omega, HE2⟩
      case measure => simp only [intOf]; omega
end Go.Proofs.YtcipmfjefmjacaaGreatDoor
