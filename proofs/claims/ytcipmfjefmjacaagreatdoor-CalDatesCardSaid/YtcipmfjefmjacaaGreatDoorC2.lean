/- Package cal: Of. -/
import Derived.Test.YtcipmfjefmjacaaGreatDoorC1
namespace Go.Proofs.YtcipmfjefmjacaaGreatDoor
open Go.RowKit
set_option linter.unusedVariables false

/-- the year and the month of a day -/
structure DateOk (day y mo : Int) : Prop where
  lo : beginL y 1 ≤ day
  hi : day < beginL (y + 1) 1
  m1 : 1 ≤ mo
  m2 : mo ≤ 12
  ml : beginL y mo ≤ day
  mh : mo < 12 → day < beginL y (mo + 1)
/-- a date -/
def dateV (y mo da h mi s wk yd : Int) : Value := .agg #[.int .i64 y, .int .i64 mo, .int .i64 da, .int .i64 h, .int .i64 mi, .int .i64 s, .int .i64 wk, .int .i64 yd]
/-- the date of a time -/
def ofV (t y mo : Int) : Value := dateV y mo (t / 86400 - beginL y mo + 1) (t % 86400 / 3600) (t % 86400 / 60 % 60) (t % 86400 % 60) ((t / 86400 + 4) % 7) (t / 86400 - beginL y 1 + 1)
/-- the whole number that a cell holds -/
def intAt (W : World) (b o : Nat) : Int := match W.cell? ⟨b, o, none⟩ with | some v => intOf v | none => 0
theorem intAt_date (w : World) (a : Array Value) (x0 x1 x2 x3 x4 x5 x6 x7 : Int) : intAt ((w.alloc (.cells a 23)).alloc (.cells #[.int .i64 x0, .int .i64 x1, .int .i64 x2, .int .i64 x3, .int .i64 x4, .int .i64 x5, .int .i64 x6, .int .i64 x7] 23)) (w.heap.size + 1) 0 = x0 ∧ intAt ((w.alloc (.cells a 23)).alloc (.cells #[.int .i64 x0, .int .i64 x1, .int .i64 x2, .int .i64 x3, .int .i64 x4, .int .i64 x5, .int .i64 x6, .int .i64 x7] 23)) (w.heap.size + 1) 1 = x1 := by
  constructor
  · unfold intAt
    have : ((w.alloc (.cells a 23)).alloc (.cells #[.int .i64 x0, .int .i64 x1, .int .i64 x2, .int .i64 x3, .int .i64 x4, .int .i64 x5, .int .i64 x6, .int .i64 x7] 23)).cell? ⟨w.heap.size + 1, 0, none⟩ = some (.int .i64 x0) := by
      simp
    rw [this]; rfl
  · unfold intAt
    have : ((w.alloc (.cells a 23)).alloc (.cells #[.int .i64 x0, .int .i64 x1, .int .i64 x2, .int .i64 x3, .int .i64 x4, .int .i64 x5, .int .i64 x6, .int .i64 x7] 23)).cell? ⟨w.heap.size + 1, 1, none⟩ = some (.int .i64 x1) := by
      simp
    rw [this]; rfl

theorem intAt_drew (W : World) (b o : Nat) : intAt W.drew b o = intAt W b o := rfl
set_option maxRecDepth 100000 in
set_option maxHeartbeats 2000000 in
theorem Of_ok (t : Int) (w : World) (h1 : -62135596800 ≤ t) (h2 : t ≤ 253402300799) :
    Calls Tryz.prog 10 #[.int .i64 t] w fun e w' => (∃ y mo, e = .returned (.tuple #[ofV t y mo, .int .i64 0]) ∧ DateOk (t / 86400) y mo) ∧ Below w.heap.size w w' := by
  have D1 := Lib.hid (fun W => div_any t 86400 W (by decide) (by omega) (by omega) (by decide))
  obtain ⟨day, hday⟩ : ∃ day, day = t / 86400 := ⟨_, rfl⟩
  obtain ⟨sec, hsec⟩ : ∃ sec, sec = t % 86400 := ⟨_, rfl⟩
  have d1 : -719162 ≤ day := by omega
  have d2 : day ≤ 2932896 := by omega
  have s1 : 0 ≤ sec := by omega
  have s2 : sec < 86400 := by omega
  unfold ofV
  rw [← hday, ← hsec] at D1
  rw [← hday, ← hsec]
  have D2 := Lib.hid (fun W => div_any (day + 4) 7 W (by decide) (by omega) (by omega) (by decide))
  have D3 := Lib.hid (fun W => div_any (day * 400 + 287787200) 146097 W (by decide) (by omega) (by omega) (by decide))
  obtain ⟨y0, hy0⟩ : ∃ y, y = (day * 400 + 287787200) / 146097 := ⟨_, rfl⟩
  rw [← hy0] at D3
  clear hday hsec
  go_enter Tryz.func10, Tryz.ntmps10
  go_wp2_with fail
  refine (D1.out _).mono ?_
  rintro e _ ⟨rfl, rfl⟩
  go_wp2_with fail
  refine (D2.out _).mono ?_
  rintro e _ ⟨rfl, rfl⟩
  go_wp2_with fail
  refine (D3.out _).mono ?_
  rintro e _ ⟨rfl, rfl⟩
  go_wp2_with fail
  rw [← hy0]
  obtain ⟨N, hN⟩ : ∃ N, N = w.heap.size := ⟨_, rfl⟩
  rw [← hN]
  have HBw : Hid (Below w.heap.size w w) := Below.refl _ _
  have HN := Lib.hid hN
  obtain ⟨H, hH⟩ : ∃ H, H = sec / 3600 := ⟨_, rfl⟩
  obtain ⟨M, hM⟩ : ∃ M, M = sec / 60 % 60 := ⟨_, rfl⟩
  obtain ⟨S, hS⟩ : ∃ S, S = sec % 60 := ⟨_, rfl⟩
  obtain ⟨K, hK⟩ : ∃ K, K = (day + 4) % 7 := ⟨_, rfl⟩
  rw [← hH, ← hM, ← hS, ← hK]
  have HH := Lib.hid hH
  have HM := Lib.hid hM
  have HS := Lib.hid hS
  have HK := Lib.hid hK
  have HY0 := Lib.hid hy0
  have y01 : -10 ≤ y0 := by omega
  have y02 : y0 ≤ 10010 := by omega
  clear hH hM hS hK hy0 D1 D2 D3 hN
  go_loopw [] (fun wr => ∃ (w0 : World) (y : Int), wr = (w0.alloc (.cells #[.int .i64 0, .int .i64 0, .int .i64 0, .int .i64 0, .int .i64 0, .int .i64 0, .int .i64 0, .int .i64 0] 23)).alloc (.cells #[.int .i64 y, .int .i64 0, .int .i64 0, .int .i64 H, .int .i64 M, .int .i64 S, .int .i64 K, .int .i64 0] 23) ∧ w0.heap.size = N ∧ Hid (Below w.heap.size w w0) ∧ -10 ≤ y ∧ y ≤ 10010) (fun wr => (day + 1 - beginL (intAt wr (N + 1) 0 + 1) 1).toNat)
  case atStart => exact ⟨w.drew.drew.drew, y0, rfl, HN.out.symm, by show Below _ _ _; exact (((Below.refl _ _).drew).drew).drew, y01, y02⟩
  case round =>
    obtain ⟨w0, y, rfl, hw0, HB, g1, g2⟩ := hrel
    have B1 := Lib.hid (fun W => begin_any (y + 1) 1 W (by omega) (by omega) (by decide) (by decide))
    rcases Int.lt_or_le day (beginL (y + 1) 1) with hc | hc
    · have HC := Lib.hid hc
      obtain ⟨bg, hbg⟩ : ∃ bg, bg = beginL (y + 1) 1 := ⟨_, rfl⟩
      rw [← hbg] at B1 hc
      clear hbg
      go_wp2_with fail
      refine (B1.out _).mono ?_
      rintro e _ ⟨rfl, rfl⟩
      clear B1
      go_wp2_with fail
      go_loopw [] (fun wr => ∃ (w0 : World) (y : Int), wr = (w0.alloc (.cells #[.int .i64 0, .int .i64 0, .int .i64 0, .int .i64 0, .int .i64 0, .int .i64 0, .int .i64 0, .int .i64 0] 23)).alloc (.cells #[.int .i64 y, .int .i64 0, .int .i64 0, .int .i64 H, .int .i64 M, .int .i64 S, .int .i64 K, .int .i64 0] 23) ∧ w0.heap.size = N ∧ Hid (Below w.heap.size w w0) ∧ -10 ≤ y ∧ y ≤ 10010 ∧ Hid (day < beginL (y + 1) 1)) (fun wr => (beginL (intAt wr (N + 1) 0) 1 - day).toNat)
      case atStart => exact ⟨w0.drew.drew.drew.drew, y, rfl, hw0, by show Below _ _ _; exact (((HB.out.drew).drew).drew).drew, g1, g2, HC⟩
      case round =>
        clear g1 g2 HC hc HB hw0
        obtain ⟨w1, y1, rfl, hw1, HB1, g1, g2, HC1⟩ := hrel
        have B2 := Lib.hid (fun W => begin_any y1 1 W (by omega) (by omega) (by decide) (by decide))
        rcases Int.lt_or_le day (beginL y1 1) with hc2 | hc2
        · have hy' : -10 ≤ y1 - 1 := by
            revert hc2
            unfold beginL daysL
            omega
          have HN2 : Hid (day < beginL (y1 - 1 + 1) 1) := by show _ < _; rw [Int.sub_add_cancel]; exact hc2
          obtain ⟨bg, hbg⟩ : ∃ bg, bg = beginL y1 1 := ⟨_, rfl⟩
          have hms : Hid (beginL (y1 - 1) 1 < beginL y1 1) := by
            show _ < _
            unfold beginL daysL
            omega
          rw [← hbg] at B2 hc2
          have HBG := Lib.hid hbg
          clear hbg
          go_wp2_with fail
          refine (B2.out _).mono ?_
          rintro e _ ⟨rfl, rfl⟩
          clear B2
          go_wp2_with fail
          go_roundw
          case rel => exact ⟨w1.drew.drew.drew.drew, y1 - 1, rfl, hw1, by show Below _ _ _; exact (((HB1.out.drew).drew).drew).drew, hy', by omega, HN2⟩
          case measure =>
            rw [← hw1, intAt_drew, intAt_drew, intAt_drew, intAt_drew, (intAt_date _ _ _ _ _ _ _ _ _ _).1, (intAt_date _ _ _ _ _ _ _ _ _ _).1]
            have e1 := hms.out
            have e2 := HBG.out
            omega
        · have HL := Lib.hid hc2
          obtain ⟨bg, hbg⟩ : ∃ bg, bg = beginL y1 1 := ⟨_, rfl⟩
          have bgb : -2000000000 ≤ bg := by rw [hbg]; unfold beginL daysL; omega
          rw [← hbg] at B2 hc2
          have HBG := Lib.hid hbg
          clear hbg
          go_wp2_with fail
          refine (B2.out _).mono ?_
          rintro e _ ⟨rfl, rfl⟩
          go_wp2_with fail
          refine (B2.out _).mono ?_
          rintro e _ ⟨rfl, rfl⟩
          clear B2
          go_wp2_with fail
          obtain ⟨yd, hyd⟩ : ∃ yd, yd = day - bg + 1 := ⟨_, rfl⟩
          rw [← hyd]
          have HYD := Lib.hid hyd
          clear hyd
          go_loopw [] (fun wr => ∃ (w0 : World) (mo : Int), wr = (w0.alloc (.cells #[.int .i64 0, .int .i64 0, .int .i64 0, .int .i64 0, .int .i64 0, .int .i64 0, .int .i64 0, .int .i64 0] 23)).alloc (.cells #[.int .i64 y1, .int .i64 mo, .int .i64 0, .int .i64 H, .int .i64 M, .int .i64 S, .int .i64 K, .int .i64 yd] 23) ∧ w0.heap.size = N ∧ Hid (Below w.heap.size w w0) ∧ 1 ≤ mo ∧ mo ≤ 12 ∧ Hid (mo < 12 → day < beginL y1 (mo + 1))) (fun wr => (intAt wr (N + 1) 1).toNat)
          case atStart => exact ⟨w1.drew.drew.drew.drew.drew.drew.drew.drew, 12, rfl, hw1, by show Below _ _ _; exact ((((((((HB1.out.drew).drew).drew).drew).drew).drew).drew).drew), by decide, by decide, by show _ → _; intro h; omega⟩
          case round =>
            clear HB1 hw1
            obtain ⟨w2, mo, rfl, hw2, HB2, m1, m2, HM2⟩ := hrel
            have B3 := Lib.hid (fun W => begin_any y1 mo W (by omega) (by omega) (by omega) (by omega))
            obtain ⟨b3, hb3⟩ : ∃ b3, b3 = beginL y1 mo := ⟨_, rfl⟩
            have b3b : -2000000000 ≤ b3 := by rw [hb3]; unfold beginL daysL; omega
            rw [← hb3] at B3
            rcases Int.lt_or_le day b3 with hc3 | hc3
            · have hm2 : 2 ≤ mo := by
                rcases Int.lt_or_le mo 2 with h | h
                · exfalso
                  have h5 : mo = 1 := by omega
                  have h6 := HL.out
                  rw [h5] at hb3
                  omega
                · exact h
              have HN3 : Hid (mo - 1 < 12 → day < beginL y1 (mo - 1 + 1)) := by
                show _ → _
                intro _
                rw [Int.sub_add_cancel, ← hb3]; exact hc3
              clear hb3
              go_wp2_with fail
              refine (B3.out _).mono ?_
              rintro e _ ⟨rfl, rfl⟩
              clear B3
              go_wp2_with fail
              go_roundw
              case rel => exact ⟨w2.drew.drew.drew.drew, mo - 1, rfl, hw2, by show Below _ _ _; exact (((HB2.out.drew).drew).drew).drew, by omega, by omega, HN3⟩
              case measure =>
                rw [← hw2, intAt_drew, intAt_drew, intAt_drew, intAt_drew, (intAt_date _ _ _ _ _ _ _ _ _ _).2, (intAt_date _ _ _ _ _ _ _ _ _ _).2]
                omega
            · have HB3 := Lib.hid hb3
              clear hb3
              go_wp2_with fail
              refine (B3.out _).mono ?_
              rintro e _ ⟨rfl, rfl⟩
              go_wp2_with fail
              refine (B3.out _).mono ?_
              rintro e _ ⟨rfl, rfl⟩
              clear B3
              go_wp2_with fail
              have e1 := HB3.out
              have e2 := HBG.out
              have e3 := HYD.out
              refine bodyPost_ret (v := .tuple #[.agg #[.int .i64 y1, .int .i64 mo, .int .i64 (day - b3 + 1), .int .i64 H, .int .i64 M, .int .i64 S, .int .i64 K, .int .i64 yd], .int .i64 0]) (by simp [results, Tryz.results10, go_sem, hw2]) rfl ⟨⟨y1, mo, ?_, ?_⟩, ?_⟩
              · rw [e1, e3, e2, HH.out, HM.out, HS.out, HK.out]
                rfl
              · exact ⟨HL.out, HC1.out, m1, m2, by rw [← e1]; exact hc3, HM2.out⟩
              · exact ((((((((((HB2.out).alloc (by have := HN.out; omega) _).alloc (by simp; have := HN.out; omega) _).drew).drew).drew).drew).drew).drew).drew).drew
    · have hy' : y + 1 ≤ 10010 := by
        revert hc
        unfold beginL daysL
        omega
      obtain ⟨bg, hbg⟩ : ∃ bg, bg = beginL (y + 1) 1 := ⟨_, rfl⟩
      rw [← hbg] at B1 hc
      have HBG := Lib.hid hbg
      clear hbg
      have hms : Hid (beginL (y + 1) 1 < beginL (y + 1 + 1) 1) := by
        show _ < _
        unfold beginL daysL
        omega
      go_wp2_with fail
      refine (B1.out _).mono ?_
      rintro e _ ⟨rfl, rfl⟩
      clear B1
      go_wp2_with fail
      go_roundw
      case rel => exact ⟨w0.drew.drew.drew.drew, y + 1, rfl, hw0, by show Below _ _ _; exact (((HB.out.drew).drew).drew).drew, by omega, hy'⟩
      case measure =>
        rw [← hw0, intAt_drew, intAt_drew, intAt_drew, intAt_drew, (intAt_date _ _ _ _ _ _ _ _ _ _).1, (intAt_date _ _ _ _ _ _ _ _ _ _).1]
        have e1 := hms.out
        have e2 := HBG.out
        omega
end Go.Proofs.YtcipmfjefmjacaaGreatDoor
