/- Package ref13: At. -/
import Derived.Test.YtcipmfjefmjacaaGreatDoorC18
import Derived.BigRegion
namespace Go.Proofs.YtcipmfjefmjacaaGreatDoor
open Go.RowKit
set_option linter.unusedVariables false

theorem begin_up (y m : Int) : beginL (y + 1) (m - 12) = beginL y m := by
  unfold beginL
  have e1 : (m - 12 - 3) / 12 = (m - 3) / 12 - 1 := by omega
  have e2 : (m - 12 - 3) % 12 = (m - 3) % 12 := by omega
  rw [e1, e2]
  congr 2
  omega
theorem begin_down (y m : Int) : beginL (y - 1) (m + 12) = beginL y m := by
  have h := begin_up (y - 1) (m + 12)
  rw [show y - 1 + 1 = y by omega, show m + 12 - 12 = m by omega] at h
  exact h.symm

set_option maxRecDepth 100000 in
set_option maxHeartbeats 8000000 in
theorem RAt_out (y mo da h mi s wk yd : Int) (w : World) (hno : ¬ okSix y mo da h mi s) :
    Calls Tryz.prog 13 #[dateV y mo da h mi s wk yd] w fun e w' => e = .returned (.tuple #[.int .i64 0, .int .i64 1]) ∧ Below w.heap.size w w' := by
  have HNo := Lib.hid hno
  have hd : dateV y mo da h mi s wk yd = .agg #[.int .i64 y, .int .i64 mo, .int .i64 da, .int .i64 h, .int .i64 mi, .int .i64 s, .int .i64 wk, .int .i64 yd] := rfl
  rw [hd]
  clear hd hno
  go_enter Tryz.func13, Tryz.ntmps13
  go_wp2_with fail
  refine wp_loop_rounds 7 ?_
  rw [rounds_succ]
  by_cases c0 : okN y
  rotate_left
  · rcases not_ok c0 with q | q
    · clear c0
      go_wp2_with fail
      go_ret2
      exact ⟨rfl, ((Below.refl _ _).alloc (Nat.le_refl _) _).alloc (by simp) _⟩
    · have q2 : -1000000 ≤ y := by omega
      clear c0
      go_wp2_with fail
      go_ret2
      exact ⟨rfl, ((Below.refl _ _).alloc (Nat.le_refl _) _).alloc (by simp) _⟩
  obtain ⟨l0, u0⟩ := c0
  go_wp2_with fail
  rw [rounds_succ]
  by_cases c1 : okN mo
  rotate_left
  · rcases not_ok c1 with q | q
    · clear c1
      go_wp2_with fail
      go_ret2
      exact ⟨rfl, ((Below.refl _ _).alloc (Nat.le_refl _) _).alloc (by simp) _⟩
    · have q2 : -1000000 ≤ mo := by omega
      clear c1
      go_wp2_with fail
      go_ret2
      exact ⟨rfl, ((Below.refl _ _).alloc (Nat.le_refl _) _).alloc (by simp) _⟩
  obtain ⟨l1, u1⟩ := c1
  go_wp2_with fail
  rw [rounds_succ]
  by_cases c2 : okN da
  rotate_left
  · rcases not_ok c2 with q | q
    · clear c2
      go_wp2_with fail
      go_ret2
      exact ⟨rfl, ((Below.refl _ _).alloc (Nat.le_refl _) _).alloc (by simp) _⟩
    · have q2 : -1000000 ≤ da := by omega
      clear c2
      go_wp2_with fail
      go_ret2
      exact ⟨rfl, ((Below.refl _ _).alloc (Nat.le_refl _) _).alloc (by simp) _⟩
  obtain ⟨l2, u2⟩ := c2
  go_wp2_with fail
  rw [rounds_succ]
  by_cases c3 : okN h
  rotate_left
  · rcases not_ok c3 with q | q
    · clear c3
      go_wp2_with fail
      go_ret2
      exact ⟨rfl, ((Below.refl _ _).alloc (Nat.le_refl _) _).alloc (by simp) _⟩
    · have q2 : -1000000 ≤ h := by omega
      clear c3
      go_wp2_with fail
      go_ret2
      exact ⟨rfl, ((Below.refl _ _).alloc (Nat.le_refl _) _).alloc (by simp) _⟩
  obtain ⟨l3, u3⟩ := c3
  go_wp2_with fail
  rw [rounds_succ]
  by_cases c4 : okN mi
  rotate_left
  · rcases not_ok c4 with q | q
    · clear c4
      go_wp2_with fail
      go_ret2
      exact ⟨rfl, ((Below.refl _ _).alloc (Nat.le_refl _) _).alloc (by simp) _⟩
    · have q2 : -1000000 ≤ mi := by omega
      clear c4
      go_wp2_with fail
      go_ret2
      exact ⟨rfl, ((Below.refl _ _).alloc (Nat.le_refl _) _).alloc (by simp) _⟩
  obtain ⟨l4, u4⟩ := c4
  go_wp2_with fail
  rw [rounds_succ]
  by_cases c5 : okN s
  rotate_left
  · rcases not_ok c5 with q | q
    · clear c5
      go_wp2_with fail
      go_ret2
      exact ⟨rfl, ((Below.refl _ _).alloc (Nat.le_refl _) _).alloc (by simp) _⟩
    · have q2 : -1000000 ≤ s := by omega
      clear c5
      go_wp2_with fail
      go_ret2
      exact ⟨rfl, ((Below.refl _ _).alloc (Nat.le_refl _) _).alloc (by simp) _⟩
  obtain ⟨l5, u5⟩ := c5
  go_wp2_with fail
  exact absurd ⟨⟨l0, u0⟩, ⟨l1, u1⟩, ⟨l2, u2⟩, ⟨l3, u3⟩, ⟨l4, u4⟩, ⟨l5, u5⟩⟩ HNo.out

/-- what At answers for a date whose numbers are within their bounds -/
def atV (T : Int) : Value := if -62135596800 ≤ T ∧ T ≤ 253402300799 then .tuple #[.int .i64 T, .int .i64 0] else .tuple #[.int .i64 0, .int .i64 1]

set_option maxRecDepth 100000 in
set_option maxHeartbeats 8000000 in
theorem RAt_in (y mo da h mi s wk yd : Int) (w : World) (hy1 : -1000000 ≤ y) (hy2 : y ≤ 1000000) (hmo1 : -1000000 ≤ mo) (hmo2 : mo ≤ 1000000) (hda1 : -1000000 ≤ da) (hda2 : da ≤ 1000000) (hh1 : -1000000 ≤ h) (hh2 : h ≤ 1000000) (hmi1 : -1000000 ≤ mi) (hmi2 : mi ≤ 1000000) (hs1 : -1000000 ≤ s) (hs2 : s ≤ 1000000) :
    Calls Tryz.prog 13 #[dateV y mo da h mi s wk yd] w fun e w' => e = .returned (atV (atL y mo da h mi s)) ∧ Below w.heap.size w w' := by
  have HA : Hid (atL y mo da h mi s = (beginL y mo + da - 1) * 86400 + h * 3600 + mi * 60 + s) := rfl
  generalize atL y mo da h mi s = T at *
  have hd : dateV y mo da h mi s wk yd = .agg #[.int .i64 y, .int .i64 mo, .int .i64 da, .int .i64 h, .int .i64 mi, .int .i64 s, .int .i64 wk, .int .i64 yd] := rfl
  rw [hd]
  clear hd
  go_enter Tryz.func13, Tryz.ntmps13
  go_wp2_with fail
  refine wp_loop_rounds 7 ?_
  rw [rounds_succ]
  go_wp2_with fail
  rw [rounds_succ]
  go_wp2_with fail
  rw [rounds_succ]
  go_wp2_with fail
  rw [rounds_succ]
  go_wp2_with fail
  rw [rounds_succ]
  go_wp2_with fail
  rw [rounds_succ]
  go_wp2_with fail
  rw [rounds_succ]
  go_wp2_with fail
  have HMO1 := Lib.hid hmo1
  have HMO2 := Lib.hid hmo2
  have HDA1 := Lib.hid hda1
  have HDA2 := Lib.hid hda2
  have HH1 := Lib.hid hh1
  have HH2 := Lib.hid hh2
  have HMI1 := Lib.hid hmi1
  have HMI2 := Lib.hid hmi2
  have HS1 := Lib.hid hs1
  have HS2 := Lib.hid hs2
  go_region
  go_wp2_with fail
  clear hmo1 hmo2 hda1 hda2 hh1 hh2 hmi1 hmi2 hs1 hs2
  go_loop [6, 7] (fun a b => ∃ y1 m1 : Int, a = .int .i64 y1 ∧ b = .int .i64 m1 ∧ -1000000 ≤ m1 ∧ m1 ≤ 1000000 ∧ -1000000 ≤ y1 ∧ y1 + m1 ≤ 2000000 ∧ Hid (beginL y1 m1 = beginL y mo)) (fun _ b => (intOf b + 1000000).toNat)
  case atStart => exact ⟨y, mo, rfl, rfl, HMO1.out, HMO2.out, hy1, by have := HMO2.out; omega, by show _ = _; rfl⟩
  case round =>
    clear hy1 hy2
    obtain ⟨y1, m1, rfl, rfl, b1, b2, b3, b4, HE⟩ := hrel
    rcases Int.lt_or_le 12 m1 with hc | hc
    · go_wp2_with fail
      go_round
      case rel => exact ⟨y1 + 1, m1 - 12, rfl, rfl, by omega, by omega, by omega, by omega, by show _ = _; rw [begin_up]; exact HE.out⟩
      case measure => simp only [intOf]; omega
    · go_wp2_with fail
      go_loop [6, 7] (fun a b => ∃ y1 m1 : Int, a = .int .i64 y1 ∧ b = .int .i64 m1 ∧ m1 ≤ 12 ∧ -1000000 ≤ m1 ∧ y1 ≤ 3000000 ∧ -2000000 ≤ y1 + m1 ∧ Hid (beginL y1 m1 = beginL y mo)) (fun _ b => (12 - intOf b).toNat)
      case atStart => exact ⟨y1, m1, rfl, rfl, hc, b1, by omega, by omega, HE⟩
      case round =>
        clear b1 b2 b3 b4 HE hc
        obtain ⟨y1, m1, rfl, rfl, b1, b2, b3, b4, HE⟩ := hrel
        rcases Int.lt_or_le m1 1 with hc | hc
        · go_wp2_with fail
          go_round
          case rel => exact ⟨y1 - 1, m1 + 12, rfl, rfl, by omega, by omega, by omega, by omega, by show _ = _; rw [begin_down]; exact HE.out⟩
          case measure => simp only [intOf]; omega
        · have b5 : -2000012 ≤ y1 := by omega
          clear b2 b4
          go_wp2_with fail
          go_loop [8, 9] (fun dv kv => ∃ dd k : Int, dv = .int .i64 dd ∧ kv = .int .i64 k ∧ 1 ≤ k ∧ k ≤ m1 ∧ -1000001 ≤ dd ∧ dd ≤ 1000000 + 31 * k ∧ Hid (dd = da - 1 + beginL y1 k - beginL y1 1)) (fun _ k => (12 - intOf k).toNat)
          case atStart => exact ⟨da - 1, 1, rfl, rfl, by decide, hc, by have := HDA1.out; omega, by have := HDA2.out; omega, by show _ = _; omega⟩
          case round =>
            obtain ⟨dd, k, rfl, rfl, k1, k2, k3, k4, HD⟩ := hrel
            rcases Int.lt_or_le k m1 with hk | hk
            · have HL := Lib.hid (fun W => length_any y1 k W)
              obtain ⟨L, hL⟩ : ∃ L, L = lenL y1 k := ⟨_, rfl⟩
              have hlp := lenL_pos y1 k
              rw [← hL] at HL hlp
              obtain ⟨lp1, lp2⟩ := hlp
              have HLL := Lib.hid hL
              clear hL
              go_wp2_with fail
              refine (HL.out _).mono ?_
              rintro e _ ⟨rfl, rfl⟩
              go_wp2_with fail
              go_round
              case rel =>
                refine ⟨dd + L, k + 1, rfl, rfl, by omega, by omega, by omega, by omega, ?_⟩
                show _ = _
                have q1 := lenL_eq (y := y1) (m := k) k1 (by omega)
                have q2 := HD.out
                have q3 := HLL.out
                omega
              case measure => simp only [intOf]; omega
            · have hkm : k = m1 := by omega
              subst hkm
              have HC : Hid (dd + beginL y1 1 = da - 1 + beginL y mo) := by show _ = _; have := HD.out; have := HE.out; omega
              clear HD HE k2
              have k5 : dd ≤ 1000400 := by omega
              clear k4
              go_wp2_with fail
              go_loop [6, 8] (fun yv dv => ∃ y2 dd : Int, yv = .int .i64 y2 ∧ dv = .int .i64 dd ∧ -2000012 ≤ y2 ∧ y2 ≤ 3000000 ∧ -1000001 ≤ dd ∧ dd ≤ 1000400 + 366 * (3000000 - y2) ∧ Hid (dd + beginL y2 1 = da - 1 + beginL y mo)) (fun yv _ => (intOf yv).toNat)
              case atStart => exact ⟨y1, dd, rfl, rfl, b5, b3, k3, by omega, HC⟩
              case round =>
                clear b1 b3 b5 hc k1 k3 k5 HC hk
                obtain ⟨y1, dd, rfl, rfl, b1, b2, b3, b4, HC⟩ := hrel
                rcases Int.lt_or_le 1 y1 with hc | hc
                · rcases Int.lt_or_le 401 y1 with hq | hq
                  · go_wp2_with fail
                    go_round
                    case rel =>
                      refine ⟨y1 - 400, dd + 146097, rfl, rfl, by omega, by omega, by omega, by omega, ?_⟩
                      show _ = _
                      have q1 := begin_400 (y1 - 400) 1
                      rw [show y1 - 400 + 400 = y1 by omega] at q1
                      have q2 := HC.out
                      omega
                    case measure => simp only [intOf]; omega
                  · have HL := Lib.hid (fun W => year_any (y1 - 1) W)
                    obtain ⟨L, hL⟩ : ∃ L, L = yearL (y1 - 1) := ⟨_, rfl⟩
                    have hlp := yearL_pos (y1 - 1)
                    rw [← hL] at HL hlp
                    obtain ⟨lp1, lp2⟩ := hlp
                    have HLL := Lib.hid hL
                    clear hL
                    go_wp2_with fail
                    refine (HL.out _).mono ?_
                    rintro e _ ⟨rfl, rfl⟩
                    go_wp2_with fail
                    go_round
                    case rel =>
                      refine ⟨y1 - 1, dd + L, rfl, rfl, by omega, by omega, by omega, by omega, ?_⟩
                      show _ = _
                      have q1 := yearL_eq (y1 - 1)
                      rw [show y1 - 1 + 1 = y1 by omega] at q1
                      have q2 := HC.out
                      have q3 := HLL.out
                      omega
                    case measure => simp only [intOf]; omega
                · have k5 : dd ≤ 2000000000 := by omega
                  clear b2 b4
                  go_wp2_with fail
                  go_loop [6, 8] (fun yv dv => ∃ y2 dd : Int, yv = .int .i64 y2 ∧ dv = .int .i64 dd ∧ -2000012 ≤ y2 ∧ y2 ≤ 1 ∧ dd ≤ 2000000000 ∧ -1000001 - 366 * (y2 + 2000012) ≤ dd ∧ Hid (dd + beginL y2 1 = da - 1 + beginL y mo)) (fun yv _ => (1 - intOf yv).toNat)
                  case atStart => exact ⟨y1, dd, rfl, rfl, b1, hc, k5, by omega, HC⟩
                  case round =>
                    clear b1 b3 hc k5 HC
                    obtain ⟨y1, dd, rfl, rfl, b1, b2, b3, b4, HC⟩ := hrel
                    rcases Int.lt_or_le y1 1 with hc | hc
                    · rcases Int.lt_or_le y1 (-400) with hq | hq
                      · go_wp2_with fail
                        go_round
                        case rel =>
                          refine ⟨y1 + 400, dd - 146097, rfl, rfl, by omega, by omega, by omega, by omega, ?_⟩
                          show _ = _
                          have q1 := begin_400 y1 1
                          have q2 := HC.out
                          omega
                        case measure => simp only [intOf]; omega
                      · have HL := Lib.hid (fun W => year_any y1 W)
                        obtain ⟨L, hL⟩ : ∃ L, L = yearL y1 := ⟨_, rfl⟩
                        have hlp := yearL_pos y1
                        rw [← hL] at HL hlp
                        obtain ⟨lp1, lp2⟩ := hlp
                        have HLL := Lib.hid hL
                        clear hL
                        go_wp2_with fail
                        refine (HL.out _).mono ?_
                        rintro e _ ⟨rfl, rfl⟩
                        go_wp2_with fail
                        go_round
                        case rel =>
                          refine ⟨y1 + 1, dd - L, rfl, rfl, by omega, by omega, by omega, by omega, ?_⟩
                          show _ = _
                          have q1 := yearL_eq y1
                          have q2 := HC.out
                          have q3 := HLL.out
                          omega
                        case measure => simp only [intOf]; omega
                    · have hy : y1 = 1 := by omega
                      subst hy
                      have hT : -62135596800 + dd * 86400 + h * 3600 + mi * 60 + s = T := by
                        have q1 := HC.out
                        have q2 := HA.out
                        have q3 : beginL 1 1 = -719162 := by decide
                        omega
                      have e1 := HH1.out
                      have e2 := HH2.out
                      have e3 := HMI1.out
                      have e4 := HMI2.out
                      have e5 := HS1.out
                      have e6 := HS2.out
                      have t1 : -1000000000000000 ≤ T := by omega
                      have t2 : T ≤ 1000000000000000 := by omega
                      by_cases g1 : -62135596800 ≤ T
                      · by_cases g2 : T ≤ 253402300799
                        · have hAV : Hid (atV T = .tuple #[.int .i64 T, .int .i64 0]) := by show _ = _; unfold atV; rw [if_pos ⟨g1, g2⟩]
                          go_wp2_with fail
                          go_ret2
                          exact ⟨by rw [hAV.out]; rfl, (((Below.refl _ _).alloc (Nat.le_refl _) _).alloc (by simp) _).drew⟩
                        · have hAV : Hid (atV T = .tuple #[.int .i64 0, .int .i64 1]) := by show _ = _; unfold atV; rw [if_neg (fun q => g2 q.2)]
                          go_wp2_with fail
                          go_ret2
                          exact ⟨by rw [hAV.out]; rfl, (((Below.refl _ _).alloc (Nat.le_refl _) _).alloc (by simp) _).drew⟩
                      · have hAV : Hid (atV T = .tuple #[.int .i64 0, .int .i64 1]) := by show _ = _; unfold atV; rw [if_neg (fun q => g1 q.1)]
                        go_wp2_with fail
                        go_ret2
                        exact ⟨by rw [hAV.out]; rfl, (((Below.refl _ _).alloc (Nat.le_refl _) _).alloc (by simp) _).drew⟩
end Go.Proofs.YtcipmfjefmjacaaGreatDoor
