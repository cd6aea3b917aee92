/- The law CalDates. -/
import Derived.Test.YtcipmfjefmjacaaGreatDoorC19
import Derived.Test.YtcipmfjefmjacaaGreatDoorC15
namespace Go.Proofs.YtcipmfjefmjacaaGreatDoor
open Go.RowKit
set_option linter.unusedVariables false

/-- both At's answer alike -/
theorem At_both (y mo da h mi s wk yd : Int) : ∃ a b : Int, (∀ W : World, Calls Tryz.prog 12 #[dateV y mo da h mi s wk yd] W fun e w' => e = .returned (.tuple #[.int .i64 a, .int .i64 b]) ∧ Below W.heap.size W w') ∧
    (∀ W : World, Calls Tryz.prog 13 #[dateV y mo da h mi s wk yd] W fun e w' => e = .returned (.tuple #[.int .i64 a, .int .i64 b]) ∧ Below W.heap.size W w') := by
  by_cases hok : okSix y mo da h mi s
  · have hok2 := hok
    obtain ⟨⟨a1, a2⟩, ⟨b1, b2⟩, ⟨c1, c2⟩, ⟨d1, d2⟩, ⟨e1, e2⟩, ⟨f1, f2⟩⟩ := hok
    have HR := fun W => RAt_in y mo da h mi s wk yd W a1 a2 b1 b2 c1 c2 d1 d2 e1 e2 f1 f2
    by_cases ht : -62135596800 ≤ atL y mo da h mi s ∧ atL y mo da h mi s ≤ 253402300799
    · refine ⟨atL y mo da h mi s, 0, fun W => At_ok y mo da h mi s wk yd W a1 a2 b1 b2 c1 c2 d1 d2 e1 e2 f1 f2 ht.1 ht.2, fun W => ?_⟩
      have := HR W
      unfold atV at this
      rw [if_pos ht] at this
      exact this
    · refine ⟨0, 1, fun W => At_late y mo da h mi s wk yd W a1 a2 b1 b2 c1 c2 d1 d2 e1 e2 f1 f2 (by omega), fun W => ?_⟩
      have := HR W
      unfold atV at this
      rw [if_neg ht] at this
      exact this
  · exact ⟨0, 1, fun W => At_out y mo da h mi s wk yd W hok, fun W => RAt_out y mo da h mi s wk yd W hok⟩

set_option maxRecDepth 100000 in
set_option maxHeartbeats 4000000 in
theorem dates_any (t : Int) (y mo da h mi s wk yd : Int) (w : World) (hT : Tabs w) (ht1 : -9223372036854775808 ≤ t) (ht2 : t ≤ 9223372036854775807) :
    Calls Tryz.prog 3 #[.int .i64 t, dateV y mo da h mi s wk yd] w fun e w' => e = .returned (.bool true) ∧ Below w.heap.size w w' := by
  have hO : ∀ w : World, Calls Tryz.prog 10 #[.int .i64 t] w fun e w' => (∃ x0 x1 x2 x3 x4 x5 x6 x7 g, e = .returned (.tuple #[.agg #[.int .i64 x0, .int .i64 x1, .int .i64 x2, .int .i64 x3, .int .i64 x4, .int .i64 x5, .int .i64 x6, .int .i64 x7], .int .i64 g]) ∧
      Hid (∀ W : World, Calls Tryz.prog 11 #[.int .i64 t] W fun e w' => e = .returned (.tuple #[.agg #[.int .i64 x0, .int .i64 x1, .int .i64 x2, .int .i64 x3, .int .i64 x4, .int .i64 x5, .int .i64 x6, .int .i64 x7], .int .i64 g]) ∧ Below W.heap.size W w')) ∧ Below w.heap.size w w' := by
    intro w
    by_cases hbad : t < -62135596800 ∨ 253402300799 < t
    · exact (Of_bad t w hbad ht1 ht2).mono fun e w' ⟨he, hb⟩ => ⟨⟨0, 0, 0, 0, 0, 0, 0, 0, 1, he, fun W => ROf_bad t W hbad ht1 ht2⟩, hb⟩
    · refine (Of_ok t w (by omega) (by omega)).mono fun e w' ⟨⟨y, mo, he, hd⟩, hb⟩ => ⟨⟨_, _, _, _, _, _, _, _, _, he, fun W => ?_⟩, hb⟩
      refine (ROf_ok t W (by omega) (by omega)).mono fun e2 w' ⟨⟨y', mo', he2, hd'⟩, hb2⟩ => ⟨?_, hb2⟩
      obtain ⟨rfl, rfl⟩ := hd'.unique hd
      exact he2
  have HO := Lib.hid hO
  obtain ⟨a, b, hA, hR⟩ := At_both y mo da h mi s wk yd
  have hd : dateV y mo da h mi s wk yd = .agg #[.int .i64 y, .int .i64 mo, .int .i64 da, .int .i64 h, .int .i64 mi, .int .i64 s, .int .i64 wk, .int .i64 yd] := rfl
  rw [hd] at hA hR ⊢
  have HA := Lib.hid hA
  have HR := Lib.hid hR
  have hX : ∀ o, Calls Tryz.prog _ _ (w.alloc o) _ := fun o => fixed13_any (w.alloc o) (hT.below ((Below.refl w.heap.size w).alloc (Nat.le_refl _) o))
  have HX := Lib.hid hX
  have hnew := cellsAt_new w y mo da h mi s wk yd
  have HN := Lib.hid hnew
  clear hT ht1 ht2 hd hX hO hA hR hnew
  go_enter Tryz.func3, Tryz.ntmps3
  go_wp2_with fail
  refine (HX.out _).mono ?_
  rintro e w1 ⟨rfl, hb1⟩
  have HB1 := Lib.hid (((Below.refl w.heap.size w).alloc (Nat.le_refl _) (.cells #[.int .i64 y, .int .i64 mo, .int .i64 da, .int .i64 h, .int .i64 mi, .int .i64 s, .int .i64 wk, .int .i64 yd] 23)).trans (hb1.mono (by simp)))
  have HC1 := Lib.hid (HN.out.below hb1 (by simp))
  have hs1 := hb1.size
  rw [World.size_alloc] at hs1
  clear hb1 HX HN
  go_wp2_with fail
  refine (HO.out w1).mono ?_
  rintro e w2 ⟨⟨x0, x1, x2, x3, x4, x5, x6, x7, g, rfl, HQ⟩, hb2⟩
  have HB2 := Lib.hid (HB1.out.trans (hb2.mono (by omega)))
  have HC2 := Lib.hid (HC1.out.below hb2 (by omega))
  have HX2 := Lib.hid (cellsAt_new w2 x0 x1 x2 x3 x4 x5 x6 x7)
  have hs2 := hb2.size
  clear hb2 HO HB1 HC1
  go_wp2_with fail
  refine (HQ.out _).mono ?_
  rintro e w3 ⟨rfl, hb3⟩
  have HB3 := Lib.hid ((HB2.out.alloc (by omega) _).trans (hb3.mono (by simp; omega)))
  have hb3' := (Below.refl w2.heap.size w2).alloc (Nat.le_refl _) (.cells #[.int .i64 x0, .int .i64 x1, .int .i64 x2, .int .i64 x3, .int .i64 x4, .int .i64 x5, .int .i64 x6, .int .i64 x7] 23)
  have HC3 := Lib.hid ((HC2.out.below hb3' (by omega)).below hb3 (by simp; omega))
  have HX3 := Lib.hid (HX2.out.below hb3 (by simp))
  have HY3 := Lib.hid (cellsAt_new w3 x0 x1 x2 x3 x4 x5 x6 x7)
  have hb4' := (Below.refl w3.heap.size w3).alloc (Nat.le_refl _) (.cells #[.int .i64 x0, .int .i64 x1, .int .i64 x2, .int .i64 x3, .int .i64 x4, .int .i64 x5, .int .i64 x6, .int .i64 x7] 23)
  have hs3 := hb3.size
  rw [World.size_alloc] at hs3
  have HC4 := Lib.hid (HC3.out.below hb4' (by omega))
  have HX4 := Lib.hid (HX3.out.below hb4' (by omega))
  have HB4 := Lib.hid (HB3.out.alloc (by omega) (.cells #[.int .i64 x0, .int .i64 x1, .int .i64 x2, .int .i64 x3, .int .i64 x4, .int .i64 x5, .int .i64 x6, .int .i64 x7] 23))
  clear hb3 hb3' hb4' HQ HB2 HC2 HX2 HB3 HC3 HX3
  obtain ⟨k0, k1, k2, k3, k4, k5, k6, k7⟩ := HC4.out
  go_wp2_with fail
  refine (HA.out _).mono ?_
  rintro e w5 ⟨rfl, hb5⟩
  have HB5 := Lib.hid (HB4.out.trans (hb5.mono (by simp; omega)))
  have HC5 := Lib.hid (HC4.out.below hb5 (by simp; omega))
  have HX5 := Lib.hid (HX4.out.below hb5 (by simp; omega))
  have HY5 := Lib.hid (HY3.out.below hb5 (by simp))
  have hs5 := hb5.size
  rw [World.size_alloc] at hs5
  clear hb5 HA HB4 HC4 HX4 HY3 k0 k1 k2 k3 k4 k5 k6 k7
  obtain ⟨k0, k1, k2, k3, k4, k5, k6, k7⟩ := HC5.out
  go_wp2_with fail
  refine (HR.out _).mono ?_
  rintro e w6 ⟨rfl, hb6⟩
  have HB6 := Lib.hid (HB5.out.trans (hb6.mono (by omega)))
  have HX6 := Lib.hid (HX5.out.below hb6 (by omega))
  have HY6 := Lib.hid (HY5.out.below hb6 (by omega))
  clear hb6 HR HB5 HC5 HX5 HY5 k0 k1 k2 k3 k4 k5 k6 k7
  obtain ⟨k0, k1, k2, k3, k4, k5, k6, k7⟩ := HX6.out
  obtain ⟨j0, j1, j2, j3, j4, j5, j6, j7⟩ := HY6.out
  go_wp2_with fail
  go_ret
  exact ⟨rfl, HB6.out⟩
end Go.Proofs.YtcipmfjefmjacaaGreatDoor
