/- Package format: float and Number by the verb f. -/
import Derived.Test.YtcmpdamfeoaapaaGreatDoorP5
namespace Go.Proofs.YtcmpdamfeoaapaaGreatDoor
open Go.RowKit
set_option linter.unusedVariables false

theorem cell_lt {w : World} {p : Addr} {v : Value} (h : w.cell? p = some v) : p.block < w.heap.size := by
  rcases Nat.lt_or_ge p.block w.heap.size with h' | h'
  · exact h'
  · exfalso
    unfold World.cell? at h
    rw [Array.getElem?_eq_none h'] at h
    cases h
theorem cell_next {w w' : World} (hb : Below w.heap.size w w') {p : Addr} {v : Value} (h : w.cell? p = some v) : w'.cell? p = some v := (hb.cell (cell_lt h)).trans h
theorem heap_next {w w' : World} (hb : Below w.heap.size w w') {D : Nat} {o : Obj} (h : w.heap[D]? = some o) : w'.heap[D]? = some o := (hb.block D (lt_of_heap h)).trans h
theorem below_next {n : Nat} {w w1 w1' w2 : World} (hn : n ≤ w.heap.size) (h : Below n w w1) (hb : Below w1'.heap.size w1' w2) (e : w1' = w1 ∨ w1' = w1.drew) : Below n w w2 := by
  rcases e with rfl | rfl
  · exact h.trans (hb.mono (Nat.le_trans hn h.size))
  · exact h.drew.trans (hb.mono (Nat.le_trans hn h.size))

theorem Fixed_at (b p : Nat) (l0 : List UInt8) (w : World) (hb : b < 18446744073709551616) (hf : fin b = true) (hp : p ≤ 200) (hc : Canon l0 (scaledN b p)) :
    Calls Tryz.prog 66 #[.float .f64 b, .int .i64 p] w fun e w' => e = .returned (.tuple #[.string ⟨(fixedL l0 p).toArray⟩, .int .i64 0]) ∧ Below w.heap.size w w' := by
  refine (Fixed_ok b p w hb hf hp).mono ?_
  rintro e w' ⟨s, l, rfl, hc2, hs, hbw⟩
  obtain rfl := canon_unique hc2 hc
  rw [toBytes hs]
  exact ⟨rfl, hbw⟩

set_option maxHeartbeats 8000000 in
set_option maxRecDepth 1000000 in
/-- float by the verb f, without the flag '#' -/
theorem float_f (m p bl z : Bool) (wd : Int) (pr b : Nat) (l0 : List UInt8) (w : World) (hb : b < 18446744073709551616) (hf : fin b = true) (hp : pr ≤ 190) (hc : Canon l0 (scaledN b pr)) (hw : 0 ≤ wd) (hw2 : wd ≤ 1024) (hl : (fixedL l0 pr).length ≤ 1000000) :
    Calls Tryz.prog 63 #[.agg (specA m p bl false z wd pr 102), .float .f64 b] w fun e w' => e = .returned (.string ⟨(padL m z wd (signL p bl (decide (9223372036854775808 ≤ b))) (fixedL l0 pr)).toArray⟩) ∧ Below w.heap.size w w' := by
  have HFx := Lib.hid (fun W => Fixed_at b pr l0 W hb hf (by omega) hc)
  have HSg := Lib.hid (fun W => sign_any m p bl false z (decide (9223372036854775808 ≤ b)) wd pr 102 W)
  obtain ⟨sg, hsg⟩ : ∃ sg : ByteArray, sg = ⟨(signL p bl (decide (9223372036854775808 ≤ b))).toArray⟩ := ⟨_, rfl⟩
  obtain ⟨fx, hfx⟩ : ∃ fx : ByteArray, fx = ⟨(fixedL l0 pr).toArray⟩ := ⟨_, rfl⟩
  have hsg1 : sg.size ≤ 1000000 := by
    rw [sz_list, hsg]
    show (signL _ _ _).length ≤ _
    unfold signL
    split
    · decide
    · split
      · decide
      · split <;> decide
  have hfx1 : fx.size ≤ 1000000 := by rw [sz_list, hfx]; exact hl
  have HPd := Lib.hid (fun W => padded_any m p bl false z z wd pr 102 sg fx W hw hw2 hsg1 hfx1)
  rw [show sg.data.toList = signL p bl (decide (9223372036854775808 ≤ b)) from by rw [hsg], show fx.data.toList = fixedL l0 pr from by rw [hfx]] at HPd
  rw [← hsg] at HSg
  rw [← hfx] at HFx
  generalize padL m z wd (signL p bl (decide (9223372036854775808 ≤ b))) (fixedL l0 pr) = out at *
  have hsh : (((b : Int) / 9223372036854775808) == 1) = decide (9223372036854775808 ≤ b) := by
    by_cases h9 : 9223372036854775808 ≤ b
    · rw [decide_eq_true h9, beq_iff_eq]; omega
    · rw [decide_eq_false h9, beq_eq_false_iff_ne]; omega
  generalize decide (9223372036854775808 ≤ b) = neg at *
  unfold specA at HSg HPd ⊢
  have hpr0 : (0 : Int) ≤ (pr : Int) := by omega
  clear hsg hfx hsg1 hfx1 hc hl
  go_enter Tryz.func63, Tryz.ntmps63
  go_wp2_with fail
  refine (HFx.out _).mono ?_
  rintro e w1 ⟨rfl, hb1⟩
  have HB1 := Lib.hid (((Below.refl w.heap.size w).alloc (Nat.le_refl _) (.cells #[.bool m, .bool p, .bool bl, .bool false, .bool z, .int .i64 wd, .int .i64 pr, .int .u8 102] 30)).trans (hb1.mono (by simp)))
  have k0 : w1.cell? ⟨w.heap.size, 0, none⟩ = some (.bool m) := by rw [hb1.cell (by simp)]; simp [go_sem]
  have k1 : w1.cell? ⟨w.heap.size, 1, none⟩ = some (.bool p) := by rw [hb1.cell (by simp)]; simp [go_sem]
  have k2 : w1.cell? ⟨w.heap.size, 2, none⟩ = some (.bool bl) := by rw [hb1.cell (by simp)]; simp [go_sem]
  have k3 : w1.cell? ⟨w.heap.size, 3, none⟩ = some (.bool false) := by rw [hb1.cell (by simp)]; simp [go_sem]
  have k4 : w1.cell? ⟨w.heap.size, 4, none⟩ = some (.bool z) := by rw [hb1.cell (by simp)]; simp [go_sem]
  have k5 : w1.cell? ⟨w.heap.size, 5, none⟩ = some (.int .i64 wd) := by rw [hb1.cell (by simp)]; simp [go_sem]
  have k6 : w1.cell? ⟨w.heap.size, 6, none⟩ = some (.int .i64 pr) := by rw [hb1.cell (by simp)]; simp [go_sem]
  have k7 : w1.cell? ⟨w.heap.size, 7, none⟩ = some (.int .u8 102) := by rw [hb1.cell (by simp)]; simp [go_sem]
  have hz1 := hb1.size
  rw [World.size_alloc] at hz1
  clear hb1
  go_wp2_with fail
  go_region_held3 (fun w' => w'.cell? ⟨w.heap.size, 0, none⟩ = some (.bool m) ∧ w'.cell? ⟨w.heap.size, 1, none⟩ = some (.bool p) ∧ w'.cell? ⟨w.heap.size, 2, none⟩ = some (.bool bl) ∧ w'.cell? ⟨w.heap.size, 3, none⟩ = some (.bool false) ∧ w'.cell? ⟨w.heap.size, 4, none⟩ = some (.bool z) ∧ w'.cell? ⟨w.heap.size, 5, none⟩ = some (.int .i64 wd) ∧ w'.cell? ⟨w.heap.size, 6, none⟩ = some (.int .i64 pr) ∧ w'.cell? ⟨w.heap.size, 7, none⟩ = some (.int .u8 102)) (first | exact ⟨k0, k1, k2, k3, k4, k5, k6, k7⟩ | exact ⟨j0, j1, j2, j3, j4, j5, j6, j7⟩)
    (first
      | (go_at_call 110; refine (HSg.out _).mono ?_; rintro e w2 ⟨rfl, hb2⟩; have j0 := cell_next hb2 k0; have j1 := cell_next hb2 k1; have j2 := cell_next hb2 k2; have j3 := cell_next hb2 k3; have j4 := cell_next hb2 k4; have j5 := cell_next hb2 k5; have j6 := cell_next hb2 k6; have j7 := cell_next hb2 k7; have HB2 := Lib.hid (below_next (Nat.le_refl _) HB1.out hb2 (by first | exact .inl rfl | exact .inr rfl)))
      | (go_at_call 60; refine (HPd.out _).mono ?_; rintro e w3 ⟨rfl, hb3⟩; have j0 := cell_next hb3 j0; have j1 := cell_next hb3 j1; have j2 := cell_next hb3 j2; have j3 := cell_next hb3 j3; have j4 := cell_next hb3 j4; have j5 := cell_next hb3 j5; have j6 := cell_next hb3 j6; have j7 := cell_next hb3 j7; have HB3 := Lib.hid (below_next (Nat.le_refl _) HB2.out hb3 (by first | exact .inl rfl | exact .inr rfl))))
  all_goals go_wp2_with fail
  all_goals go_ret
  all_goals exact ⟨rfl, HB3.out⟩

theorem Index_nums (w : World) : Calls Tryz.prog 58 #[.string ⟨#[100, 105, 111, 120, 88, 117, 101, 69, 102, 70, 103, 71]⟩, .int .u8 102] w fun e w' => e = .returned (.int .i64 8) ∧ w' = w :=
  Tryz.strings_IndexByte ⟨#[100, 105, 111, 120, 88, 117, 101, 69, 102, 70, 103, 71]⟩ 102 w
theorem Index_whole (w : World) : Calls Tryz.prog 58 #[.string ⟨#[100, 105, 111, 120, 88, 117]⟩, .int .u8 102] w fun e w' => e = .returned (.int .i64 (-1)) ∧ w' = w :=
  Tryz.strings_IndexByte ⟨#[100, 105, 111, 120, 88, 117]⟩ 102 w

set_option maxHeartbeats 4000000 in
set_option maxRecDepth 1000000 in
/-- Number by the verb f, without the flag '#' -/
theorem Number_f (m p bl z : Bool) (wd : Int) (pr b : Nat) (l0 : List UInt8) (w : World) (hb : b < 18446744073709551616) (hf : fin b = true) (hp : pr ≤ 190) (hc : Canon l0 (scaledN b pr)) (hw : 0 ≤ wd) (hw2 : wd ≤ 1024) (hl : (fixedL l0 pr).length ≤ 1000000) :
    Calls Tryz.prog 21 #[.agg (specA m p bl false z wd pr 102), .float .f64 b] w fun e w' => e = .returned (.tuple #[.string ⟨(padL m z wd (signL p bl (decide (9223372036854775808 ≤ b))) (fixedL l0 pr)).toArray⟩, .int .i64 0]) ∧ Below w.heap.size w w' := by
  have HFl := Lib.hid (fun W => float_f m p bl z wd pr b l0 W hb hf hp hc hw hw2 hl)
  have HCk := Lib.hid (fun W => Check_ok m p bl false z wd pr 102 W (by
    unfold okS
    rw [show ixB verbsB 102 = 8 from by decide, decide_eq_true hw, decide_eq_true hw2, decide_eq_true (show (-1 : Int) ≤ (pr : Int) by omega), decide_eq_true (show (pr : Int) ≤ 190 by omega)]
    rfl))
  have HPt := Lib.hid (fun W => Parts_any b W hb)
  rw [hf] at HPt
  generalize padL m z wd (signL p bl (decide (9223372036854775808 ≤ b))) (fixedL l0 pr) = out at *
  unfold specA at HFl HCk ⊢
  clear hc hl
  go_enter Tryz.func21, Tryz.ntmps21
  go_wp2_with fail
  refine (HCk.out _).mono ?_
  rintro e w1 ⟨rfl, hb1⟩
  have HB1 := Lib.hid (((Below.refl w.heap.size w).alloc (Nat.le_refl _) (.cells #[.bool m, .bool p, .bool bl, .bool false, .bool z, .int .i64 wd, .int .i64 pr, .int .u8 102] 30)).trans (hb1.mono (by simp)))
  have k0 : w1.cell? ⟨w.heap.size, 0, none⟩ = some (.bool m) := by rw [hb1.cell (by simp)]; simp [go_sem]
  have k1 : w1.cell? ⟨w.heap.size, 1, none⟩ = some (.bool p) := by rw [hb1.cell (by simp)]; simp [go_sem]
  have k2 : w1.cell? ⟨w.heap.size, 2, none⟩ = some (.bool bl) := by rw [hb1.cell (by simp)]; simp [go_sem]
  have k3 : w1.cell? ⟨w.heap.size, 3, none⟩ = some (.bool false) := by rw [hb1.cell (by simp)]; simp [go_sem]
  have k4 : w1.cell? ⟨w.heap.size, 4, none⟩ = some (.bool z) := by rw [hb1.cell (by simp)]; simp [go_sem]
  have k5 : w1.cell? ⟨w.heap.size, 5, none⟩ = some (.int .i64 wd) := by rw [hb1.cell (by simp)]; simp [go_sem]
  have k6 : w1.cell? ⟨w.heap.size, 6, none⟩ = some (.int .i64 pr) := by rw [hb1.cell (by simp)]; simp [go_sem]
  have k7 : w1.cell? ⟨w.heap.size, 7, none⟩ = some (.int .u8 102) := by rw [hb1.cell (by simp)]; simp [go_sem]
  clear hb1
  go_wp2_with fail
  refine (Index_nums _).mono ?_
  rintro e _ ⟨rfl, rfl⟩
  go_wp2_with fail
  refine (HPt.out _).mono ?_
  rintro e _ ⟨rfl, rfl⟩
  go_wp2_with fail
  refine (Index_whole _).mono ?_
  rintro e _ ⟨rfl, rfl⟩
  go_wp2_with fail
  refine (HFl.out _).mono ?_
  rintro e w2 ⟨rfl, hb2⟩
  have HB2 := Lib.hid (HB1.out.trans (hb2.mono HB1.out.size))
  clear hb2
  go_wp2_with fail
  go_ret2
  exact ⟨rfl, HB2.out⟩
end Go.Proofs.YtcmpdamfeoaapaaGreatDoor
