/- Package format: float and Number by the verb g. -/
import Derived.Test.YtflbhifdololfaaGreatDoorP16
namespace Go.Proofs.YtflbhifdololfaaGreatDoor
open Go.RowKit
set_option linter.unusedVariables false

set_option maxHeartbeats 8000000 in
set_option maxRecDepth 1000000 in
/-- float by the verb g -/
theorem float_g (m p bl al z : Bool) (wd : Int) (pr b : Nat) (w : World) (hb : b < 18446744073709551616) (hf : fin b = true) (hp : pr ≤ 189) (hw : 0 ≤ wd) (hw2 : wd ≤ 1024) (hT : PowOk w) :
    Calls Tryz.prog 50 #[.agg (specA m p bl al z wd ((pr : Int) + 1) 103), .float .f64 b] w fun e w' => e = .returned (.string ⟨(padL m z wd (signL p bl (decide (9223372036854775808 ≤ b))) (genO b pr al).data.toList).toArray⟩) ∧ (genO b pr al).size ≤ 3000 ∧ Below w.heap.size w w' := by
  have HT := Lib.hid hT
  have HFx := Lib.hid (fun W h => general_any b pr al W hb hf (by omega) h)
  have HSg := Lib.hid (fun W => sign_any m p bl al z (decide (9223372036854775808 ≤ b)) wd ((pr : Int) + 1) 103 W)
  obtain ⟨sg, hsg⟩ : ∃ sg : ByteArray, sg = ⟨(signL p bl (decide (9223372036854775808 ≤ b))).toArray⟩ := ⟨_, rfl⟩
  obtain ⟨fx, hfx⟩ : ∃ fx : ByteArray, fx = genO b pr al := ⟨_, rfl⟩
  have hsg1 : sg.size ≤ 1000000 := by
    rw [sz_list, hsg]
    show (signL _ _ _).length ≤ _
    unfold signL
    split
    · decide
    · split
      · decide
      · split <;> decide
  have HSgl : Hid (sg.data.toList = signL p bl (decide (9223372036854775808 ≤ b))) := by show _ = _; rw [hsg]
  rw [← hsg] at HSg
  rw [← hfx] at HFx ⊢
  rw [← HSgl.out]
  obtain ⟨out, hout⟩ : ∃ out, padL m z wd sg.data.toList fx.data.toList = out := ⟨_, rfl⟩
  rw [hout]
  have HOut := Lib.hid hout
  clear hout HSgl
  have hsh : (((b : Int) / 9223372036854775808) == 1) = decide (9223372036854775808 ≤ b) := by
    by_cases h9 : 9223372036854775808 ≤ b
    · rw [decide_eq_true h9, beq_iff_eq]; omega
    · rw [decide_eq_false h9, beq_eq_false_iff_ne]; omega
  generalize decide (9223372036854775808 ≤ b) = neg at *
  unfold specA at HSg ⊢
  have hpr0 : (0 : Int) ≤ (pr : Int) := by omega
  clear hsg hT
  go_enter Tryz.func50, Tryz.ntmps50
  go_wp2_with fail
  refine (HFx.out _ (HT.out.below ((Below.refl w.heap.size w).alloc (Nat.le_refl _) _))).mono ?_
  rintro e w1 ⟨rfl, hfs, hb1⟩
  have HPd := Lib.hid (fun W => padded_any m p bl al z z wd ((pr : Int) + 1) 103 sg fx W hw hw2 hsg1 (by omega))
  rw [HOut.out] at HPd
  unfold specA at HPd
  have HFS := Lib.hid hfs
  clear hfs hfx hsg1
  have HB1 := Lib.hid (((Below.refl w.heap.size w).alloc (Nat.le_refl _) (.cells #[.bool m, .bool p, .bool bl, .bool al, .bool z, .int .i64 wd, .int .i64 ((pr : Int) + 1), .int .u8 103] 23)).trans (hb1.mono (by simp)))
  have k0 : w1.cell? ⟨w.heap.size, 0, none⟩ = some (.bool m) := by rw [hb1.cell (by simp)]; simp [go_sem]
  have k1 : w1.cell? ⟨w.heap.size, 1, none⟩ = some (.bool p) := by rw [hb1.cell (by simp)]; simp [go_sem]
  have k2 : w1.cell? ⟨w.heap.size, 2, none⟩ = some (.bool bl) := by rw [hb1.cell (by simp)]; simp [go_sem]
  have k3 : w1.cell? ⟨w.heap.size, 3, none⟩ = some (.bool al) := by rw [hb1.cell (by simp)]; simp [go_sem]
  have k4 : w1.cell? ⟨w.heap.size, 4, none⟩ = some (.bool z) := by rw [hb1.cell (by simp)]; simp [go_sem]
  have k5 : w1.cell? ⟨w.heap.size, 5, none⟩ = some (.int .i64 wd) := by rw [hb1.cell (by simp)]; simp [go_sem]
  have k6 : w1.cell? ⟨w.heap.size, 6, none⟩ = some (.int .i64 ((pr : Int) + 1)) := by rw [hb1.cell (by simp)]; simp [go_sem]
  have k7 : w1.cell? ⟨w.heap.size, 7, none⟩ = some (.int .u8 103) := by rw [hb1.cell (by simp)]; simp [go_sem]
  have hz1 := hb1.size
  rw [World.size_alloc] at hz1
  clear hb1
  go_wp2_with fail
  go_region_held3 (fun w' => w'.cell? ⟨w.heap.size, 0, none⟩ = some (.bool m) ∧ w'.cell? ⟨w.heap.size, 1, none⟩ = some (.bool p) ∧ w'.cell? ⟨w.heap.size, 2, none⟩ = some (.bool bl) ∧ w'.cell? ⟨w.heap.size, 3, none⟩ = some (.bool al) ∧ w'.cell? ⟨w.heap.size, 4, none⟩ = some (.bool z) ∧ w'.cell? ⟨w.heap.size, 5, none⟩ = some (.int .i64 wd) ∧ w'.cell? ⟨w.heap.size, 6, none⟩ = some (.int .i64 ((pr : Int) + 1)) ∧ w'.cell? ⟨w.heap.size, 7, none⟩ = some (.int .u8 103)) (first | exact ⟨k0, k1, k2, k3, k4, k5, k6, k7⟩ | exact ⟨j0, j1, j2, j3, j4, j5, j6, j7⟩)
    (first
      | (go_at_call 80; refine (HSg.out _).mono ?_; rintro e w2 ⟨rfl, hb2⟩; have j0 := cell_next hb2 k0; have j1 := cell_next hb2 k1; have j2 := cell_next hb2 k2; have j3 := cell_next hb2 k3; have j4 := cell_next hb2 k4; have j5 := cell_next hb2 k5; have j6 := cell_next hb2 k6; have j7 := cell_next hb2 k7; have HB2 := Lib.hid (below_next (Nat.le_refl _) HB1.out hb2 (by first | exact .inl rfl | exact .inr rfl)))
      | (go_at_call 47; refine (HPd.out _).mono ?_; rintro e w3 ⟨rfl, hb3⟩; have j0 := cell_next hb3 j0; have j1 := cell_next hb3 j1; have j2 := cell_next hb3 j2; have j3 := cell_next hb3 j3; have j4 := cell_next hb3 j4; have j5 := cell_next hb3 j5; have j6 := cell_next hb3 j6; have j7 := cell_next hb3 j7; have HB3 := Lib.hid (below_next (Nat.le_refl _) HB2.out hb3 (by first | exact .inl rfl | exact .inr rfl))))
  all_goals go_wp2_with fail
  all_goals go_ret
  all_goals exact ⟨rfl, HFS.out, HB3.out⟩

theorem Index_numsG (w : World) : Calls Tryz.prog 45 #[.string ⟨#[100, 105, 111, 120, 88, 117, 101, 69, 102, 70, 103, 71]⟩, .int .u8 103] w fun e w' => e = .returned (.int .i64 10) ∧ w' = w :=
  Tryz.strings_IndexByte ⟨#[100, 105, 111, 120, 88, 117, 101, 69, 102, 70, 103, 71]⟩ 103 w
theorem Index_wholeG (w : World) : Calls Tryz.prog 45 #[.string ⟨#[100, 105, 111, 120, 88, 117]⟩, .int .u8 103] w fun e w' => e = .returned (.int .i64 (-1)) ∧ w' = w :=
  Tryz.strings_IndexByte ⟨#[100, 105, 111, 120, 88, 117]⟩ 103 w

set_option maxHeartbeats 4000000 in
set_option maxRecDepth 1000000 in
/-- Number by the verb g -/
theorem Number_g (m p bl al z : Bool) (wd : Int) (pr b : Nat) (w : World) (hb : b < 18446744073709551616) (hf : fin b = true) (hp : pr ≤ 189) (hw : 0 ≤ wd) (hw2 : wd ≤ 1024) (hT : PowOk w) :
    Calls Tryz.prog 15 #[.agg (specA m p bl al z wd ((pr : Int) + 1) 103), .float .f64 b] w fun e w' => e = .returned (.tuple #[.string ⟨(padL m z wd (signL p bl (decide (9223372036854775808 ≤ b))) (genO b pr al).data.toList).toArray⟩, .int .i64 0]) ∧ (genO b pr al).size ≤ 3000 ∧ Below w.heap.size w w' := by
  have HT := Lib.hid hT
  have HFl := Lib.hid (fun W h => float_g m p bl al z wd pr b W hb hf hp hw hw2 h)
  have HCk := Lib.hid (fun W => Check_ok m p bl al z wd ((pr : Int) + 1) 103 W (by
    unfold okS
    rw [show ixB verbsB 103 = 10 from by decide, decide_eq_true hw, decide_eq_true hw2, decide_eq_true (show (-1 : Int) ≤ (pr : Int) + 1 by omega), decide_eq_true (show (pr : Int) + 1 ≤ 190 by omega)]
    rfl))
  have HPt := Lib.hid (fun W => Parts_any b W hb)
  rw [hf] at HPt
  generalize padL m z wd (signL p bl (decide (9223372036854775808 ≤ b))) (genO b pr al).data.toList = out at *
  unfold specA at HFl HCk ⊢
  clear hT
  go_enter Tryz.func15, Tryz.ntmps15
  go_wp2_with fail
  refine (HCk.out _).mono ?_
  rintro e w1 ⟨rfl, hb1⟩
  have HB1 := Lib.hid (((Below.refl w.heap.size w).alloc (Nat.le_refl _) (.cells #[.bool m, .bool p, .bool bl, .bool al, .bool z, .int .i64 wd, .int .i64 ((pr : Int) + 1), .int .u8 103] 23)).trans (hb1.mono (by simp)))
  have k0 : w1.cell? ⟨w.heap.size, 0, none⟩ = some (.bool m) := by rw [hb1.cell (by simp)]; simp [go_sem]
  have k1 : w1.cell? ⟨w.heap.size, 1, none⟩ = some (.bool p) := by rw [hb1.cell (by simp)]; simp [go_sem]
  have k2 : w1.cell? ⟨w.heap.size, 2, none⟩ = some (.bool bl) := by rw [hb1.cell (by simp)]; simp [go_sem]
  have k3 : w1.cell? ⟨w.heap.size, 3, none⟩ = some (.bool al) := by rw [hb1.cell (by simp)]; simp [go_sem]
  have k4 : w1.cell? ⟨w.heap.size, 4, none⟩ = some (.bool z) := by rw [hb1.cell (by simp)]; simp [go_sem]
  have k5 : w1.cell? ⟨w.heap.size, 5, none⟩ = some (.int .i64 wd) := by rw [hb1.cell (by simp)]; simp [go_sem]
  have k6 : w1.cell? ⟨w.heap.size, 6, none⟩ = some (.int .i64 ((pr : Int) + 1)) := by rw [hb1.cell (by simp)]; simp [go_sem]
  have k7 : w1.cell? ⟨w.heap.size, 7, none⟩ = some (.int .u8 103) := by rw [hb1.cell (by simp)]; simp [go_sem]
  clear hb1
  go_wp2_with fail
  refine (Index_numsG _).mono ?_
  rintro e _ ⟨rfl, rfl⟩
  go_wp2_with fail
  refine (HPt.out _).mono ?_
  rintro e _ ⟨rfl, rfl⟩
  go_wp2_with fail
  refine (Index_wholeG _).mono ?_
  rintro e _ ⟨rfl, rfl⟩
  go_wp2_with fail
  refine (HFl.out _ (HT.out.below HB1.out)).mono ?_
  rintro e w2 ⟨rfl, hgs, hb2⟩
  have HB2 := Lib.hid (HB1.out.trans (hb2.mono HB1.out.size))
  have HGs := Lib.hid hgs
  clear hb2 hgs
  go_wp2_with fail
  go_ret2
  exact ⟨rfl, HGs.out, HB2.out⟩
end Go.Proofs.YtflbhifdololfaaGreatDoor
