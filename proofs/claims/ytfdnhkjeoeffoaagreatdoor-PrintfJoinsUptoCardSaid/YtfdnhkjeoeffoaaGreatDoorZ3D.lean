/- What a law wants besides of the texts that are merged (D). -/
import Derived.Test.YtfdnhkjeoeffoaaGreatDoorZ3A
import Derived.Test.YtfdnhkjeoeffoaaGreatDoorZ3B
import Derived.Test.YtfdnhkjeoeffoaaGreatDoorZ3C
set_option linter.unusedVariables false
set_option linter.unusedSimpArgs false
section
namespace Go.Proofs.YtfdnhkjeoeffoaaGreatDoor
open Go.RowKit
set_option linter.unusedVariables false
set_option maxHeartbeats 4000000 in
set_option maxRecDepth 1000000 in
theorem Number_100 (m p bl al z : Bool) (wd pr : Int) (b : Nat) (w : World) (hb : b < 18446744073709551616) (hf : fin b = true) (hp1 : -1 ≤ pr) (hp2 : pr ≤ 190) (hw : 0 ≤ wd) (hw2 : wd ≤ 1024) :
 Calls Tryz.prog 24 #[.agg (specA m p bl al z wd pr 100), .float .f64 b] w fun e w' => e = .returned (.tuple #[.string (wholeO m p bl al z wd pr 100 b), .int .i64 0]) ∧ Below w.heap.size w w' := by
 have HFl := Lib.hid (fun W => whole_100 m p bl al z wd pr b W hb hf hp1 hp2 hw hw2)
 have HCk := Lib.hid (fun W => Check_ok m p bl al z wd pr 100 W (by
  unfold okS
  rw [show ixB verbsB 100 = 0 from by decide, decide_eq_true hw, decide_eq_true hw2, decide_eq_true hp1, decide_eq_true hp2]
  rfl))
 have HPt := Lib.hid (fun W => Parts_any b W hb)
 rw [hf] at HPt
 have HI1 : Hid (∀ W, Calls Tryz.prog 69 #[.string ⟨#[100, 105, 111, 120, 88, 117, 101, 69, 102, 70, 103, 71]⟩, .int .u8 100] W fun e w' => e = .returned (.int .i64 0) ∧ w' = W) := fun W => Tryz.strings_IndexByte ⟨#[100, 105, 111, 120, 88, 117, 101, 69, 102, 70, 103, 71]⟩ 100 W
 have HI2 : Hid (∀ W, Calls Tryz.prog 69 #[.string ⟨#[100, 105, 111, 120, 88, 117]⟩, .int .u8 100] W fun e w' => e = .returned (.int .i64 0) ∧ w' = W) := fun W => Tryz.strings_IndexByte ⟨#[100, 105, 111, 120, 88, 117]⟩ 100 W
 generalize wholeO m p bl al z wd pr 100 b = out at *
 unfold specA at HFl HCk ⊢
 clear hp1 hp2 hw hw2
 go_enter Tryz.func24, Tryz.ntmps24
 go_wp2_with fail
 refine (HCk.out _).mono ?_
 rintro e w1 ⟨rfl, hb1⟩
 have HB1 := Lib.hid (((Below.refl w.heap.size w).alloc (Nat.le_refl _) (.cells #[.bool m, .bool p, .bool bl, .bool al, .bool z, .int .i64 wd, .int .i64 pr, .int .u8 100] 35)).trans (hb1.mono (by simp)))
 have hsp : SpAt w1 w.heap.size #[.bool m, .bool p, .bool bl, .bool al, .bool z, .int .i64 wd, .int .i64 pr, .int .u8 100] := SpAt.next (heap_alloc_at w _) hb1
 have k0 : w1.cell? ⟨w.heap.size, 0, none⟩ = some (.bool m) := hsp.cell 0
 have k1 : w1.cell? ⟨w.heap.size, 1, none⟩ = some (.bool p) := hsp.cell 1
 have k2 : w1.cell? ⟨w.heap.size, 2, none⟩ = some (.bool bl) := hsp.cell 2
 have k3 : w1.cell? ⟨w.heap.size, 3, none⟩ = some (.bool al) := hsp.cell 3
 have k4 : w1.cell? ⟨w.heap.size, 4, none⟩ = some (.bool z) := hsp.cell 4
 have k5 : w1.cell? ⟨w.heap.size, 5, none⟩ = some (.int .i64 wd) := hsp.cell 5
 have k6 : w1.cell? ⟨w.heap.size, 6, none⟩ = some (.int .i64 pr) := hsp.cell 6
 have k7 : w1.cell? ⟨w.heap.size, 7, none⟩ = some (.int .u8 100) := hsp.cell 7
 clear hb1 hsp
 go_wp2_with fail
 refine (HI1.out _).mono ?_
 rintro e _ ⟨rfl, rfl⟩
 go_wp2_with fail
 refine (HPt.out _).mono ?_
 rintro e _ ⟨rfl, rfl⟩
 go_wp2_with fail
 refine (HI2.out _).mono ?_
 rintro e _ ⟨rfl, rfl⟩
 go_wp2_with fail
 refine (HFl.out _).mono ?_
 rintro e w2 ⟨rfl, hb2⟩
 have HB2 := Lib.hid (HB1.out.trans (hb2.mono HB1.out.size))
 clear hb2
 go_wp2_with fail
 go_ret2
 exact ⟨rfl, HB2.out⟩
set_option maxHeartbeats 4000000 in
set_option maxRecDepth 1000000 in
theorem Number_105 (m p bl al z : Bool) (wd pr : Int) (b : Nat) (w : World) (hb : b < 18446744073709551616) (hf : fin b = true) (hp1 : -1 ≤ pr) (hp2 : pr ≤ 190) (hw : 0 ≤ wd) (hw2 : wd ≤ 1024) :
 Calls Tryz.prog 24 #[.agg (specA m p bl al z wd pr 105), .float .f64 b] w fun e w' => e = .returned (.tuple #[.string (wholeO m p bl al z wd pr 105 b), .int .i64 0]) ∧ Below w.heap.size w w' := by
 have HFl := Lib.hid (fun W => whole_105 m p bl al z wd pr b W hb hf hp1 hp2 hw hw2)
 have HCk := Lib.hid (fun W => Check_ok m p bl al z wd pr 105 W (by
  unfold okS
  rw [show ixB verbsB 105 = 1 from by decide, decide_eq_true hw, decide_eq_true hw2, decide_eq_true hp1, decide_eq_true hp2]
  rfl))
 have HPt := Lib.hid (fun W => Parts_any b W hb)
 rw [hf] at HPt
 have HI1 : Hid (∀ W, Calls Tryz.prog 69 #[.string ⟨#[100, 105, 111, 120, 88, 117, 101, 69, 102, 70, 103, 71]⟩, .int .u8 105] W fun e w' => e = .returned (.int .i64 1) ∧ w' = W) := fun W => Tryz.strings_IndexByte ⟨#[100, 105, 111, 120, 88, 117, 101, 69, 102, 70, 103, 71]⟩ 105 W
 have HI2 : Hid (∀ W, Calls Tryz.prog 69 #[.string ⟨#[100, 105, 111, 120, 88, 117]⟩, .int .u8 105] W fun e w' => e = .returned (.int .i64 1) ∧ w' = W) := fun W => Tryz.strings_IndexByte ⟨#[100, 105, 111, 120, 88, 117]⟩ 105 W
 generalize wholeO m p bl al z wd pr 105 b = out at *
 unfold specA at HFl HCk ⊢
 clear hp1 hp2 hw hw2
 go_enter Tryz.func24, Tryz.ntmps24
 go_wp2_with fail
 refine (HCk.out _).mono ?_
 rintro e w1 ⟨rfl, hb1⟩
 have HB1 := Lib.hid (((Below.refl w.heap.size w).alloc (Nat.le_refl _) (.cells #[.bool m, .bool p, .bool bl, .bool al, .bool z, .int .i64 wd, .int .i64 pr, .int .u8 105] 35)).trans (hb1.mono (by simp)))
 have hsp : SpAt w1 w.heap.size #[.bool m, .bool p, .bool bl, .bool al, .bool z, .int .i64 wd, .int .i64 pr, .int .u8 105] := SpAt.next (heap_alloc_at w _) hb1
 have k0 : w1.cell? ⟨w.heap.size, 0, none⟩ = some (.bool m) := hsp.cell 0
 have k1 : w1.cell? ⟨w.heap.size, 1, none⟩ = some (.bool p) := hsp.cell 1
 have k2 : w1.cell? ⟨w.heap.size, 2, none⟩ = some (.bool bl) := hsp.cell 2
 have k3 : w1.cell? ⟨w.heap.size, 3, none⟩ = some (.bool al) := hsp.cell 3
 have k4 : w1.cell? ⟨w.heap.size, 4, none⟩ = some (.bool z) := hsp.cell 4
 have k5 : w1.cell? ⟨w.heap.size, 5, none⟩ = some (.int .i64 wd) := hsp.cell 5
 have k6 : w1.cell? ⟨w.heap.size, 6, none⟩ = some (.int .i64 pr) := hsp.cell 6
 have k7 : w1.cell? ⟨w.heap.size, 7, none⟩ = some (.int .u8 105) := hsp.cell 7
 clear hb1 hsp
 go_wp2_with fail
 refine (HI1.out _).mono ?_
 rintro e _ ⟨rfl, rfl⟩
 go_wp2_with fail
 refine (HPt.out _).mono ?_
 rintro e _ ⟨rfl, rfl⟩
 go_wp2_with fail
 refine (HI2.out _).mono ?_
 rintro e _ ⟨rfl, rfl⟩
 go_wp2_with fail
 refine (HFl.out _).mono ?_
 rintro e w2 ⟨rfl, hb2⟩
 have HB2 := Lib.hid (HB1.out.trans (hb2.mono HB1.out.size))
 clear hb2
 go_wp2_with fail
 go_ret2
 exact ⟨rfl, HB2.out⟩
set_option maxHeartbeats 4000000 in
set_option maxRecDepth 1000000 in
theorem Number_111 (m p bl al z : Bool) (wd pr : Int) (b : Nat) (w : World) (hb : b < 18446744073709551616) (hf : fin b = true) (hp1 : -1 ≤ pr) (hp2 : pr ≤ 190) (hw : 0 ≤ wd) (hw2 : wd ≤ 1024) :
 Calls Tryz.prog 24 #[.agg (specA m p bl al z wd pr 111), .float .f64 b] w fun e w' => e = .returned (.tuple #[.string (wholeO m p bl al z wd pr 111 b), .int .i64 0]) ∧ Below w.heap.size w w' := by
 have HFl := Lib.hid (fun W => whole_111 m p bl al z wd pr b W hb hf hp1 hp2 hw hw2)
 have HCk := Lib.hid (fun W => Check_ok m p bl al z wd pr 111 W (by
  unfold okS
  rw [show ixB verbsB 111 = 2 from by decide, decide_eq_true hw, decide_eq_true hw2, decide_eq_true hp1, decide_eq_true hp2]
  rfl))
 have HPt := Lib.hid (fun W => Parts_any b W hb)
 rw [hf] at HPt
 have HI1 : Hid (∀ W, Calls Tryz.prog 69 #[.string ⟨#[100, 105, 111, 120, 88, 117, 101, 69, 102, 70, 103, 71]⟩, .int .u8 111] W fun e w' => e = .returned (.int .i64 2) ∧ w' = W) := fun W => Tryz.strings_IndexByte ⟨#[100, 105, 111, 120, 88, 117, 101, 69, 102, 70, 103, 71]⟩ 111 W
 have HI2 : Hid (∀ W, Calls Tryz.prog 69 #[.string ⟨#[100, 105, 111, 120, 88, 117]⟩, .int .u8 111] W fun e w' => e = .returned (.int .i64 2) ∧ w' = W) := fun W => Tryz.strings_IndexByte ⟨#[100, 105, 111, 120, 88, 117]⟩ 111 W
 generalize wholeO m p bl al z wd pr 111 b = out at *
 unfold specA at HFl HCk ⊢
 clear hp1 hp2 hw hw2
 go_enter Tryz.func24, Tryz.ntmps24
 go_wp2_with fail
 refine (HCk.out _).mono ?_
 rintro e w1 ⟨rfl, hb1⟩
 have HB1 := Lib.hid (((Below.refl w.heap.size w).alloc (Nat.le_refl _) (.cells #[.bool m, .bool p, .bool bl, .bool al, .bool z, .int .i64 wd, .int .i64 pr, .int .u8 111] 35)).trans (hb1.mono (by simp)))
 have hsp : SpAt w1 w.heap.size #[.bool m, .bool p, .bool bl, .bool al, .bool z, .int .i64 wd, .int .i64 pr, .int .u8 111] := SpAt.next (heap_alloc_at w _) hb1
 have k0 : w1.cell? ⟨w.heap.size, 0, none⟩ = some (.bool m) := hsp.cell 0
 have k1 : w1.cell? ⟨w.heap.size, 1, none⟩ = some (.bool p) := hsp.cell 1
 have k2 : w1.cell? ⟨w.heap.size, 2, none⟩ = some (.bool bl) := hsp.cell 2
 have k3 : w1.cell? ⟨w.heap.size, 3, none⟩ = some (.bool al) := hsp.cell 3
 have k4 : w1.cell? ⟨w.heap.size, 4, none⟩ = some (.bool z) := hsp.cell 4
 have k5 : w1.cell? ⟨w.heap.size, 5, none⟩ = some (.int .i64 wd) := hsp.cell 5
 have k6 : w1.cell? ⟨w.heap.size, 6, none⟩ = some (.int .i64 pr) := hsp.cell 6
 have k7 : w1.cell? ⟨w.heap.size, 7, none⟩ = some (.int .u8 111) := hsp.cell 7
 clear hb1 hsp
 go_wp2_with fail
 refine (HI1.out _).mono ?_
 rintro e _ ⟨rfl, rfl⟩
 go_wp2_with fail
 refine (HPt.out _).mono ?_
 rintro e _ ⟨rfl, rfl⟩
 go_wp2_with fail
 refine (HI2.out _).mono ?_
 rintro e _ ⟨rfl, rfl⟩
 go_wp2_with fail
 refine (HFl.out _).mono ?_
 rintro e w2 ⟨rfl, hb2⟩
 have HB2 := Lib.hid (HB1.out.trans (hb2.mono HB1.out.size))
 clear hb2
 go_wp2_with fail
 go_ret2
 exact ⟨rfl, HB2.out⟩
set_option maxHeartbeats 4000000 in
set_option maxRecDepth 1000000 in
theorem Number_120 (m p bl al z : Bool) (wd pr : Int) (b : Nat) (w : World) (hb : b < 18446744073709551616) (hf : fin b = true) (hp1 : -1 ≤ pr) (hp2 : pr ≤ 190) (hw : 0 ≤ wd) (hw2 : wd ≤ 1024) :
 Calls Tryz.prog 24 #[.agg (specA m p bl al z wd pr 120), .float .f64 b] w fun e w' => e = .returned (.tuple #[.string (wholeO m p bl al z wd pr 120 b), .int .i64 0]) ∧ Below w.heap.size w w' := by
 have HFl := Lib.hid (fun W => whole_120 m p bl al z wd pr b W hb hf hp1 hp2 hw hw2)
 have HCk := Lib.hid (fun W => Check_ok m p bl al z wd pr 120 W (by
  unfold okS
  rw [show ixB verbsB 120 = 3 from by decide, decide_eq_true hw, decide_eq_true hw2, decide_eq_true hp1, decide_eq_true hp2]
  rfl))
 have HPt := Lib.hid (fun W => Parts_any b W hb)
 rw [hf] at HPt
 have HI1 : Hid (∀ W, Calls Tryz.prog 69 #[.string ⟨#[100, 105, 111, 120, 88, 117, 101, 69, 102, 70, 103, 71]⟩, .int .u8 120] W fun e w' => e = .returned (.int .i64 3) ∧ w' = W) := fun W => Tryz.strings_IndexByte ⟨#[100, 105, 111, 120, 88, 117, 101, 69, 102, 70, 103, 71]⟩ 120 W
 have HI2 : Hid (∀ W, Calls Tryz.prog 69 #[.string ⟨#[100, 105, 111, 120, 88, 117]⟩, .int .u8 120] W fun e w' => e = .returned (.int .i64 3) ∧ w' = W) := fun W => Tryz.strings_IndexByte ⟨#[100, 105, 111, 120, 88, 117]⟩ 120 W
 generalize wholeO m p bl al z wd pr 120 b = out at *
 unfold specA at HFl HCk ⊢
 clear hp1 hp2 hw hw2
 go_enter Tryz.func24, Tryz.ntmps24
 go_wp2_with fail
 refine (HCk.out _).mono ?_
 rintro e w1 ⟨rfl, hb1⟩
 have HB1 := Lib.hid (((Below.refl w.heap.size w).alloc (Nat.le_refl _) (.cells #[.bool m, .bool p, .bool bl, .bool al, .bool z, .int .i64 wd, .int .i64 pr, .int .u8 120] 35)).trans (hb1.mono (by simp)))
 have hsp : SpAt w1 w.heap.size #[.bool m, .bool p, .bool bl, .bool al, .bool z, .int .i64 wd, .int .i64 pr, .int .u8 120] := SpAt.next (heap_alloc_at w _) hb1
 have k0 : w1.cell? ⟨w.heap.size, 0, none⟩ = some (.bool m) := hsp.cell 0
 have k1 : w1.cell? ⟨w.heap.size, 1, none⟩ = some (.bool p) := hsp.cell 1
 have k2 : w1.cell? ⟨w.heap.size, 2, none⟩ = some (.bool bl) := hsp.cell 2
 have k3 : w1.cell? ⟨w.heap.size, 3, none⟩ = some (.bool al) := hsp.cell 3
 have k4 : w1.cell? ⟨w.heap.size, 4, none⟩ = some (.bool z) := hsp.cell 4
 have k5 : w1.cell? ⟨w.heap.size, 5, none⟩ = some (.int .i64 wd) := hsp.cell 5
 have k6 : w1.cell? ⟨w.heap.size, 6, none⟩ = some (.int .i64 pr) := hsp.cell 6
 have k7 : w1.cell? ⟨w.heap.size, 7, none⟩ = some (.int .u8 120) := hsp.cell 7
 clear hb1 hsp
 go_wp2_with fail
 refine (HI1.out _).mono ?_
 rintro e _ ⟨rfl, rfl⟩
 go_wp2_with fail
 refine (HPt.out _).mono ?_
 rintro e _ ⟨rfl, rfl⟩
 go_wp2_with fail
 refine (HI2.out _).mono ?_
 rintro e _ ⟨rfl, rfl⟩
 go_wp2_with fail
 refine (HFl.out _).mono ?_
 rintro e w2 ⟨rfl, hb2⟩
 have HB2 := Lib.hid (HB1.out.trans (hb2.mono HB1.out.size))
 clear hb2
 go_wp2_with fail
 go_ret2
 exact ⟨rfl, HB2.out⟩
set_option maxHeartbeats 4000000 in
set_option maxRecDepth 1000000 in
theorem Number_88 (m p bl al z : Bool) (wd pr : Int) (b : Nat) (w : World) (hb : b < 18446744073709551616) (hf : fin b = true) (hp1 : -1 ≤ pr) (hp2 : pr ≤ 190) (hw : 0 ≤ wd) (hw2 : wd ≤ 1024) :
 Calls Tryz.prog 24 #[.agg (specA m p bl al z wd pr 88), .float .f64 b] w fun e w' => e = .returned (.tuple #[.string (wholeO m p bl al z wd pr 88 b), .int .i64 0]) ∧ Below w.heap.size w w' := by
 have HFl := Lib.hid (fun W => whole_88 m p bl al z wd pr b W hb hf hp1 hp2 hw hw2)
 have HCk := Lib.hid (fun W => Check_ok m p bl al z wd pr 88 W (by
  unfold okS
  rw [show ixB verbsB 88 = 4 from by decide, decide_eq_true hw, decide_eq_true hw2, decide_eq_true hp1, decide_eq_true hp2]
  rfl))
 have HPt := Lib.hid (fun W => Parts_any b W hb)
 rw [hf] at HPt
 have HI1 : Hid (∀ W, Calls Tryz.prog 69 #[.string ⟨#[100, 105, 111, 120, 88, 117, 101, 69, 102, 70, 103, 71]⟩, .int .u8 88] W fun e w' => e = .returned (.int .i64 4) ∧ w' = W) := fun W => Tryz.strings_IndexByte ⟨#[100, 105, 111, 120, 88, 117, 101, 69, 102, 70, 103, 71]⟩ 88 W
 have HI2 : Hid (∀ W, Calls Tryz.prog 69 #[.string ⟨#[100, 105, 111, 120, 88, 117]⟩, .int .u8 88] W fun e w' => e = .returned (.int .i64 4) ∧ w' = W) := fun W => Tryz.strings_IndexByte ⟨#[100, 105, 111, 120, 88, 117]⟩ 88 W
 generalize wholeO m p bl al z wd pr 88 b = out at *
 unfold specA at HFl HCk ⊢
 clear hp1 hp2 hw hw2
 go_enter Tryz.func24, Tryz.ntmps24
 go_wp2_with fail
 refine (HCk.out _).mono ?_
 rintro e w1 ⟨rfl, hb1⟩
 have HB1 := Lib.hid (((Below.refl w.heap.size w).alloc (Nat.le_refl _) (.cells #[.bool m, .bool p, .bool bl, .bool al, .bool z, .int .i64 wd, .int .i64 pr, .int .u8 88] 35)).trans (hb1.mono (by simp)))
 have hsp : SpAt w1 w.heap.size #[.bool m, .bool p, .bool bl, .bool al, .bool z, .int .i64 wd, .int .i64 pr, .int .u8 88] := SpAt.next (heap_alloc_at w _) hb1
 have k0 : w1.cell? ⟨w.heap.size, 0, none⟩ = some (.bool m) := hsp.cell 0
 have k1 : w1.cell? ⟨w.heap.size, 1, none⟩ = some (.bool p) := hsp.cell 1
 have k2 : w1.cell? ⟨w.heap.size, 2, none⟩ = some (.bool bl) := hsp.cell 2
 have k3 : w1.cell? ⟨w.heap.size, 3, none⟩ = some (.bool al) := hsp.cell 3
 have k4 : w1.cell? ⟨w.heap.size, 4, none⟩ = some (.bool z) := hsp.cell 4
 have k5 : w1.cell? ⟨w.heap.size, 5, none⟩ = some (.int .i64 wd) := hsp.cell 5
 have k6 : w1.cell? ⟨w.heap.size, 6, none⟩ = some (.int .i64 pr) := hsp.cell 6
 have k7 : w1.cell? ⟨w.heap.size, 7, none⟩ = some (.int .u8 88) := hsp.cell 7
 clear hb1 hsp
 go_wp2_with fail
 refine (HI1.out _).mono ?_
 rintro e _ ⟨rfl, rfl⟩
 go_wp2_with fail
 refine (HPt.out _).mono ?_
 rintro e _ ⟨rfl, rfl⟩
 go_wp2_with fail
 refine (HI2.out _).mono ?_
 rintro e _ ⟨rfl, rfl⟩
 go_wp2_with fail
 refine (HFl.out _).mono ?_
 rintro e w2 ⟨rfl, hb2⟩
 have HB2 := Lib.hid (HB1.out.trans (hb2.mono HB1.out.size))
 clear hb2
 go_wp2_with fail
 go_ret2
 exact ⟨rfl, HB2.out⟩
set_option maxHeartbeats 4000000 in
set_option maxRecDepth 1000000 in
theorem Number_117 (m p bl al z : Bool) (wd pr : Int) (b : Nat) (w : World) (hb : b < 18446744073709551616) (hf : fin b = true) (hp1 : -1 ≤ pr) (hp2 : pr ≤ 190) (hw : 0 ≤ wd) (hw2 : wd ≤ 1024) :
 Calls Tryz.prog 24 #[.agg (specA m p bl al z wd pr 117), .float .f64 b] w fun e w' => e = .returned (.tuple #[.string (wholeO m p bl al z wd pr 117 b), .int .i64 0]) ∧ Below w.heap.size w w' := by
 have HFl := Lib.hid (fun W => whole_117 m p bl al z wd pr b W hb hf hp1 hp2 hw hw2)
 have HCk := Lib.hid (fun W => Check_ok m p bl al z wd pr 117 W (by
  unfold okS
  rw [show ixB verbsB 117 = 5 from by decide, decide_eq_true hw, decide_eq_true hw2, decide_eq_true hp1, decide_eq_true hp2]
  rfl))
 have HPt := Lib.hid (fun W => Parts_any b W hb)
 rw [hf] at HPt
 have HI1 : Hid (∀ W, Calls Tryz.prog 69 #[.string ⟨#[100, 105, 111, 120, 88, 117, 101, 69, 102, 70, 103, 71]⟩, .int .u8 117] W fun e w' => e = .returned (.int .i64 5) ∧ w' = W) := fun W => Tryz.strings_IndexByte ⟨#[100, 105, 111, 120, 88, 117, 101, 69, 102, 70, 103, 71]⟩ 117 W
 have HI2 : Hid (∀ W, Calls Tryz.prog 69 #[.string ⟨#[100, 105, 111, 120, 88, 117]⟩, .int .u8 117] W fun e w' => e = .returned (.int .i64 5) ∧ w' = W) := fun W => Tryz.strings_IndexByte ⟨#[100, 105, 111, 120, 88, 117]⟩ 117 W
 generalize wholeO m p bl al z wd pr 117 b = out at *
 unfold specA at HFl HCk ⊢
 clear hp1 hp2 hw hw2
 go_enter Tryz.func24, Tryz.ntmps24
 go_wp2_with fail
 refine (HCk.out _).mono ?_
 rintro e w1 ⟨rfl, hb1⟩
 have HB1 := Lib.hid (((Below.refl w.heap.size w).alloc (Nat.le_refl _) (.cells #[.bool m, .bool p, .bool bl, .bool al, .bool z, .int .i64 wd, .int .i64 pr, .int .u8 117] 35)).trans (hb1.mono (by simp)))
 have hsp : SpAt w1 w.heap.size #[.bool m, .bool p, .bool bl, .bool al, .bool z, .int .i64 wd, .int .i64 pr, .int .u8 117] := SpAt.next (heap_alloc_at w _) hb1
 have k0 : w1.cell? ⟨w.heap.size, 0, none⟩ = some (.bool m) := hsp.cell 0
 have k1 : w1.cell? ⟨w.heap.size, 1, none⟩ = some (.bool p) := hsp.cell 1
 have k2 : w1.cell? ⟨w.heap.size, 2, none⟩ = some (.bool bl) := hsp.cell 2
 have k3 : w1.cell? ⟨w.heap.size, 3, none⟩ = some (.bool al) := hsp.cell 3
 have k4 : w1.cell? ⟨w.heap.size, 4, none⟩ = some (.bool z) := hsp.cell 4
 have k5 : w1.cell? ⟨w.heap.size, 5, none⟩ = some (.int .i64 wd) := hsp.cell 5
 have k6 : w1.cell? ⟨w.heap.size, 6, none⟩ = some (.int .i64 pr) := hsp.cell 6
 have k7 : w1.cell? ⟨w.heap.size, 7, none⟩ = some (.int .u8 117) := hsp.cell 7
 clear hb1 hsp
 go_wp2_with fail
 refine (HI1.out _).mono ?_
 rintro e _ ⟨rfl, rfl⟩
 go_wp2_with fail
 refine (HPt.out _).mono ?_
 rintro e _ ⟨rfl, rfl⟩
 go_wp2_with fail
 refine (HI2.out _).mono ?_
 rintro e _ ⟨rfl, rfl⟩
 go_wp2_with fail
 refine (HFl.out _).mono ?_
 rintro e w2 ⟨rfl, hb2⟩
 have HB2 := Lib.hid (HB1.out.trans (hb2.mono HB1.out.size))
 clear hb2
 go_wp2_with fail
 go_ret2
 exact ⟨rfl, HB2.out⟩
theorem isNum_all : ((List.range 256).all fun vb => isNum vb == (vb == 100 || vb == 105 || vb == 111 || vb == 120 || vb == 88 || vb == 117 || vb == 101 || vb == 69 || vb == 102 || vb == 70 || vb == 103 || vb == 71)) = true := by kernel_rfl
theorem isNum_cases {vb : Nat} (h : vb < 256) (hn : isNum vb = true) : vb = 100 ∨ vb = 105 ∨ vb = 111 ∨ vb = 120 ∨ vb = 88 ∨ vb = 117 ∨ vb = 101 ∨ vb = 69 ∨ vb = 102 ∨ vb = 70 ∨ vb = 103 ∨ vb = 71 := by
 have h1 := List.all_eq_true.1 isNum_all vb (List.mem_range.2 h)
 rw [hn] at h1
 simp at h1
 omega
set_option maxHeartbeats 4000000 in
set_option maxRecDepth 1000000 in
theorem Number_other (m p bl al z : Bool) (wd pr : Int) (vb b : Nat) (w : World) (hvb : vb < 256) (h : okS wd pr vb = true) (hn : isNum vb = false) :
 Calls Tryz.prog 24 #[.agg (specA m p bl al z wd pr vb), .float .f64 b] w fun e w' => e = .returned (.tuple #[.string ⟨#[]⟩, .int .i64 50]) ∧ Below w.heap.size w w' := by
 have HCk := Lib.hid (fun W => Check_ok m p bl al z wd pr vb W h)
 have HI1 : Hid (∀ W, Calls Tryz.prog 69 #[.string ⟨#[100, 105, 111, 120, 88, 117, 101, 69, 102, 70, 103, 71]⟩, .int .u8 (vb : Int)] W fun e w' => e = .returned (.int .i64 (ixB numsV vb)) ∧ w' = W) := fun W => Tryz.strings_IndexByte ⟨#[100, 105, 111, 120, 88, 117, 101, 69, 102, 70, 103, 71]⟩ (vb : Int) W
 have hneg : ixB numsV vb < 0 := by unfold isNum at hn; simp at hn; exact hn
 generalize ixB numsV vb = q at *
 unfold specA at HCk ⊢
 clear h hn
 go_enter Tryz.func24, Tryz.ntmps24
 go_wp2_with fail
 refine (HCk.out _).mono ?_
 rintro e w1 ⟨rfl, hb1⟩
 have HB1 := Lib.hid (((Below.refl w.heap.size w).alloc (Nat.le_refl _) (.cells #[.bool m, .bool p, .bool bl, .bool al, .bool z, .int .i64 wd, .int .i64 pr, .int .u8 (vb : Int)] 35)).trans (hb1.mono (by simp)))
 have hsp : SpAt w1 w.heap.size #[.bool m, .bool p, .bool bl, .bool al, .bool z, .int .i64 wd, .int .i64 pr, .int .u8 (vb : Int)] := SpAt.next (heap_alloc_at w _) hb1
 have k0 : w1.cell? ⟨w.heap.size, 0, none⟩ = some (.bool m) := hsp.cell 0
 have k1 : w1.cell? ⟨w.heap.size, 1, none⟩ = some (.bool p) := hsp.cell 1
 have k2 : w1.cell? ⟨w.heap.size, 2, none⟩ = some (.bool bl) := hsp.cell 2
 have k3 : w1.cell? ⟨w.heap.size, 3, none⟩ = some (.bool al) := hsp.cell 3
 have k4 : w1.cell? ⟨w.heap.size, 4, none⟩ = some (.bool z) := hsp.cell 4
 have k5 : w1.cell? ⟨w.heap.size, 5, none⟩ = some (.int .i64 wd) := hsp.cell 5
 have k6 : w1.cell? ⟨w.heap.size, 6, none⟩ = some (.int .i64 pr) := hsp.cell 6
 have k7 : w1.cell? ⟨w.heap.size, 7, none⟩ = some (.int .u8 (vb : Int)) := hsp.cell 7
 clear hb1 hsp
 go_wp2_with fail
 refine (HI1.out _).mono ?_
 rintro e _ ⟨rfl, rfl⟩
 go_wp2_with fail
 go_ret2
 exact ⟨rfl, HB1.out⟩
theorem Number_any (m p bl al z : Bool) (wd pr : Int) (vb b : Nat) (w : World) (hvb : vb < 256) (hb : b < 18446744073709551616) (hT : PowOk w) :
 Calls Tryz.prog 24 #[.agg (specA m p bl al z wd pr vb), .float .f64 b] w fun e w' => e = .returned (.tuple #[.string (numO m p bl al z wd pr vb b), .int .i64 (numE wd pr vb)]) ∧ Below w.heap.size w w' := by
 unfold numO numE
 cases h : okS wd pr vb
 ·rw [if_neg (show ¬ (false = true ∧ isNum vb = true) from fun h => by cases h.1), if_neg (show ¬ (false = true ∧ isNum vb = true) from fun h => by cases h.1)]
  exact Number_bad m p bl al z wd pr vb b w hvb h
 cases hn : isNum vb
 ·rw [if_neg (show ¬ (true = true ∧ false = true) from fun h => by cases h.2), if_neg (show ¬ (true = true ∧ false = true) from fun h => by cases h.2)]
  exact Number_other m p bl al z wd pr vb b w hvb h hn
 rw [if_pos (show true = true ∧ true = true from ⟨rfl, rfl⟩), if_pos (show true = true ∧ true = true from ⟨rfl, rfl⟩)]
 cases hf : fin b
 ·rw [if_pos (show false = false from rfl)]
  exact Number_odd m p bl al z wd pr vb b w hvb hb h hn hf
 rw [if_neg (by decide)]
 obtain ⟨o1, o2, o3, o4⟩ := okS_facts h
 rcases isNum_cases hvb hn with rfl | rfl | rfl | rfl | rfl | rfl | rfl | rfl | rfl | rfl | rfl | rfl
 ·rw [if_neg (by decide)]; exact Number_100 m p bl al z wd pr b w hb hf o3 o4 o1 o2
 ·rw [if_neg (by decide)]; exact Number_105 m p bl al z wd pr b w hb hf o3 o4 o1 o2
 ·rw [if_neg (by decide)]; exact Number_111 m p bl al z wd pr b w hb hf o3 o4 o1 o2
 ·rw [if_neg (by decide)]; exact Number_120 m p bl al z wd pr b w hb hf o3 o4 o1 o2
 ·rw [if_neg (by decide)]; exact Number_88 m p bl al z wd pr b w hb hf o3 o4 o1 o2
 ·rw [if_neg (by decide)]; exact Number_117 m p bl al z wd pr b w hb hf o3 o4 o1 o2
 ·rw [if_pos (by decide)]; exact Number_101 m p bl al z wd pr b w hb hf o3 o4 o1 o2 hT
 ·rw [if_pos (by decide)]; exact Number_69 m p bl al z wd pr b w hb hf o3 o4 o1 o2 hT
 ·rw [if_pos (by decide)]; exact Number_102 m p bl al z wd pr b w hb hf o3 o4 o1 o2 hT
 ·rw [if_pos (by decide)]; exact Number_70 m p bl al z wd pr b w hb hf o3 o4 o1 o2 hT
 ·rw [if_pos (by decide)]; exact Number_103 m p bl al z wd pr b w hb hf o3 o4 o1 o2 hT
 ·rw [if_pos (by decide)]; exact Number_71 m p bl al z wd pr b w hb hf o3 o4 o1 o2 hT
end Go.Proofs.YtfdnhkjeoeffoaaGreatDoor
end
