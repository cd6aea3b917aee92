/- Several texts in one (W4, V1, V3, V2, V4, V5, P23, P24, V6, W3, G5). -/
import Derived.Test.YtfdnhkjeoeffoaaGreatDoorM8
import Derived.Test.YtfdnhkjeoeffoaaGreatDoorM6
import Derived.Lib.DecodeN
import Derived.Test.YtfdnhkjeoeffoaaGreatDoorM3
import Derived.Test.YtfdnhkjeoeffoaaGreatDoorM2
import Derived.StillTailTactics
import Derived.Deep.RegionHeld3
import Derived.Test.YtfdnhkjeoeffoaaGreatDoorM4
import Derived.Test.YtfdnhkjeoeffoaaGreatDoorM7
section
/- Package format: Number by the verbs of floats. -/
namespace Go.Proofs.YtfdnhkjeoeffoaaGreatDoor
open Go.RowKit
set_option linter.unusedVariables false

set_option maxHeartbeats 4000000 in
set_option maxRecDepth 1000000 in
theorem Number_101 (m p bl al z : Bool) (wd pr : Int) (b : Nat) (w : World) (hb : b < 18446744073709551616) (hf : fin b = true) (hp1 : -1 ≤ pr) (hp2 : pr ≤ 190) (hw : 0 ≤ wd) (hw2 : wd ≤ 1024) (hT : PowOk w) :
    Calls Tryz.prog 24 #[.agg (specA m p bl al z wd pr 101), .float .f64 b] w fun e w' => e = .returned (.tuple #[.string (floatO m p bl al z wd pr 101 b), .int .i64 0]) ∧ Below w.heap.size w w' := by
  have HT := Lib.hid hT
  have HFl := Lib.hid (fun W h => float_101 m p bl al z wd pr b W hb hf hp1 hp2 hw hw2 h)
  have HCk := Lib.hid (fun W => Check_ok m p bl al z wd pr 101 W (by
    unfold okS
    rw [show ixB verbsB 101 = 6 from by decide, decide_eq_true hw, decide_eq_true hw2, decide_eq_true hp1, decide_eq_true hp2]
    rfl))
  have HPt := Lib.hid (fun W => Parts_any b W hb)
  rw [hf] at HPt
  have HI1 : Hid (∀ W, Calls Tryz.prog 69 #[.string ⟨#[100, 105, 111, 120, 88, 117, 101, 69, 102, 70, 103, 71]⟩, .int .u8 101] W fun e w' => e = .returned (.int .i64 6) ∧ w' = W) := fun W => Tryz.strings_IndexByte ⟨#[100, 105, 111, 120, 88, 117, 101, 69, 102, 70, 103, 71]⟩ 101 W
  have HI2 : Hid (∀ W, Calls Tryz.prog 69 #[.string ⟨#[100, 105, 111, 120, 88, 117]⟩, .int .u8 101] W fun e w' => e = .returned (.int .i64 (-1)) ∧ w' = W) := fun W => Tryz.strings_IndexByte ⟨#[100, 105, 111, 120, 88, 117]⟩ 101 W
  generalize floatO m p bl al z wd pr 101 b = out at *
  unfold specA at HFl HCk ⊢
  clear hT hp1 hp2 hw hw2
  go_enter Tryz.func24, Tryz.ntmps24
  go_wp2_with fail
  refine (HCk.out _).mono ?_
  rintro e w1 ⟨rfl, hb1⟩
  have HB1 := Lib.hid (((Below.refl w.heap.size w).alloc (Nat.le_refl _) (.cells #[.bool m, .bool p, .bool bl, .bool al, .bool z, .int .i64 wd, .int .i64 pr, .int .u8 101] 35)).trans (hb1.mono (by simp)))
  have hsp : SpAt w1 w.heap.size #[.bool m, .bool p, .bool bl, .bool al, .bool z, .int .i64 wd, .int .i64 pr, .int .u8 101] := SpAt.next (heap_alloc_at w _) hb1
  have k0 : w1.cell? ⟨w.heap.size, 0, none⟩ = some (.bool m) := hsp.cell 0
  have k1 : w1.cell? ⟨w.heap.size, 1, none⟩ = some (.bool p) := hsp.cell 1
  have k2 : w1.cell? ⟨w.heap.size, 2, none⟩ = some (.bool bl) := hsp.cell 2
  have k3 : w1.cell? ⟨w.heap.size, 3, none⟩ = some (.bool al) := hsp.cell 3
  have k4 : w1.cell? ⟨w.heap.size, 4, none⟩ = some (.bool z) := hsp.cell 4
  have k5 : w1.cell? ⟨w.heap.size, 5, none⟩ = some (.int .i64 wd) := hsp.cell 5
  have k6 : w1.cell? ⟨w.heap.size, 6, none⟩ = some (.int .i64 pr) := hsp.cell 6
  have k7 : w1.cell? ⟨w.heap.size, 7, none⟩ = some (.int .u8 101) := hsp.cell 7
  clear hb1 hsp
  go_wp2_with fail
  refine (HI1.out _).mono ?_
  rintro e _ ⟨rfl, rfl⟩
  go_wp2_with fail
  refine (HPt.out _).mono ?_
  rintro e _ ⟨rfl, rfl⟩
  go_wp2_with fail
  refine (HI2.out _).mono ?_
  rintro e _ ⟨rfl, rfl⟩
  go_wp2_with fail
  refine (HFl.out _ (HT.out.below HB1.out)).mono ?_
  rintro e w2 ⟨rfl, hb2⟩
  have HB2 := Lib.hid (HB1.out.trans (hb2.mono HB1.out.size))
  clear hb2
  go_wp2_with fail
  go_ret2
  exact ⟨rfl, HB2.out⟩

set_option maxHeartbeats 4000000 in
set_option maxRecDepth 1000000 in
theorem Number_69 (m p bl al z : Bool) (wd pr : Int) (b : Nat) (w : World) (hb : b < 18446744073709551616) (hf : fin b = true) (hp1 : -1 ≤ pr) (hp2 : pr ≤ 190) (hw : 0 ≤ wd) (hw2 : wd ≤ 1024) (hT : PowOk w) :
    Calls Tryz.prog 24 #[.agg (specA m p bl al z wd pr 69), .float .f64 b] w fun e w' => e = .returned (.tuple #[.string (floatO m p bl al z wd pr 69 b), .int .i64 0]) ∧ Below w.heap.size w w' := by
  have HT := Lib.hid hT
  have HFl := Lib.hid (fun W h => float_69 m p bl al z wd pr b W hb hf hp1 hp2 hw hw2 h)
  have HCk := Lib.hid (fun W => Check_ok m p bl al z wd pr 69 W (by
    unfold okS
    rw [show ixB verbsB 69 = 7 from by decide, decide_eq_true hw, decide_eq_true hw2, decide_eq_true hp1, decide_eq_true hp2]
    rfl))
  have HPt := Lib.hid (fun W => Parts_any b W hb)
  rw [hf] at HPt
  have HI1 : Hid (∀ W, Calls Tryz.prog 69 #[.string ⟨#[100, 105, 111, 120, 88, 117, 101, 69, 102, 70, 103, 71]⟩, .int .u8 69] W fun e w' => e = .returned (.int .i64 7) ∧ w' = W) := fun W => Tryz.strings_IndexByte ⟨#[100, 105, 111, 120, 88, 117, 101, 69, 102, 70, 103, 71]⟩ 69 W
  have HI2 : Hid (∀ W, Calls Tryz.prog 69 #[.string ⟨#[100, 105, 111, 120, 88, 117]⟩, .int .u8 69] W fun e w' => e = .returned (.int .i64 (-1)) ∧ w' = W) := fun W => Tryz.strings_IndexByte ⟨#[100, 105, 111, 120, 88, 117]⟩ 69 W
  generalize floatO m p bl al z wd pr 69 b = out at *
  unfold specA at HFl HCk ⊢
  clear hT hp1 hp2 hw hw2
  go_enter Tryz.func24, Tryz.ntmps24
  go_wp2_with fail
  refine (HCk.out _).mono ?_
  rintro e w1 ⟨rfl, hb1⟩
  have HB1 := Lib.hid (((Below.refl w.heap.size w).alloc (Nat.le_refl _) (.cells #[.bool m, .bool p, .bool bl, .bool al, .bool z, .int .i64 wd, .int .i64 pr, .int .u8 69] 35)).trans (hb1.mono (by simp)))
  have hsp : SpAt w1 w.heap.size #[.bool m, .bool p, .bool bl, .bool al, .bool z, .int .i64 wd, .int .i64 pr, .int .u8 69] := SpAt.next (heap_alloc_at w _) hb1
  have k0 : w1.cell? ⟨w.heap.size, 0, none⟩ = some (.bool m) := hsp.cell 0
  have k1 : w1.cell? ⟨w.heap.size, 1, none⟩ = some (.bool p) := hsp.cell 1
  have k2 : w1.cell? ⟨w.heap.size, 2, none⟩ = some (.bool bl) := hsp.cell 2
  have k3 : w1.cell? ⟨w.heap.size, 3, none⟩ = some (.bool al) := hsp.cell 3
  have k4 : w1.cell? ⟨w.heap.size, 4, none⟩ = some (.bool z) := hsp.cell 4
  have k5 : w1.cell? ⟨w.heap.size, 5, none⟩ = some (.int .i64 wd) := hsp.cell 5
  have k6 : w1.cell? ⟨w.heap.size, 6, none⟩ = some (.int .i64 pr) := hsp.cell 6
  have k7 : w1.cell? ⟨w.heap.size, 7, none⟩ = some (.int .u8 69) := hsp.cell 7
  clear hb1 hsp
  go_wp2_with fail
  refine (HI1.out _).mono ?_
  rintro e _ ⟨rfl, rfl⟩
  go_wp2_with fail
  refine (HPt.out _).mono ?_
  rintro e _ ⟨rfl, rfl⟩
  go_wp2_with fail
  refine (HI2.out _).mono ?_
  rintro e _ ⟨rfl, rfl⟩
  go_wp2_with fail
  refine (HFl.out _ (HT.out.below HB1.out)).mono ?_
  rintro e w2 ⟨rfl, hb2⟩
  have HB2 := Lib.hid (HB1.out.trans (hb2.mono HB1.out.size))
  clear hb2
  go_wp2_with fail
  go_ret2
  exact ⟨rfl, HB2.out⟩

set_option maxHeartbeats 4000000 in
set_option maxRecDepth 1000000 in
theorem Number_102 (m p bl al z : Bool) (wd pr : Int) (b : Nat) (w : World) (hb : b < 18446744073709551616) (hf : fin b = true) (hp1 : -1 ≤ pr) (hp2 : pr ≤ 190) (hw : 0 ≤ wd) (hw2 : wd ≤ 1024) (hT : PowOk w) :
    Calls Tryz.prog 24 #[.agg (specA m p bl al z wd pr 102), .float .f64 b] w fun e w' => e = .returned (.tuple #[.string (floatO m p bl al z wd pr 102 b), .int .i64 0]) ∧ Below w.heap.size w w' := by
  have HT := Lib.hid hT
  have HFl := Lib.hid (fun W h => float_102 m p bl al z wd pr b W hb hf hp1 hp2 hw hw2 h)
  have HCk := Lib.hid (fun W => Check_ok m p bl al z wd pr 102 W (by
    unfold okS
    rw [show ixB verbsB 102 = 8 from by decide, decide_eq_true hw, decide_eq_true hw2, decide_eq_true hp1, decide_eq_true hp2]
    rfl))
  have HPt := Lib.hid (fun W => Parts_any b W hb)
  rw [hf] at HPt
  have HI1 : Hid (∀ W, Calls Tryz.prog 69 #[.string ⟨#[100, 105, 111, 120, 88, 117, 101, 69, 102, 70, 103, 71]⟩, .int .u8 102] W fun e w' => e = .returned (.int .i64 8) ∧ w' = W) := fun W => Tryz.strings_IndexByte ⟨#[100, 105, 111, 120, 88, 117, 101, 69, 102, 70, 103, 71]⟩ 102 W
  have HI2 : Hid (∀ W, Calls Tryz.prog 69 #[.string ⟨#[100, 105, 111, 120, 88, 117]⟩, .int .u8 102] W fun e w' => e = .returned (.int .i64 (-1)) ∧ w' = W) := fun W => Tryz.strings_IndexByte ⟨#[100, 105, 111, 120, 88, 117]⟩ 102 W
  generalize floatO m p bl al z wd pr 102 b = out at *
  unfold specA at HFl HCk ⊢
  clear hT hp1 hp2 hw hw2
  go_enter Tryz.func24, Tryz.ntmps24
  go_wp2_with fail
  refine (HCk.out _).mono ?_
  rintro e w1 ⟨rfl, hb1⟩
  have HB1 := Lib.hid (((Below.refl w.heap.size w).alloc (Nat.le_refl _) (.cells #[.bool m, .bool p, .bool bl, .bool al, .bool z, .int .i64 wd, .int .i64 pr, .int .u8 102] 35)).trans (hb1.mono (by simp)))
  have hsp : SpAt w1 w.heap.size #[.bool m, .bool p, .bool bl, .bool al, .bool z, .int .i64 wd, .int .i64 pr, .int .u8 102] := SpAt.next (heap_alloc_at w _) hb1
  have k0 : w1.cell? ⟨w.heap.size, 0, none⟩ = some (.bool m) := hsp.cell 0
  have k1 : w1.cell? ⟨w.heap.size, 1, none⟩ = some (.bool p) := hsp.cell 1
  have k2 : w1.cell? ⟨w.heap.size, 2, none⟩ = some (.bool bl) := hsp.cell 2
  have k3 : w1.cell? ⟨w.heap.size, 3, none⟩ = some (.bool al) := hsp.cell 3
  have k4 : w1.cell? ⟨w.heap.size, 4, none⟩ = some (.bool z) := hsp.cell 4
  have k5 : w1.cell? ⟨w.heap.size, 5, none⟩ = some (.int .i64 wd) := hsp.cell 5
  have k6 : w1.cell? ⟨w.heap.size, 6, none⟩ = some (.int .i64 pr) := hsp.cell 6
  have k7 : w1.cell? ⟨w.heap.size, 7, none⟩ = some (.int .u8 102) := hsp.cell 7
  clear hb1 hsp
  go_wp2_with fail
  refine (HI1.out _).mono ?_
  rintro e _ ⟨rfl, rfl⟩
  go_wp2_with fail
  refine (HPt.out _).mono ?_
  rintro e _ ⟨rfl, rfl⟩
  go_wp2_with fail
  refine (HI2.out _).mono ?_
  rintro e _ ⟨rfl, rfl⟩
  go_wp2_with fail
  refine (HFl.out _ (HT.out.below HB1.out)).mono ?_
  rintro e w2 ⟨rfl, hb2⟩
  have HB2 := Lib.hid (HB1.out.trans (hb2.mono HB1.out.size))
  clear hb2
  go_wp2_with fail
  go_ret2
  exact ⟨rfl, HB2.out⟩

set_option maxHeartbeats 4000000 in
set_option maxRecDepth 1000000 in
theorem Number_70 (m p bl al z : Bool) (wd pr : Int) (b : Nat) (w : World) (hb : b < 18446744073709551616) (hf : fin b = true) (hp1 : -1 ≤ pr) (hp2 : pr ≤ 190) (hw : 0 ≤ wd) (hw2 : wd ≤ 1024) (hT : PowOk w) :
    Calls Tryz.prog 24 #[.agg (specA m p bl al z wd pr 70), .float .f64 b] w fun e w' => e = .returned (.tuple #[.string (floatO m p bl al z wd pr 70 b), .int .i64 0]) ∧ Below w.heap.size w w' := by
  have HT := Lib.hid hT
  have HFl := Lib.hid (fun W h => float_70 m p bl al z wd pr b W hb hf hp1 hp2 hw hw2 h)
  have HCk := Lib.hid (fun W => Check_ok m p bl al z wd pr 70 W (by
    unfold okS
    rw [show ixB verbsB 70 = 9 from by decide, decide_eq_true hw, decide_eq_true hw2, decide_eq_true hp1, decide_eq_true hp2]
    rfl))
  have HPt := Lib.hid (fun W => Parts_any b W hb)
  rw [hf] at HPt
  have HI1 : Hid (∀ W, Calls Tryz.prog 69 #[.string ⟨#[100, 105, 111, 120, 88, 117, 101, 69, 102, 70, 103, 71]⟩, .int .u8 70] W fun e w' => e = .returned (.int .i64 9) ∧ w' = W) := fun W => Tryz.strings_IndexByte ⟨#[100, 105, 111, 120, 88, 117, 101, 69, 102, 70, 103, 71]⟩ 70 W
  have HI2 : Hid (∀ W, Calls Tryz.prog 69 #[.string ⟨#[100, 105, 111, 120, 88, 117]⟩, .int .u8 70] W fun e w' => e = .returned (.int .i64 (-1)) ∧ w' = W) := fun W => Tryz.strings_IndexByte ⟨#[100, 105, 111, 120, 88, 117]⟩ 70 W
  generalize floatO m p bl al z wd pr 70 b = out at *
  unfold specA at HFl HCk ⊢
  clear hT hp1 hp2 hw hw2
  go_enter Tryz.func24, Tryz.ntmps24
  go_wp2_with fail
  refine (HCk.out _).mono ?_
  rintro e w1 ⟨rfl, hb1⟩
  have HB1 := Lib.hid (((Below.refl w.heap.size w).alloc (Nat.le_refl _) (.cells #[.bool m, .bool p, .bool bl, .bool al, .bool z, .int .i64 wd, .int .i64 pr, .int .u8 70] 35)).trans (hb1.mono (by simp)))
  have hsp : SpAt w1 w.heap.size #[.bool m, .bool p, .bool bl, .bool al, .bool z, .int .i64 wd, .int .i64 pr, .int .u8 70] := SpAt.next (heap_alloc_at w _) hb1
  have k0 : w1.cell? ⟨w.heap.size, 0, none⟩ = some (.bool m) := hsp.cell 0
  have k1 : w1.cell? ⟨w.heap.size, 1, none⟩ = some (.bool p) := hsp.cell 1
  have k2 : w1.cell? ⟨w.heap.size, 2, none⟩ = some (.bool bl) := hsp.cell 2
  have k3 : w1.cell? ⟨w.heap.size, 3, none⟩ = some (.bool al) := hsp.cell 3
  have k4 : w1.cell? ⟨w.heap.size, 4, none⟩ = some (.bool z) := hsp.cell 4
  have k5 : w1.cell? ⟨w.heap.size, 5, none⟩ = some (.int .i64 wd) := hsp.cell 5
  have k6 : w1.cell? ⟨w.heap.size, 6, none⟩ = some (.int .i64 pr) := hsp.cell 6
  have k7 : w1.cell? ⟨w.heap.size, 7, none⟩ = some (.int .u8 70) := hsp.cell 7
  clear hb1 hsp
  go_wp2_with fail
  refine (HI1.out _).mono ?_
  rintro e _ ⟨rfl, rfl⟩
  go_wp2_with fail
  refine (HPt.out _).mono ?_
  rintro e _ ⟨rfl, rfl⟩
  go_wp2_with fail
  refine (HI2.out _).mono ?_
  rintro e _ ⟨rfl, rfl⟩
  go_wp2_with fail
  refine (HFl.out _ (HT.out.below HB1.out)).mono ?_
  rintro e w2 ⟨rfl, hb2⟩
  have HB2 := Lib.hid (HB1.out.trans (hb2.mono HB1.out.size))
  clear hb2
  go_wp2_with fail
  go_ret2
  exact ⟨rfl, HB2.out⟩

set_option maxHeartbeats 4000000 in
set_option maxRecDepth 1000000 in
theorem Number_103 (m p bl al z : Bool) (wd pr : Int) (b : Nat) (w : World) (hb : b < 18446744073709551616) (hf : fin b = true) (hp1 : -1 ≤ pr) (hp2 : pr ≤ 190) (hw : 0 ≤ wd) (hw2 : wd ≤ 1024) (hT : PowOk w) :
    Calls Tryz.prog 24 #[.agg (specA m p bl al z wd pr 103), .float .f64 b] w fun e w' => e = .returned (.tuple #[.string (floatO m p bl al z wd pr 103 b), .int .i64 0]) ∧ Below w.heap.size w w' := by
  have HT := Lib.hid hT
  have HFl := Lib.hid (fun W h => float_103 m p bl al z wd pr b W hb hf hp1 hp2 hw hw2 h)
  have HCk := Lib.hid (fun W => Check_ok m p bl al z wd pr 103 W (by
    unfold okS
    rw [show ixB verbsB 103 = 10 from by decide, decide_eq_true hw, decide_eq_true hw2, decide_eq_true hp1, decide_eq_true hp2]
    rfl))
  have HPt := Lib.hid (fun W => Parts_any b W hb)
  rw [hf] at HPt
  have HI1 : Hid (∀ W, Calls Tryz.prog 69 #[.string ⟨#[100, 105, 111, 120, 88, 117, 101, 69, 102, 70, 103, 71]⟩, .int .u8 103] W fun e w' => e = .returned (.int .i64 10) ∧ w' = W) := fun W => Tryz.strings_IndexByte ⟨#[100, 105, 111, 120, 88, 117, 101, 69, 102, 70, 103, 71]⟩ 103 W
  have HI2 : Hid (∀ W, Calls Tryz.prog 69 #[.string ⟨#[100, 105, 111, 120, 88, 117]⟩, .int .u8 103] W fun e w' => e = .returned (.int .i64 (-1)) ∧ w' = W) := fun W => Tryz.strings_IndexByte ⟨#[100, 105, 111, 120, 88, 117]⟩ 103 W
  generalize floatO m p bl al z wd pr 103 b = out at *
  unfold specA at HFl HCk ⊢
  clear hT hp1 hp2 hw hw2
  go_enter Tryz.func24, Tryz.ntmps24
  go_wp2_with fail
  refine (HCk.out _).mono ?_
  rintro e w1 ⟨rfl, hb1⟩
  have HB1 := Lib.hid (((Below.refl w.heap.size w).alloc (Nat.le_refl _) (.cells #[.bool m, .bool p, .bool bl, .bool al, .bool z, .int .i64 wd, .int .i64 pr, .int .u8 103] 35)).trans (hb1.mono (by simp)))
  have hsp : SpAt w1 w.heap.size #[.bool m, .bool p, .bool bl, .bool al, .bool z, .int .i64 wd, .int .i64 pr, .int .u8 103] := SpAt.next (heap_alloc_at w _) hb1
  have k0 : w1.cell? ⟨w.heap.size, 0, none⟩ = some (.bool m) := hsp.cell 0
  have k1 : w1.cell? ⟨w.heap.size, 1, none⟩ = some (.bool p) := hsp.cell 1
  have k2 : w1.cell? ⟨w.heap.size, 2, none⟩ = some (.bool bl) := hsp.cell 2
  have k3 : w1.cell? ⟨w.heap.size, 3, none⟩ = some (.bool al) := hsp.cell 3
  have k4 : w1.cell? ⟨w.heap.size, 4, none⟩ = some (.bool z) := hsp.cell 4
  have k5 : w1.cell? ⟨w.heap.size, 5, none⟩ = some (.int .i64 wd) := hsp.cell 5
  have k6 : w1.cell? ⟨w.heap.size, 6, none⟩ = some (.int .i64 pr) := hsp.cell 6
  have k7 : w1.cell? ⟨w.heap.size, 7, none⟩ = some (.int .u8 103) := hsp.cell 7
  clear hb1 hsp
  go_wp2_with fail
  refine (HI1.out _).mono ?_
  rintro e _ ⟨rfl, rfl⟩
  go_wp2_with fail
  refine (HPt.out _).mono ?_
  rintro e _ ⟨rfl, rfl⟩
  go_wp2_with fail
  refine (HI2.out _).mono ?_
  rintro e _ ⟨rfl, rfl⟩
  go_wp2_with fail
  refine (HFl.out _ (HT.out.below HB1.out)).mono ?_
  rintro e w2 ⟨rfl, hb2⟩
  have HB2 := Lib.hid (HB1.out.trans (hb2.mono HB1.out.size))
  clear hb2
  go_wp2_with fail
  go_ret2
  exact ⟨rfl, HB2.out⟩

set_option maxHeartbeats 4000000 in
set_option maxRecDepth 1000000 in
theorem Number_71 (m p bl al z : Bool) (wd pr : Int) (b : Nat) (w : World) (hb : b < 18446744073709551616) (hf : fin b = true) (hp1 : -1 ≤ pr) (hp2 : pr ≤ 190) (hw : 0 ≤ wd) (hw2 : wd ≤ 1024) (hT : PowOk w) :
    Calls Tryz.prog 24 #[.agg (specA m p bl al z wd pr 71), .float .f64 b] w fun e w' => e = .returned (.tuple #[.string (floatO m p bl al z wd pr 71 b), .int .i64 0]) ∧ Below w.heap.size w w' := by
  have HT := Lib.hid hT
  have HFl := Lib.hid (fun W h => float_71 m p bl al z wd pr b W hb hf hp1 hp2 hw hw2 h)
  have HCk := Lib.hid (fun W => Check_ok m p bl al z wd pr 71 W (by
    unfold okS
    rw [show ixB verbsB 71 = 11 from by decide, decide_eq_true hw, decide_eq_true hw2, decide_eq_true hp1, decide_eq_true hp2]
    rfl))
  have HPt := Lib.hid (fun W => Parts_any b W hb)
  rw [hf] at HPt
  have HI1 : Hid (∀ W, Calls Tryz.prog 69 #[.string ⟨#[100, 105, 111, 120, 88, 117, 101, 69, 102, 70, 103, 71]⟩, .int .u8 71] W fun e w' => e = .returned (.int .i64 11) ∧ w' = W) := fun W => Tryz.strings_IndexByte ⟨#[100, 105, 111, 120, 88, 117, 101, 69, 102, 70, 103, 71]⟩ 71 W
  have HI2 : Hid (∀ W, Calls Tryz.prog 69 #[.string ⟨#[100, 105, 111, 120, 88, 117]⟩, .int .u8 71] W fun e w' => e = .returned (.int .i64 (-1)) ∧ w' = W) := fun W => Tryz.strings_IndexByte ⟨#[100, 105, 111, 120, 88, 117]⟩ 71 W
  generalize floatO m p bl al z wd pr 71 b = out at *
  unfold specA at HFl HCk ⊢
  clear hT hp1 hp2 hw hw2
  go_enter Tryz.func24, Tryz.ntmps24
  go_wp2_with fail
  refine (HCk.out _).mono ?_
  rintro e w1 ⟨rfl, hb1⟩
  have HB1 := Lib.hid (((Below.refl w.heap.size w).alloc (Nat.le_refl _) (.cells #[.bool m, .bool p, .bool bl, .bool al, .bool z, .int .i64 wd, .int .i64 pr, .int .u8 71] 35)).trans (hb1.mono (by simp)))
  have hsp : SpAt w1 w.heap.size #[.bool m, .bool p, .bool bl, .bool al, .bool z, .int .i64 wd, .int .i64 pr, .int .u8 71] := SpAt.next (heap_alloc_at w _) hb1
  have k0 : w1.cell? ⟨w.heap.size, 0, none⟩ = some (.bool m) := hsp.cell 0
  have k1 : w1.cell? ⟨w.heap.size, 1, none⟩ = some (.bool p) := hsp.cell 1
  have k2 : w1.cell? ⟨w.heap.size, 2, none⟩ = some (.bool bl) := hsp.cell 2
  have k3 : w1.cell? ⟨w.heap.size, 3, none⟩ = some (.bool al) := hsp.cell 3
  have k4 : w1.cell? ⟨w.heap.size, 4, none⟩ = some (.bool z) := hsp.cell 4
  have k5 : w1.cell? ⟨w.heap.size, 5, none⟩ = some (.int .i64 wd) := hsp.cell 5
  have k6 : w1.cell? ⟨w.heap.size, 6, none⟩ = some (.int .i64 pr) := hsp.cell 6
  have k7 : w1.cell? ⟨w.heap.size, 7, none⟩ = some (.int .u8 71) := hsp.cell 7
  clear hb1 hsp
  go_wp2_with fail
  refine (HI1.out _).mono ?_
  rintro e _ ⟨rfl, rfl⟩
  go_wp2_with fail
  refine (HPt.out _).mono ?_
  rintro e _ ⟨rfl, rfl⟩
  go_wp2_with fail
  refine (HI2.out _).mono ?_
  rintro e _ ⟨rfl, rfl⟩
  go_wp2_with fail
  refine (HFl.out _ (HT.out.below HB1.out)).mono ?_
  rintro e w2 ⟨rfl, hb2⟩
  have HB2 := Lib.hid (HB1.out.trans (hb2.mono HB1.out.size))
  clear hb2
  go_wp2_with fail
  go_ret2
  exact ⟨rfl, HB2.out⟩

end Go.Proofs.YtfdnhkjeoeffoaaGreatDoor
end

section
/- The document's answer of package ustr, plain: the size of an encoding is what the decoder says. -/
namespace Go.Proofs.YtfdnhkjeoeffoaaGreatDoor
open Go.RowKit
set_option linter.unusedVariables false

def endR (n least r : Nat) : Nat × Nat := if r < least then (0, 0) else if 1114111 < r then (0, 0) else if 55296 ≤ r ∧ r ≤ 57343 then (0, 0) else (n, r)
/-- what size answers at a string of n bytes that begins so -/
def sizeN (n b0 b1 b2 b3 : Nat) : Nat × Nat :=
  if b0 < 128 then (1, b0)
  else if 194 ≤ b0 ∧ b0 ≤ 223 then
    (if n < 2 then (0, 0) else if b1 < 128 ∨ 191 < b1 then (0, 0) else endR 2 128 (64 * (b0 % 32) + b1 - 128))
  else if 224 ≤ b0 ∧ b0 ≤ 239 then
    (if n < 3 then (0, 0) else if b1 < 128 ∨ 191 < b1 then (0, 0) else if b2 < 128 ∨ 191 < b2 then (0, 0) else endR 3 2048 (64 * (64 * (b0 % 16) + b1 - 128) + b2 - 128))
  else if 240 ≤ b0 ∧ b0 ≤ 244 then
    (if n < 4 then (0, 0) else if b1 < 128 ∨ 191 < b1 then (0, 0) else if b2 < 128 ∨ 191 < b2 then (0, 0) else if b3 < 128 ∨ 191 < b3 then (0, 0)
      else endR 4 65536 (64 * (64 * (64 * (b0 % 8) + b1 - 128) + b2 - 128) + b3 - 128))
  else (0, 0)
def sizeR (s : ByteArray) : Nat × Nat := sizeN s.size (ch s 0) (ch s 1) (ch s 2) (ch s 3)
/-- the code and the width, as the document says -/
def nxtR (s : ByteArray) : Nat × Nat := if (sizeR s).1 = 0 then (1114112 + ch s 0, 1) else ((sizeR s).2, (sizeR s).1)

def odd1 (d : Nat × Nat) (c : Nat) : Nat × Nat := if d.1 = 65533 ∧ d.2 = 1 then (1114112 + c, 1) else d
def nxtN (n b0 b1 b2 b3 : Nat) : Nat × Nat := if (sizeN n b0 b1 b2 b3).1 = 0 then (1114112 + b0, 1) else ((sizeN n b0 b1 b2 b3).2, (sizeN n b0 b1 b2 b3).1)
/-- the places of the characters from a place on, and the end -/
def startsL (s : ByteArray) (b : Bool) (m : Nat) : List Nat := (chars s b m).map (·.1) ++ [s.size]
end Go.Proofs.YtfdnhkjeoeffoaaGreatDoor
end

section
/- The document's answer of package ustr: size and Next. -/
namespace Go.Proofs.YtfdnhkjeoeffoaaGreatDoor
open Go.RowKit
set_option linter.unusedVariables false

end Go.Proofs.YtfdnhkjeoeffoaaGreatDoor
end

section
/- Rows of ints that a call has made itself. -/
namespace Go.Proofs.YtfdnhkjeoeffoaaGreatDoor
open Go.RowKit
set_option linter.unusedVariables false

/-- words as cells -/
def cellsI (L : List Nat) : List Value := L.map fun n : Nat => Value.int .i64 (n : Int)

/-- v is a row of the call's own (from block base on) that holds these words -/
structure OwnI (w : World) (base : Nat) (v : Value) (L : List Nat) : Prop where
  lt : ∀ x ∈ L, x < 9223372036854775808
  own : w.ownsRow base 3 1 v L.length (cellsI L)

theorem cellsI_length (L : List Nat) : (cellsI L).length = L.length := by simp [cellsI]

theorem OwnI.nil (w : World) (base : Nat) : OwnI w base (.slice none 0 0) [] := ⟨by simp, World.ownsRow_nil w base _ _⟩

/-- where it lies -/
theorem OwnI.at_ {w : World} {base : Nat} {v : Value} {L : List Nat} (h : OwnI w base v L) :
    (v = .slice none 0 0 ∧ L = []) ∨ ∃ g cap cur, v = .slice (some ⟨g, 0, none⟩) L.length cap ∧ base ≤ g ∧ w.heap[g]? = some (.cells cur 3 (0, 0)) ∧ L.length ≤ cap ∧ cap ≤ 9223372036854775807 ∧ cur.size = cap ∧ cur.toList.take L.length = cellsI L := by
  obtain ⟨h1, h2⟩ := h
  obtain ⟨h3, h4⟩ := h2
  rcases h4 with ⟨rfl, hn⟩ | ⟨g, cap, cur, rfl, hb, hg, hl, hm, hs, ht⟩
  · exact .inl ⟨rfl, List.eq_nil_of_length_eq_zero hn⟩
  · exact .inr ⟨g, cap, cur, rfl, hb, hg, hl, by simpa [maxLen] using hm, by simpa using hs, by simpa using ht⟩

theorem cur_getI {cur : Array Value} {L : List Nat} (ht : cur.toList.take L.length = cellsI L) (i : Nat) (h : i < L.length) : cur[i]? = some (.int .i64 (L[i] : Nat)) := by
  have e : (cur.toList.take L.length)[i]? = (cellsI L)[i]? := by rw [ht]
  rw [List.getElem?_take_of_lt h] at e
  simpa [cellsI, h] using e

/-- a row that is not nil, as a block -/
structure RowI (w : World) (g cap : Nat) (L : List Nat) : Prop where
  lt : ∀ x ∈ L, x < 9223372036854775808
  le : L.length ≤ cap
  max : cap ≤ 9223372036854775807
  row : ∃ cur, w.heap[g]? = some (.cells cur 3 (0, 0)) ∧ cur.size = cap ∧ cur.toList.take L.length = cellsI L

theorem RowI.ltg {w : World} {g cap : Nat} {L : List Nat} (h : RowI w g cap L) : g < w.heap.size := by
  obtain ⟨cur, hg, hs, ht⟩ := h.row
  exact lt_of_heap hg
theorem RowI.cell {w : World} {g cap : Nat} {L : List Nat} (h : RowI w g cap L) (i : Nat) (hi : i < L.length) : w.cell? ⟨g, i, none⟩ = some (.int .i64 (L[i] : Nat)) := by
  obtain ⟨cur, hg, hs, ht⟩ := h.row
  simp [World.cell?, hg, cur_getI ht i hi]
theorem RowI.frozen {w : World} {g cap : Nat} {L : List Nat} (h : RowI w g cap L) (i : Nat) : w.frozen? ⟨g, i, none⟩ = false := by
  obtain ⟨cur, hg, hs, ht⟩ := h.row
  simp [World.frozen?, hg]
theorem RowI.keep {w w' : World} {g cap : Nat} {L : List Nat} (h : RowI w g cap L) (hk : w'.heap[g]? = w.heap[g]?) : RowI w' g cap L := by
  obtain ⟨cur, hg, hs, ht⟩ := h.row
  exact ⟨h.lt, h.le, h.max, cur, hk.trans hg, hs, ht⟩
theorem RowI.below {w w' : World} {g cap B : Nat} {L : List Nat} (h : RowI w g cap L) (hb : Below B w w') (hB : g < B) : RowI w' g cap L := h.keep (hb.block g hB)
theorem RowI.own {w : World} {g cap base : Nat} {L : List Nat} (h : RowI w g cap L) (hb : base ≤ g) : OwnI w base (.slice (some ⟨g, 0, none⟩) L.length cap) L := by
  obtain ⟨cur, hg, hs, ht⟩ := h.row
  exact ⟨h.lt, by simp [cellsI_length], .inr ⟨g, cap, cur, rfl, hb, hg, h.le, by simpa [maxLen] using h.max, by simpa using hs, by simpa using ht⟩⟩
theorem RowI.take {w : World} {g cap : Nat} {L : List Nat} (h : RowI w g cap L) (k : Nat) : RowI w g cap (L.take k) := by
  obtain ⟨cur, hg, hs, ht⟩ := h.row
  refine ⟨fun x hx => h.lt x (List.mem_of_mem_take hx), by have := h.le; simp; omega, h.max, cur, hg, hs, ?_⟩
  rw [cellsI, List.map_take, ← cellsI, ← ht, List.take_take, List.length_take]
theorem RowI.set {w : World} {g cap : Nat} {L : List Nat} (h : RowI w g cap L) (i y : Nat) (hi : i < L.length) (hy : y < 9223372036854775808) : RowI (w.setCell ⟨g, i, none⟩ (.int .i64 (y : Nat))) g cap (L.set i y) := by
  obtain ⟨cur, hg, hs, ht⟩ := h.row
  refine ⟨fun x hx => ?_, by simpa using h.le, h.max, _, setCell_heap_same hg i _, by simpa using hs, ?_⟩
  · rcases List.mem_or_eq_of_mem_set hx with hx | rfl
    · exact h.lt x hx
    · exact hy
  · rw [Array.toList_setIfInBounds, List.length_set, List.take_set, ht]
    simp [cellsI, List.map_set]

section
variable (w : World) {ops : Array Oper} {rest : List Oper} {o : Oper} {a : Act} {Q : Exit → Act → World → Prop}

end

theorem OwnI.alloc {w : World} {base : Nat} {v : Value} {L : List Nat} (h : OwnI w base v L) (o : Obj) : OwnI (w.alloc o) base v L := ⟨h.lt, h.own.alloc o⟩
theorem OwnI.row {w : World} {base n cap : Nat} {a : Option Addr} {L : List Nat} (h : OwnI w base (.slice a n cap) L) (hne : 0 < L.length) : ∃ g, a = some ⟨g, 0, none⟩ ∧ n = L.length ∧ base ≤ g ∧ RowI w g cap L := by
  rcases h.at_ with ⟨_, rfl⟩ | ⟨g, cap', cur, e, hb, hg, hl, hm, hs, ht⟩
  · simp at hne
  · cases e
    exact ⟨g, rfl, rfl, hb, h.lt, hl, hm, cur, hg, hs, ht⟩
theorem OwnI.slice {w : World} {base : Nat} {v : Value} {L : List Nat} (h : OwnI w base v L) : (v = .slice none 0 0 ∧ L = []) ∨ ∃ g cap, v = .slice (some ⟨g, 0, none⟩) L.length cap ∧ base ≤ g ∧ RowI w g cap L := by
  rcases h.at_ with ⟨rfl, rfl⟩ | ⟨g, cap, cur, rfl, hb, hg, hl, hm, hs, ht⟩
  · exact .inl ⟨rfl, rfl⟩
  · exact .inr ⟨g, cap, rfl, hb, h.lt, hl, hm, cur, hg, hs, ht⟩
end Go.Proofs.YtfdnhkjeoeffoaaGreatDoor
end

section
/- The document's answer of package ustr: Next, Starts, Len, Sub. -/
namespace Go.Proofs.YtfdnhkjeoeffoaaGreatDoor
open Go.RowKit
set_option linter.unusedVariables false

theorem OwnI.keep {w w' : World} {base B : Nat} {v : Value} {L : List Nat} (h : OwnI w base v L) (hb : Below B w w') (hB : w.heap.size ≤ B) : OwnI w' base v L := by
  rcases h.slice with ⟨rfl, rfl⟩ | ⟨g, cap, rfl, hbg, hr⟩
  · exact OwnI.nil _ _
  · exact (hr.below hb (Nat.lt_of_lt_of_le hr.ltg hB)).own hbg
end Go.Proofs.YtfdnhkjeoeffoaaGreatDoor
end

section
/- The document's answer of package ustr: Sub. -/
namespace Go.Proofs.YtfdnhkjeoeffoaaGreatDoor
open Go.RowKit
set_option linter.unusedVariables false

end Go.Proofs.YtfdnhkjeoeffoaaGreatDoor
end

section
/- The document's answer of package format: at, in, figure. -/
namespace Go.Proofs.YtfdnhkjeoeffoaaGreatDoor
open Go.RowKit
set_option linter.unusedVariables false

/-- is the byte one of a text's -/
def inL (c : Nat) (t : ByteArray) : Bool := t.data.toList.any fun x => x.toNat == c
/-- the first six digits' number -/
def six (s : ByteArray) (i k : Nat) : Nat := digVal ((s.data.toList.drop i).take (min k 6))
/-- where a figure ends; -1: too many digits -/
def figEnd (F : Int × Bool × Bool × Nat) (i : Nat) : Int := if F.2.2.1 = true then ((i + F.2.2.2 : Nat) : Int) else -1
end Go.Proofs.YtfdnhkjeoeffoaaGreatDoor
end

section
/- The document's answer of package format: Parse: the flags (under way). -/
namespace Go.Proofs.YtfdnhkjeoeffoaaGreatDoor
open Go.RowKit
set_option linter.unusedVariables false

/-- the flags, one sign more -/
def orF (a : Bool) (x c : Nat) : Bool := a || ((x : Int) == (c : Int))
end Go.Proofs.YtfdnhkjeoeffoaaGreatDoor
end

section
/- The document's answer of package format: many, Check. -/
namespace Go.Proofs.YtfdnhkjeoeffoaaGreatDoor
open Go.RowKit
set_option linter.unusedVariables false

/-- string(b) of no bytes -/
theorem wpList_string_nil (w : World) {ops : Array Oper} {rest : List Oper} {o : Oper} {a : Act} {Q : Exit → Act → World → Prop} (hg : o.guard = none) (x : Operand) (ho : o.op = .convert 64 9 x) (hx : a.eval x = .slice none 0 0)
    (hK : wpList Tryz.prog ops Q rest (a.put o.dst (.string ⟨#[]⟩)) w) : wpList Tryz.prog ops Q (o :: rest) a w := by
  have hr := run_convert_bytes_nil (P := Tryz.prog) (w := w) 64 5 undBytes undByte 0 0 9 undStr
  refine wpList_plain hg fun K' hK' => ?_
  unfold Oper.wp
  simp [execOp, ho, hx, hr, Result.andThen]
  exact hK' _ _ hK
end Go.Proofs.YtfdnhkjeoeffoaaGreatDoor
end

section
/- Package format: inBase. -/
namespace Go.Proofs.YtfdnhkjeoeffoaaGreatDoor
open Go.RowKit
set_option linter.unusedVariables false

def hexB : ByteArray := ⟨#[48, 49, 50, 51, 52, 53, 54, 55, 56, 57, 97, 98, 99, 100, 101, 102]⟩
/-- a natural's digits in a base -/
def baseF (B : Nat) : Nat → Nat → List Nat
  | 0, _ => []
  | f + 1, n => if n = 0 then [] else baseF B f (n / B) ++ [ch hexB (n % B)]
def baseN (B n : Nat) : List Nat := baseF B n n
theorem baseF_more (B : Nat) (hB : 2 ≤ B) : ∀ (f g n : Nat), n ≤ f → n ≤ g → baseF B f n = baseF B g n := by
  intro f
  induction f with
  | zero => intro g n h1 h2; obtain rfl : n = 0 := by omega
            cases g <;> rfl
  | succ f ih =>
    intro g n h1 h2
    cases g with
    | zero => obtain rfl : n = 0 := by omega
              rfl
    | succ g =>
      show (if n = 0 then _ else _) = (if n = 0 then _ else _)
      by_cases h : n = 0
      · rw [if_pos h, if_pos h]
      · have hlt : n / B < n := Nat.div_lt_self (by omega) (by omega)
        rw [if_neg h, if_neg h, ih g (n / B) (by omega) (by omega)]
theorem baseN_step {B n : Nat} (hB : 2 ≤ B) (h : n ≠ 0) : baseN B n = baseN B (n / B) ++ [ch hexB (n % B)] := by
  have hlt : n / B < n := Nat.div_lt_self (by omega) (by omega)
  unfold baseN
  obtain ⟨k, hk⟩ : ∃ k, n = k + 1 := ⟨n - 1, by omega⟩
  conv => lhs; rw [hk]; unfold baseF
  rw [if_neg (by omega), ← hk, baseF_more B hB k (n / B) (n / B) (by omega) (Nat.le_refl _)]
theorem baseN_zero (B : Nat) : baseN B 0 = [] := rfl
theorem baseN_lt {B : Nat} (hB : 2 ≤ B) : ∀ (f n : Nat), n ≤ f → ∀ c ∈ baseN B n, c < 256 := by
  intro f
  induction f with
  | zero => intro n h c hc; obtain rfl : n = 0 := by omega
            rw [baseN_zero] at hc; cases hc
  | succ f ih =>
    intro n h c hc
    by_cases h0 : n = 0
    · subst h0; rw [baseN_zero] at hc; cases hc
    · have hlt : n / B < n := Nat.div_lt_self (by omega) (by omega)
      rw [baseN_step hB h0] at hc
      rcases List.mem_append.1 hc with hc | hc
      · exact ih (n / B) (by omega) c hc
      · rw [List.mem_singleton] at hc
        subst hc
        exact ch_lt _ _
theorem baseN_len {B : Nat} (hB : 2 ≤ B) : ∀ (k n : Nat), n < 2 ^ k → (baseN B n).length ≤ k := by
  intro k
  induction k with
  | zero => intro n h; obtain rfl : n = 0 := by simpa using h
            rw [baseN_zero]; simp
  | succ k ih =>
    intro n h
    by_cases h0 : n = 0
    · subst h0; rw [baseN_zero]; simp
    · rw [baseN_step hB h0, List.length_append]
      have h2 : n / B ≤ n / 2 := Nat.div_le_div_left hB (by decide)
      have h3 : n / 2 < 2 ^ k := by rw [Nat.pow_succ] at h; omega
      have := ih (n / B) (by omega)
      simp; omega
def sliceLen : Value → Nat
  | .slice _ n _ => n
  | _ => 0
def bytesN (L : List Nat) : ByteArray := ⟨(L.map UInt8.ofNat).toArray⟩

section
variable (w : World) {ops : Array Oper} {rest : List Oper} {o : Oper} {a : Act} {Q : Exit → Act → World → Prop}
/-- append of a row -/
theorem wpList_appBs (hg : o.guard = none) (s x : Operand) (ho : o.op = .call { callee := .builtin .append, args := #[s, x], argTypes := #[64, 64] })
    (base : Nat) (v : Value) (L M : List Nat) (hs : a.eval s = v) (hown : OwnB w base v L) (g cap : Nat) (hx : a.eval x = .slice (some ⟨g, 0, none⟩) M.length cap) (hr : RowB w g cap M)
    (hbase : base ≤ w.heap.size) (hlen : L.length + M.length ≤ 1000000000)
    (hK : ∀ v' w', OwnB w' base v' (L ++ M) → w.grownBy w' v.ownBlock → wpList Tryz.prog ops Q rest (a.put o.dst v') w') : wpList Tryz.prog ops Q (o :: rest) a w := by
  obtain ⟨i0, hi, hz0, hz1, hz2⟩ := info_parts infoB
  refine wpList_append_own w hg s x 64 ho base 5 i0 (.int .u8 0) 1 1 undB hi hz0 hz1 hz2 rfl (by decide) v L.length (cellsB L) hs hown.own ⟨g, 0, none⟩ M.length cap (cellsB M) hx (by simp [cellsB_length]) ?_ ?_ ?_ ?_ hbase ?_
  · intro j u hj
    have hjl : j < M.length := by
      have := (List.getElem?_eq_some_iff.1 hj).1
      simpa [cellsB_length] using this
    have e := hr.cell j hjl
    have h2 : u = .int .u8 (M[j] : Nat) := by
      have h3 : (cellsB M)[j]? = some (.int .u8 (M[j] : Nat)) := by simp [cellsB, List.getElem?_eq_getElem hjl]
      rw [h3] at hj
      exact (Option.some.inj hj).symm
    rw [add_plain', Nat.zero_add, h2]
    exact e
  · intro u hu
    obtain ⟨n, _, rfl⟩ := List.mem_map.1 hu
    rfl
  · simp [maxLen]; omega
  · omega
  · intro v' w' ho hgr _
    refine hK v' w' ⟨?_, ?_⟩ hgr
    · intro z hz
      rcases List.mem_append.1 hz with hz | hz
      · exact hown.lt z hz
      · exact hr.lt z hz
    · have e : cellsB (L ++ M) = cellsB L ++ cellsB M := by simp [cellsB]
      rw [e]; simpa using ho
end
theorem OwnB.keep {w w' : World} {base B : Nat} {v : Value} {L : List Nat} (h : OwnB w base v L) (hb : Below B w w') (hB : w.heap.size ≤ B) : OwnB w' base v L := by
  rcases h.slice with ⟨rfl, rfl⟩ | ⟨g, cap, rfl, hbg, hr⟩
  · exact OwnB.nil _ _
  · exact (hr.below hb (Nat.lt_of_lt_of_le hr.ltg hB)).own hbg
theorem bytesN_toList {L : List Nat} (h : ∀ c ∈ L, c < 256) (j : Nat) (hj : j < (L.map UInt8.ofNat).length) : ((L.map UInt8.ofNat)[j].toNat) = L[j]'(by simpa using hj) := by
  have hm := h _ (List.getElem_mem (by simpa using hj : j < L.length))
  simp only [List.getElem_map, UInt8.toNat_ofNat']
  omega

set_option maxHeartbeats 8000000 in
set_option maxRecDepth 1000000 in
theorem inBase_any (s : ByteArray) (n B : Nat) (w : World) (hc : Canon s.data.toList n) (hl : s.data.toList.length ≤ 4001) (hn : nbits n ≤ 4001) (hB : 2 ≤ B) (hB2 : B ≤ 16) :
    Calls Tryz.prog 129 #[.string s, .int .u64 (B : Nat)] w fun e w' => e = .returned (.string (bytesN (baseN B n))) ∧ Below w.heap.size w w' := by
  have hf : (limbs n).length ≤ 256 := limbs_of_bits (Nat.le_trans hn (by decide))
  have hlen : (baseN B n).length ≤ 4001 := baseN_len (B := B) hB (k := 4001) (n := n) ((nbits_le (n := n) (k := 4001)).1 hn)
  have hval := hc.val
  have HP := Lib.hid (Parse_any s w hc.ne hc.dig (by rw [hval]; exact hf) (by omega))
  rw [hval] at HP
  have HFr := Lib.hid (fun W => FromV B (B : Int) rfl (by omega) W)
  have hlB : (limbs B).length ≤ 256 := limbs_of_bits (Nat.le_trans (nbits_le.2 (show B < 2 ^ 5 by omega)) (by decide))
  have HDv := Lib.hid (fun va vb m W (hx : NatV W va m) (hy : NatV W vb B) (hX : (limbs m).length ≤ 256) => Div_any va vb m B W hx hy hX hlB (by omega))
  have hmono : ∀ m, m ≤ n → (limbs m).length ≤ 256 := fun m hm => Nat.le_trans (limbs_length_le (Nat.lt_of_le_of_lt hm (lt_of_limbs_length hf))) (Nat.le_refl _)
  have HLT := Lib.hid (baseN_lt hB n n (Nat.le_refl _))
  obtain ⟨D, hD⟩ : ∃ D, D = baseN B n := ⟨_, rfl⟩
  rw [← hD] at hlen HLT ⊢
  have HD := Lib.hid hD
  have HMO := Lib.hid hmono
  clear hc hval hD hlB hmono hn hl
  go_enter Tryz.func129, Tryz.ntmps129
  go_wp2_with fail
  refine HP.out.mono ?_
  rintro e w1 ⟨v, rfl, hv, hb⟩
  have HV := Lib.hid hv
  have HB1 := Lib.hid hb
  clear hv hb HP
  go_wp2_with fail
  go_loopw [5, 7] (fun va vo wr => ∃ (m : Nat) (L : List Nat), Hid (NatV wr va m) ∧ Hid (OwnB wr w.heap.size vo L) ∧ Hid (baseN B m ++ L = D) ∧ Hid (Below w.heap.size w wr) ∧ m ≤ n) (fun _ vo _ => D.length - sliceLen vo)
  case atStart => exact ⟨n, [], HV.out, OwnB.nil _ _, by show _ = _; rw [List.append_nil]; exact HD.out.symm, HB1.out, Nat.le_refl _⟩
  case round =>
    obtain ⟨m, L, HN, HO, HE, HB, hm⟩ := hrel
    obtain ⟨a, ca, rfl, hla⟩ := HN.out
    have hgs := HB.out.size
    have hLlen : L.length ≤ 4001 := by
      have h := congrArg List.length HE.out
      rw [List.length_append] at h
      omega
    have hml := HMO.out m hm
    by_cases h0 : m = 0
    · subst h0
      have HE1 : Hid (L = D) := by
        show _ = _
        rw [← HE.out, baseN_zero]
        rfl
      have hlz : (limbs 0).length = 0 := by rw [limbs_zero]; rfl
      rw [hlz]
      rcases HO.out.slice with ⟨rfl, hnil⟩ | ⟨g, cap, rfl, hbg, hrow⟩
      · have HR : Hid (bytesN D = ⟨#[]⟩) := by show _ = _; rw [← HE1.out, hnil]; rfl
        clear hla HN HE HO hnil
        go_wp2_with (refine wpList_string_nil _ rfl _ rfl rfl ?_)
        go_ret
        exact ⟨by rw [HR.out]; rfl, HB.out⟩
      · have hT : ∀ k (hk : k < (L.map UInt8.ofNat).length), wr.cell? ⟨g, k, none⟩ = some (.int .u8 ((L.map UInt8.ofNat)[k].toNat : Nat)) := by
          intro k hk
          rw [bytesN_toList hrow.lt k hk]
          exact hrow.cell k (by simpa using hk)
        have HTT := Lib.hid hT
        have HR : Hid (bytesN D = ⟨(L.map UInt8.ofNat).toArray⟩) := by show _ = _; rw [← HE1.out]; rfl
        have hlen2 : (L.map UInt8.ofNat).length = L.length := by simp
        clear hla HN HE HO hT hrow
        go_wp2_with (refine wpList_string _ rfl _ rfl g cap (L.map UInt8.ofNat) (by rw [hlen2]; rfl) HTT.out ?_)
        go_ret
        exact ⟨by rw [HR.out]; rfl, HB.out⟩
    · have hml0 : 0 < (limbs m).length := by rw [limbs_pos h0]; simp
      have hI : (0 : Int) < ((limbs m).length : Nat) := by omega
      have HE1 : Hid (baseN B (m / B) ++ (ch hexB (m % B) :: L) = D) := by
        show _ = _
        rw [← HE.out, baseN_step hB h0, List.append_assoc]
        rfl
      have hmB : m % B < 16 := Nat.lt_of_lt_of_le (Nat.mod_lt _ (by omega)) hB2
      have hdm : m / B ≤ n := Nat.le_trans (Nat.div_le_self _ _) hm
      have HMX := Lib.hid hml
      generalize (limbs m).length = lm at *
      have HM2 := Lib.hid (fun W h => HDv.out (.slice a lm ca) h m W)
      clear hla hml h0
      go_wp2_with fail
      refine (HFr.out _).mono ?_
      rintro e w2 ⟨v2, rfl, hv2, hb2⟩
      have HV2 := Lib.hid hv2
      have HO2 := Lib.hid (HO.out.keep hb2 (Nat.le_refl _))
      have HN2 := Lib.hid (HN.out.below hb2)
      have HB2 := Lib.hid (HB.out.trans (hb2.mono hgs))
      clear hv2 hb2 HN HO HB
      go_wp2_with fail
      refine (HM2.out w2 v2 HN2.out HV2.out (HMO.out m hm)).mono ?_
      rintro e w3 ⟨vq, vr, rfl, hq, hr, hb3⟩
      have HO3 := Lib.hid (HO2.out.keep hb3 (Nat.le_refl _))
      have HB3 := Lib.hid (HB2.out.trans (hb3.mono HB2.out.size))
      have HQ := Lib.hid hq
      obtain ⟨aq, cq, rfl, _⟩ := hq
      obtain ⟨ar, cr, rfl, hlr⟩ := hr
      clear hb3 HN2 HV2 HO2 HB2 HM2
      have hgs3 := HB3.out.size
      obtain ⟨d, hd⟩ : ∃ d, d = m % B := ⟨_, rfl⟩
      rw [← hd] at HE1 hlr hmB ⊢
      have hd16 : (d : Int) < 16 := by omega
      have hcc : ∀ h, ((⟨#[48, 49, 50, 51, 52, 53, 54, 55, 56, 57, 97, 98, 99, 100, 101, 102]⟩ : ByteArray)[d]'h).toNat = ch hexB d := fun h => ch_in (s := hexB) h
      have hc256 := ch_lt hexB d
      obtain ⟨c, hce⟩ : ∃ c, c = ch hexB d := ⟨_, rfl⟩
      rw [← hce] at HE1 hcc hc256
      have HDd := Lib.hid hd
      have HCe := Lib.hid hce
      have hROW := rowB_one w3 c hc256
      have HROW := Lib.hid hROW
      clear hROW hd hce
      by_cases hz : d = 0
      · subst hz
        rw [show (limbs 0).length = 0 from by rw [limbs_zero]; rfl]
        clear hlr
        rcases HO3.out.slice with ⟨rfl, rfl⟩ | ⟨g, cap, rfl, hbg, hrow⟩
        · go_wp2_with fail
          go_roundw
          case rel => exact ⟨m / B, [c], HQ.out.below ((Below.refl w3.heap.size w3).alloc (Nat.le_refl _) _), HROW.out.own hgs3, HE1, HB3.out.alloc hgs3 _, hdm⟩
          case measure =>
            have := congrArg List.length HE1.out
            simp at this
            simp only [sliceLen]
            omega
        · have HRR := Lib.hid (hrow.below ((Below.refl w3.heap.size w3).alloc (Nat.le_refl _) (.cells #[.int .u8 (c : Nat)] 5)) hrow.ltg)
          clear hrow
          go_wp2_with (
            at_builtin
            go_loud (refine wpList_appBs _ rfl _ _ rfl w.heap.size _ [c] L rfl (HROW.out.own hgs3) g cap rfl HRR.out (by simp; omega) (by simp; omega) ?_)
            intro v1 w4 hown1 hgr1
            have HO4 := Lib.hid hown1
            have HB4 := Lib.hid ((HB3.out.alloc hgs3 _).grown hgr1 (by simp; omega) (fun x hx => ((HROW.out.own hgs3).own.lt x hx).1))
            have HQ4 := Lib.hid (HQ.out.below (((Below.refl w3.heap.size w3).alloc (Nat.le_refl _) _).grown hgr1 (by simp) (fun x hx => ((HROW.out.own (Nat.le_refl _)).own.lt x hx).1)))
            have HS4 : Hid (sliceLen v1 = L.length + 1) := by
              show _ = _
              rcases hown1.slice with ⟨_, h⟩ | ⟨g', cap', rfl, _, _⟩
              · cases h
              · simp [sliceLen]
            clear hown1 hgr1)
          go_wp2_with fail
          go_roundw
          case rel => exact ⟨m / B, c :: L, HQ4.out, HO4.out, HE1, HB4.out, hdm⟩
          case measure =>
            have h1 := congrArg List.length HE1.out
            simp at h1
            rw [HS4.out]
            simp only [sliceLen]
            omega
      · have hlz : limbs d = [d] := by rw [limbs_pos hz, Nat.mod_eq_of_lt (by unfold B32; omega), Nat.div_eq_of_lt (by unfold B32; omega), limbs_zero]
        rw [hlz] at hlr ⊢
        obtain ⟨br, off, rfl, hcr⟩ := hlr.at_ 0 (by simp)
        have hcr0 : w3.cell? ⟨br, off, none⟩ = some (.int .u32 (d : Nat)) := by simpa using hcr
        clear hlr hcr
        rcases HO3.out.slice with ⟨rfl, rfl⟩ | ⟨g, cap, rfl, hbg, hrow⟩
        · go_wp2_with fail
          go_roundw
          case rel => exact ⟨m / B, [c], HQ.out.below ((Below.refl w3.heap.size w3).alloc (Nat.le_refl _) _), HROW.out.own hgs3, HE1, HB3.out.alloc hgs3 _, hdm⟩
          case measure =>
            have := congrArg List.length HE1.out
            simp at this
            simp only [sliceLen]
            omega
        · have HRR := Lib.hid (hrow.below ((Below.refl w3.heap.size w3).alloc (Nat.le_refl _) (.cells #[.int .u8 (c : Nat)] 5)) hrow.ltg)
          clear hrow
          go_wp2_with (
            at_builtin
            go_loud (refine wpList_appBs _ rfl _ _ rfl w.heap.size _ [c] L rfl (HROW.out.own hgs3) g cap rfl HRR.out (by simp; omega) (by simp; omega) ?_)
            intro v1 w4 hown1 hgr1
            have HO4 := Lib.hid hown1
            have HB4 := Lib.hid ((HB3.out.alloc hgs3 _).grown hgr1 (by simp; omega) (fun x hx => ((HROW.out.own hgs3).own.lt x hx).1))
            have HQ4 := Lib.hid (HQ.out.below (((Below.refl w3.heap.size w3).alloc (Nat.le_refl _) _).grown hgr1 (by simp) (fun x hx => ((HROW.out.own (Nat.le_refl _)).own.lt x hx).1)))
            have HS4 : Hid (sliceLen v1 = L.length + 1) := by
              show _ = _
              rcases hown1.slice with ⟨_, h⟩ | ⟨g', cap', rfl, _, _⟩
              · cases h
              · simp [sliceLen]
            clear hown1 hgr1)
          go_wp2_with fail
          go_roundw
          case rel => exact ⟨m / B, c :: L, HQ4.out, HO4.out, HE1, HB4.out, hdm⟩
          case measure =>
            have h1 := congrArg List.length HE1.out
            simp at h1
            rw [HS4.out]
            simp only [sliceLen]
            omega
end Go.Proofs.YtfdnhkjeoeffoaaGreatDoor
end

section
/- A region that draws its order, with guards, by an invariant: each operation is walked once; what a guard passes over too. -/
namespace Go.Proofs.YtfdnhkjeoeffoaaGreatDoor
open Go.RowKit

theorem wp_region_guarded {P : Program} {ops : Array Oper} {Q : Exit → Act → World → Prop} {id : Nat} {a : Act} {w : World} (hm : P.follows .mixedOrders = true) (hord : orderedOps ops = true)
    (I : Act → World → (Nat → Bool) → Act → World → Prop) (h0 : I a w (fun _ => false) a w.drew)
    (hstep : AllOps (fun i o => ∀ (L : Nat → Bool) (a' : Act) (W : World), I a w L a' W → L i = false → (∀ j ∈ depsOf o, L j = true) → ∀ K : Act → World → Prop, (∀ a'' W', I a w (upd L i) a'' W' → K a'' W') →
      if Region.wanted o (yielded ops a'.tmps) = true then Oper.wp P o a' W K Q else K (a'.put o.dst undef) W) ops.toList 0)
    (hdone : ∀ (L : Nat → Bool) (a' : Act) (W : World), (∀ i, i < ops.size → L i = true) → I a w L a' W → Q .normal a' W) : (Code.region id ops true).wp P Q a w := by
  refine wp_region_inv hm hord (I a w) h0 ?_ hdone
  intro L a' W i o ho hI hL hd
  have ho' : ops.toList[i]? = some o := by simpa using ho
  have h := AllOps.get _ 0 i o hstep ho'
  rw [Nat.zero_add] at h
  have hdd : ∀ j ∈ depsOf o, L j = true := by
    intro j hj
    obtain ⟨e, he, rfl⟩ := List.mem_map.1 hj
    obtain ⟨he1, he2⟩ := List.mem_filter.1 he
    exact hd e (by simpa using he1) he2
  have h1 := h L a' W hI hL hdd (I a w (upd L i)) (fun _ _ h => h)
  unfold wpOp
  rw [ho]
  show if Region.wanted o (yielded ops a'.tmps) then _ else _
  by_cases hw : Region.wanted o (yielded ops a'.tmps) = true
  · rw [if_pos hw] at h1 ⊢
    exact .inl h1
  · rw [if_neg hw] at h1 ⊢
    exact h1
/-- u with the value of operation k -/
def withVal (u : Nat → Value) (k : Nat) (v : Value) : Nat → Value := fun i => if i = k then v else u i
theorem withVal_next {L : Nat → Bool} {u vals : Nat → Value} (E : Hid (∀ i, L i = true → u i = vals i)) (k : Nat) (v : Value) (hv : vals k = v) : Hid (∀ i, upd L k i = true → withVal u k v i = vals i) := by
  intro i hi
  unfold withVal
  by_cases h : i = k
  · rw [if_pos h, h, hv]
  · rw [if_neg h]
    rw [upd_other _ h] at hi
    exact E.out i hi
theorem withVal_same {L : Nat → Bool} {u vals : Nat → Value} (E : Hid (∀ i, L i = true → u i = vals i)) (k : Nat) (v : Value) (hv : vals k = v) : Hid (∀ i, L i = true → withVal u k v i = vals i) := by
  intro i hi
  unfold withVal
  by_cases h : i = k
  · rw [if_pos h, h, hv]
  · rw [if_neg h]
    exact E.out i hi
theorem ite_skip {c A B : Prop} [Decidable c] (hc : ¬ c) (h : B) : if c then A else B := by
  rw [if_neg hc]
  exact h
theorem ite_take {c A B : Prop} [Decidable c] (hc : c) (h : A) : if c then A else B := by
  rw [if_pos hc]
  exact h
/-- the i-th of a list of values -/
def valAt (l : List Value) (i : Nat) : Value := (l[i]?).getD undef
end Go.Proofs.YtfdnhkjeoeffoaaGreatDoor
end
