/- Package format: Number by the verbs of floats. -/
import Derived.Test.YtjldeckcfdeklaaGreatDoorW2
namespace Go.Proofs.YtjldeckcfdeklaaGreatDoor
open Go.RowKit
set_option linter.unusedVariables false

set_option maxHeartbeats 4000000 in
set_option maxRecDepth 1000000 in
theorem Number_101 (m p bl al z : Bool) (wd pr : Int) (b : Nat) (w : World) (hb : b < 18446744073709551616) (hf : fin b = true) (hp1 : -1 ≤ pr) (hp2 : pr ≤ 190) (hw : 0 ≤ wd) (hw2 : wd ≤ 1024) (hT : PowOk w) :
    Calls Tryz.prog 19 #[.agg (specA m p bl al z wd pr 101), .float .f64 b] w fun e w' => e = .returned (.tuple #[.string (floatO m p bl al z wd pr 101 b), .int .i64 0]) ∧ Below w.heap.size w w' := by
  have HT := Lib.hid hT
  have HFl := Lib.hid (fun W h => float_101 m p bl al z wd pr b W hb hf hp1 hp2 hw hw2 h)
  have HCk := Lib.hid (fun W => Check_ok m p bl al z wd pr 101 W (by
    unfold okS
    rw [show ixB verbsB 101 = 6 from by decide, decide_eq_true hw, decide_eq_true hw2, decide_eq_true hp1, decide_eq_true hp2]
    rfl))
  have HPt := Lib.hid (fun W => Parts_any b W hb)
  rw [hf] at HPt
  have HI1 : Hid (∀ W, Calls Tryz.prog 41 #[.string ⟨#[100, 105, 111, 120, 88, 117, 101, 69, 102, 70, 103, 71]⟩, .int .u8 101] W fun e w' => e = .returned (.int .i64 6) ∧ w' = W) := fun W => Tryz.strings_IndexByte ⟨#[100, 105, 111, 120, 88, 117, 101, 69, 102, 70, 103, 71]⟩ 101 W
  have HI2 : Hid (∀ W, Calls Tryz.prog 41 #[.string ⟨#[100, 105, 111, 120, 88, 117]⟩, .int .u8 101] W fun e w' => e = .returned (.int .i64 (-1)) ∧ w' = W) := fun W => Tryz.strings_IndexByte ⟨#[100, 105, 111, 120, 88, 117]⟩ 101 W
  generalize floatO m p bl al z wd pr 101 b = out at *
  unfold specA at HFl HCk ⊢
  clear hT hp1 hp2 hw hw2
  go_enter Tryz.func19, Tryz.ntmps19
  go_wp2_with fail
  refine (HCk.out _).mono ?_
  rintro e w1 ⟨rfl, hb1⟩
  have HB1 := Lib.hid (((Below.refl w.heap.size w).alloc (Nat.le_refl _) (.cells #[.bool m, .bool p, .bool bl, .bool al, .bool z, .int .i64 wd, .int .i64 pr, .int .u8 101] 24)).trans (hb1.mono (by simp)))
  have hsp : SpAt w1 w.heap.size #[.bool m, .bool p, .bool bl, .bool al, .bool z, .int .i64 wd, .int .i64 pr, .int .u8 101] := SpAt.next (heap_alloc_at w _) hb1
  have k0 : w1.cell? ⟨w.heap.size, 0, none⟩ = some (.bool m) := hsp.cell 0
  have k1 : w1.cell? ⟨w.heap.size, 1, none⟩ = some (.bool p) := hsp.cell 1
  have k2 : w1.cell? ⟨w.heap.size, 2, none⟩ = some (.bool bl) := hsp.cell 2
  have k3 : w1.cell? ⟨w.heap.size, 3, none⟩ = some (.bool al) := hsp.cell 3
  have k4 : w1.cell? ⟨w.heap.size, 4, none⟩ = some (.bool z) := hsp.cell 4
  have k5 : w1.cell? ⟨w.heap.size, 5, none⟩ = some (.int .i64 wd) := hsp.cell 5
  have k6 : w1.cell? ⟨w.heap.size, 6, none⟩ = some (.int .i64 pr) := hsp.cell 6
  have k7 : w1.cell? ⟨w.heap.size, 7, none⟩ = some (.int .u8 101) := hsp.cell 7
  clear hb1 hsp
  go_wp2_with fail
  refine (HI1.out _).mono ?_
  rintro e _ ⟨rfl, rfl⟩
  go_wp2_with fail
  refine (HPt.out _).mono ?_
  rintro e _ ⟨rfl, rfl⟩
  go_wp2_with fail
  refine (HI2.out _).mono ?_
  rintro e _ ⟨rfl, rfl⟩
  go_wp2_with fail
  refine (HFl.out _ (HT.out.below HB1.out)).mono ?_
  rintro e w2 ⟨rfl, hb2⟩
  have HB2 := Lib.hid (HB1.out.trans (hb2.mono HB1.out.size))
  clear hb2
  go_wp2_with fail
  go_ret2
  exact ⟨rfl, HB2.out⟩

set_option maxHeartbeats 4000000 in
set_option maxRecDepth 1000000 in
theorem Number_69 (m p bl al z : Bool) (wd pr : Int) (b : Nat) (w : World) (hb : b < 18446744073709551616) (hf : fin b = true) (hp1 : -1 ≤ pr) (hp2 : pr ≤ 190) (hw : 0 ≤ wd) (hw2 : wd ≤ 1024) (hT : PowOk w) :
    Calls Tryz.prog 19 #[.agg (specA m p bl al z wd pr 69), .float .f64 b] w fun e w' => e = .returned (.tuple #[.string (floatO m p bl al z wd pr 69 b), .int .i64 0]) ∧ Below w.heap.size w w' := by
  have HT := Lib.hid hT
  have HFl := Lib.hid (fun W h => float_69 m p bl al z wd pr b W hb hf hp1 hp2 hw hw2 h)
  have HCk := Lib.hid (fun W => Check_ok m p bl al z wd pr 69 W (by
    unfold okS
    rw [show ixB verbsB 69 = 7 from by decide, decide_eq_true hw, decide_eq_true hw2, decide_eq_true hp1, decide_eq_true hp2]
    rfl))
  have HPt := Lib.hid (fun W => Parts_any b W hb)
  rw [hf] at HPt
  have HI1 : Hid (∀ W, Calls Tryz.prog 41 #[.string ⟨#[100, 105, 111, 120, 88, 117, 101, 69, 102, 70, 103, 71]⟩, .int .u8 69] W fun e w' => e = .returned (.int .i64 7) ∧ w' = W) := fun W => Tryz.strings_IndexByte ⟨#[100, 105, 111, 120, 88, 117, 101, 69, 102, 70, 103, 71]⟩ 69 W
  have HI2 : Hid (∀ W, Calls Tryz.prog 41 #[.string ⟨#[100, 105, 111, 120, 88, 117]⟩, .int .u8 69] W fun e w' => e = .returned (.int .i64 (-1)) ∧ w' = W) := fun W => Tryz.strings_IndexByte ⟨#[100, 105, 111, 120, 88, 117]⟩ 69 W
  generalize floatO m p bl al z wd pr 69 b = out at *
  unfold specA at HFl HCk ⊢
  clear hT hp1 hp2 hw hw2
  go_enter Tryz.func19, Tryz.ntmps19
  go_wp2_with fail
  refine (HCk.out _).mono ?_
  rintro e w1 ⟨rfl, hb1⟩
  have HB1 := Lib.hid (((Below.refl w.heap.size w).alloc (Nat.le_refl _) (.cells #[.bool m, .bool p, .bool bl, .bool al, .bool z, .int .i64 wd, .int .i64 pr, .int .u8 69] 24)).trans (hb1.mono (by simp)))
  have hsp : SpAt w1 w.heap.size #[.bool m, .bool p, .bool bl, .bool al, .bool z, .int .i64 wd, .int .i64 pr, .int .u8 69] := SpAt.next (heap_alloc_at w _) hb1
  have k0 : w1.cell? ⟨w.heap.size, 0, none⟩ = some (.bool m) := hsp.cell 0
  have k1 : w1.cell? ⟨w.heap.size, 1, none⟩ = some (.bool p) := hsp.cell 1
  have k2 : w1.cell? ⟨w.heap.size, 2, none⟩ = some (.bool bl) := hsp.cell 2
  have k3 : w1.cell? ⟨w.heap.size, 3, none⟩ = some (.bool al) := hsp.cell 3
  have k4 : w1.cell? ⟨w.heap.size, 4, none⟩ = some (.bool z) := hsp.cell 4
  have k5 : w1.cell? ⟨w.heap.size, 5, none⟩ = some (.int .i64 wd) := hsp.cell 5
  have k6 : w1.cell? ⟨w.heap.size, 6, none⟩ = some (.int .i64 pr) := hsp.cell 6
  have k7 : w1.cell? ⟨w.heap.size, 7, none⟩ = some (.int .u8 69) := hsp.cell 7
  clear hb1 hsp
  go_wp2_with fail
  refine (HI1.out _).mono ?_
  rintro e _ ⟨rfl, rfl⟩
  go_wp2_with fail
  refine (HPt.out _).mono ?_
  rintro e _ ⟨rfl, rfl⟩
  go_wp2_with fail
  refine (HI2.out _).mono ?_
  rintro e _ ⟨rfl, rfl⟩
  go_wp2_with fail
  refine (HFl.out _ (HT.out.below HB1.out)).mono ?_
  rintro e w2 ⟨rfl, hb2⟩
  have HB2 := Lib.hid (HB1.out.trans (hb2.mono HB1.out.size))
  clear hb2
  go_wp2_with fail
  go_ret2
  exact ⟨rfl, HB2.out⟩

set_option maxHeartbeats 4000000 in
set_option maxRecDepth 1000000 in
theorem Number_102 (m p bl al z : Bool) (wd pr : Int) (b : Nat) (w : World) (hb : b < 18446744073709551616) (hf : fin b = true) (hp1 : -1 ≤ pr) (hp2 : pr ≤ 190) (hw : 0 ≤ wd) (hw2 : wd ≤ 1024) (hT : PowOk w) :
    Calls Tryz.prog 19 #[.agg (specA m p bl al z wd pr 102), .float .f64 b] w fun e w' => e = .returned (.tuple #[.string (floatO m p bl al z wd pr 102 b), .int .i64 0]) ∧ Below w.heap.size w w' := by
  have HT := Lib.hid hT
  have HFl := Lib.hid (fun W h => float_102 m p bl al z wd pr b W hb hf hp1 hp2 hw hw2 h)
  have HCk := Lib.hid (fun W => Check_ok m p bl al z wd pr 102 W (by
    unfold okS
    rw [show ixB verbsB 102 = 8 from by decide, decide_eq_true hw, decide_eq_true hw2, decide_eq_true hp1, decide_eq_true hp2]
    rfl))
  have HPt := Lib.hid (fun W => Parts_any b W hb)
  rw [hf] at HPt
  have HI1 : Hid (∀ W, Calls Tryz.prog 41 #[.string ⟨#[100, 105, 111, 120, 88, 117, 101, 69, 102, 70, 103, 71]⟩, .int .u8 102] W fun e w' => e = .returned (.int .i64 8) ∧ w' = W) := fun W => Tryz.strings_IndexByte ⟨#[100, 105, 111, 120, 88, 117, 101, 69, 102, 70, 103, 71]⟩ 102 W
  have HI2 : Hid (∀ W, Calls Tryz.prog 41 #[.string ⟨#[100, 105, 111, 120, 88, 117]⟩, .int .u8 102] W fun e w' => e = .returned (.int .i64 (-1)) ∧ w' = W) := fun W => Tryz.strings_IndexByte ⟨#[100, 105, 111, 120, 88, 117]⟩ 102 W
  generalize floatO m p bl al z wd pr 102 b = out at *
  unfold specA at HFl HCk ⊢
  clear hT hp1 hp2 hw hw2
  go_enter Tryz.func19, Tryz.ntmps19
  go_wp2_with fail
  refine (HCk.out _).mono ?_
  rintro e w1 ⟨rfl, hb1⟩
  have HB1 := Lib.hid (((Below.refl w.heap.size w).alloc (Nat.le_refl _) (.cells #[.bool m, .bool p, .bool bl, .bool al, .bool z, .int .i64 wd, .int .i64 pr, .int .u8 102] 24)).trans (hb1.mono (by simp)))
  have hsp : SpAt w1 w.heap.size #[.bool m, .bool p, .bool bl, .bool al, .bool z, .int .i64 wd, .int .i64 pr, .int .u8 102] := SpAt.next (heap_alloc_at w _) hb1
  have k0 : w1.cell? ⟨w.heap.size, 0, none⟩ = some (.bool m) := hsp.cell 0
  have k1 : w1.cell? ⟨w.heap.size, 1, none⟩ = some (.bool p) := hsp.cell 1
  have k2 : w1.cell? ⟨w.heap.size, 2, none⟩ = some (.bool bl) := hsp.cell 2
  have k3 : w1.cell? ⟨w.heap.size, 3, none⟩ = some (.bool al) := hsp.cell 3
  have k4 : w1.cell? ⟨w.heap.size, 4, none⟩ = some (.bool z) := hsp.cell 4
  have k5 : w1.cell? ⟨w.heap.size, 5, none⟩ = some (.int .i64 wd) := hsp.cell 5
  have k6 : w1.cell? ⟨w.heap.size, 6, none⟩ = some (.int .i64 pr) := hsp.cell 6
  have k7 : w1.cell? ⟨w.heap.size, 7, none⟩ = some (.int .u8 102) := hsp.cell 7
  clear hb1 hsp
  go_wp2_with fail
  refine (HI1.out _).mono ?_
  rintro e _ ⟨rfl, rfl⟩
  go_wp2_with fail
  refine (HPt.out _).mono ?_
  rintro e _ ⟨rfl, rfl⟩
  go_wp2_with fail
  refine (HI2.out _).mono ?_
  rintro e _ ⟨rfl, rfl⟩
  go_wp2_with fail
  refine (HFl.out _ (HT.out.below HB1.out)).mono ?_
  rintro e w2 ⟨rfl, hb2⟩
  have HB2 := Lib.hid (HB1.out.trans (hb2.mono HB1.out.size))
  clear hb2
  go_wp2_with fail
  go_ret2
  exact ⟨rfl, HB2.out⟩

set_option maxHeartbeats 4000000 in
set_option maxRecDepth 1000000 in
theorem Number_70 (m p bl al z : Bool) (wd pr : Int) (b : Nat) (w : World) (hb : b < 18446744073709551616) (hf : fin b = true) (hp1 : -1 ≤ pr) (hp2 : pr ≤ 190) (hw : 0 ≤ wd) (hw2 : wd ≤ 1024) (hT : PowOk w) :
    Calls Tryz.prog 19 #[.agg (specA m p bl al z wd pr 70), .float .f64 b] w fun e w' => e = .returned (.tuple #[.string (floatO m p bl al z wd pr 70 b), .int .i64 0]) ∧ Below w.heap.size w w' := by
  have HT := Lib.hid hT
  have HFl := Lib.hid (fun W h => float_70 m p bl al z wd pr b W hb hf hp1 hp2 hw hw2 h)
  have HCk := Lib.hid (fun W => Check_ok m p bl al z wd pr 70 W (by
    unfold okS
    rw [show ixB verbsB 70 = 9 from by decide, decide_eq_true hw, decide_eq_true hw2, decide_eq_true hp1, decide_eq_true hp2]
    rfl))
  have HPt := Lib.hid (fun W => Parts_any b W hb)
  rw [hf] at HPt
  have HI1 : Hid (∀ W, Calls Tryz.prog 41 #[.string ⟨#[100, 105, 111, 120, 88, 117, 101, 69, 102, 70, 103, 71]⟩, .int .u8 70] W fun e w' => e = .returned (.int .i64 9) ∧ w' = W) := fun W => Tryz.strings_IndexByte ⟨#[100, 105, 111, 120, 88, 117, 101, 69, 102, 70, 103, 71]⟩ 70 W
  have HI2 : Hid (∀ W, Calls Tryz.prog 41 #[.string ⟨#[100, 105, 111, 120, 88, 117]⟩, .int .u8 70] W fun e w' => e = .returned (.int .i64 (-1)) ∧ w' = W) := fun W => Tryz.strings_IndexByte ⟨#[100, 105, 111, 120, 88, 117]⟩ 70 W
  generalize floatO m p bl al z wd pr 70 b = out at *
  unfold specA at HFl HCk ⊢
  clear hT hp1 hp2 hw hw2
  go_enter Tryz.func19, Tryz.ntmps19
  go_wp2_with fail
  refine (HCk.out _).mono ?_
  rintro e w1 ⟨rfl, hb1⟩
  have HB1 := Lib.hid (((Below.refl w.heap.size w).alloc (Nat.le_refl _) (.cells #[.bool m, .bool p, .bool bl, .bool al, .bool z, .int .i64 wd, .int .i64 pr, .int .u8 70] 24)).trans (hb1.mono (by simp)))
  have hsp : SpAt w1 w.heap.size #[.bool m, .bool p, .bool bl, .bool al, .bool z, .int .i64 wd, .int .i64 pr, .int .u8 70] := SpAt.next (heap_alloc_at w _) hb1
  have k0 : w1.cell? ⟨w.heap.size, 0, none⟩ = some (.bool m) := hsp.cell 0
  have k1 : w1.cell? ⟨w.heap.size, 1, none⟩ = some (.bool p) := hsp.cell 1
  have k2 : w1.cell? ⟨w.heap.size, 2, none⟩ = some (.bool bl) := hsp.cell 2
  have k3 : w1.cell? ⟨w.heap.size, 3, none⟩ = some (.bool al) := hsp.cell 3
  have k4 : w1.cell? ⟨w.heap.size, 4, none⟩ = some (.bool z) := hsp.cell 4
  have k5 : w1.cell? ⟨w.heap.size, 5, none⟩ = some (.int .i64 wd) := hsp.cell 5
  have k6 : w1.cell? ⟨w.heap.size, 6, none⟩ = some (.int .i64 pr) := hsp.cell 6
  have k7 : w1.cell? ⟨w.heap.size, 7, none⟩ = some (.int .u8 70) := hsp.cell 7
  clear hb1 hsp
  go_wp2_with fail
  refine (HI1.out _).mono ?_
  rintro e _ ⟨rfl, rfl⟩
  go_wp2_with fail
  refine (HPt.out _).mono ?_
  rintro e _ ⟨rfl, rfl⟩
  go_wp2_with fail
  refine (HI2.out _).mono ?_
  rintro e _ ⟨rfl, rfl⟩
  go_wp2_with fail
  refine (HFl.out _ (HT.out.below HB1.out)).mono ?_
  rintro e w2 ⟨rfl, hb2⟩
  have HB2 := Lib.hid (HB1.out.trans (hb2.mono HB1.out.size))
  clear hb2
  go_wp2_with fail
  go_ret2
  exact ⟨rfl, HB2.out⟩

set_option maxHeartbeats 4000000 in
set_option maxRecDepth 1000000 in
theorem Number_103 (m p bl al z : Bool) (wd pr : Int) (b : Nat) (w : World) (hb : b < 18446744073709551616) (hf : fin b = true) (hp1 : -1 ≤ pr) (hp2 : pr ≤ 190) (hw : 0 ≤ wd) (hw2 : wd ≤ 1024) (hT : PowOk w) :
    Calls Tryz.prog 19 #[.agg (specA m p bl al z wd pr 103), .float .f64 b] w fun e w' => e = .returned (.tuple #[.string (floatO m p bl al z wd pr 103 b), .int .i64 0]) ∧ Below w.heap.size w w' := by
  have HT := Lib.hid hT
  have HFl := Lib.hid (fun W h => float_103 m p bl al z wd pr b W hb hf hp1 hp2 hw hw2 h)
  have HCk := Lib.hid (fun W => Check_ok m p bl al z wd pr 103 W (by
    unfold okS
    rw [show ixB verbsB 103 = 10 from by decide, decide_eq_true hw, decide_eq_true hw2, decide_eq_true hp1, decide_eq_true hp2]
    rfl))
  have HPt := Lib.hid (fun W => Parts_any b W hb)
  rw [hf] at HPt
  have HI1 : Hid (∀ W, Calls Tryz.prog 41 #[.string ⟨#[100, 105, 111, 120, 88, 117, 101, 69, 102, 70, 103, 71]⟩, .int .u8 103] W fun e w' => e = .returned (.int .i64 10) ∧ w' = W) := fun W => Tryz.strings_IndexByte ⟨#[100, 105, 111, 120, 88, 117, 101, 69, 102, 70, 103, 71]⟩ 103 W
  have HI2 : Hid (∀ W, Calls Tryz.prog 41 #[.string ⟨#[100, 105, 111, 120, 88, 117]⟩, .int .u8 103] W fun e w' => e = .returned (.int .i64 (-1)) ∧ w' = W) := fun W => Tryz.strings_IndexByte ⟨#[100, 105, 111, 120, 88, 117]⟩ 103 W
  generalize floatO m p bl al z wd pr 103 b = out at *
  unfold specA at HFl HCk ⊢
  clear hT hp1 hp2 hw hw2
  go_enter Tryz.func19, Tryz.ntmps19
  go_wp2_with fail
  refine (HCk.out _).mono ?_
  rintro e w1 ⟨rfl, hb1⟩
  have HB1 := Lib.hid (((Below.refl w.heap.size w).alloc (Nat.le_refl _) (.cells #[.bool m, .bool p, .bool bl, .bool al, .bool z, .int .i64 wd, .int .i64 pr, .int .u8 103] 24)).trans (hb1.mono (by simp)))
  have hsp : SpAt w1 w.heap.size #[.bool m, .bool p, .bool bl, .bool al, .bool z, .int .i64 wd, .int .i64 pr, .int .u8 103] := SpAt.next (heap_alloc_at w _) hb1
  have k0 : w1.cell? ⟨w.heap.size, 0, none⟩ = some (.bool m) := hsp.cell 0
  have k1 : w1.cell? ⟨w.heap.size, 1, none⟩ = some (.bool p) := hsp.cell 1
  have k2 : w1.cell? ⟨w.heap.size, 2, none⟩ = some (.bool bl) := hsp.cell 2
  have k3 : w1.cell? ⟨w.heap.size, 3, none⟩ = some (.bool al) := hsp.cell 3
  have k4 : w1.cell? ⟨w.heap.size, 4, none⟩ = some (.bool z) := hsp.cell 4
  have k5 : w1.cell? ⟨w.heap.size, 5, none⟩ = some (.int .i64 wd) := hsp.cell 5
  have k6 : w1.cell? ⟨w.heap.size, 6, none⟩ = some (.int .i64 pr) := hsp.cell 6
  have k7 : w1.cell? ⟨w.heap.size, 7, none⟩ = some (.int .u8 103) := hsp.cell 7
  clear hb1 hsp
  go_wp2_with fail
  refine (HI1.out _).mono ?_
  rintro e _ ⟨rfl, rfl⟩
  go_wp2_with fail
  refine (HPt.out _).mono ?_
  rintro e _ ⟨rfl, rfl⟩
  go_wp2_with fail
  refine (HI2.out _).mono ?_
  rintro e _ ⟨rfl, rfl⟩
  go_wp2_with fail
  refine (HFl.out _ (HT.out.below HB1.out)).mono ?_
  rintro e w2 ⟨rfl, hb2⟩
  have HB2 := Lib.hid (HB1.out.trans (hb2.mono HB1.out.size))
  clear hb2
  go_wp2_with fail
  go_ret2
  exact ⟨rfl, HB2.out⟩

set_option maxHeartbeats 4000000 in
set_option maxRecDepth 1000000 in
theorem Number_71 (m p bl al z : Bool) (wd pr : Int) (b : Nat) (w : World) (hb : b < 18446744073709551616) (hf : fin b = true) (hp1 : -1 ≤ pr) (hp2 : pr ≤ 190) (hw : 0 ≤ wd) (hw2 : wd ≤ 1024) (hT : PowOk w) :
    Calls Tryz.prog 19 #[.agg (specA m p bl al z wd pr 71), .float .f64 b] w fun e w' => e = .returned (.tuple #[.string (floatO m p bl al z wd pr 71 b), .int .i64 0]) ∧ Below w.heap.size w w' := by
  have HT := Lib.hid hT
  have HFl := Lib.hid (fun W h => float_71 m p bl al z wd pr b W hb hf hp1 hp2 hw hw2 h)
  have HCk := Lib.hid (fun W => Check_ok m p bl al z wd pr 71 W (by
    unfold okS
    rw [show ixB verbsB 71 = 11 from by decide, decide_eq_true hw, decide_eq_true hw2, decide_eq_true hp1, decide_eq_true hp2]
    rfl))
  have HPt := Lib.hid (fun W => Parts_any b W hb)
  rw [hf] at HPt
  have HI1 : Hid (∀ W, Calls Tryz.prog 41 #[.string ⟨#[100, 105, 111, 120, 88, 117, 101, 69, 102, 70, 103, 71]⟩, .int .u8 71] W fun e w' => e = .returned (.int .i64 11) ∧ w' = W) := fun W => Tryz.strings_IndexByte ⟨#[100, 105, 111, 120, 88, 117, 101, 69, 102, 70, 103, 71]⟩ 71 W
  have HI2 : Hid (∀ W, Calls Tryz.prog 41 #[.string ⟨#[100, 105, 111, 120, 88, 117]⟩, .int .u8 71] W fun e w' => e = .returned (.int .i64 (-1)) ∧ w' = W) := fun W => Tryz.strings_IndexByte ⟨#[100, 105, 111, 120, 88, 117]⟩ 71 W
  generalize floatO m p bl al z wd pr 71 b = out at *
  unfold specA at HFl HCk ⊢
  clear hT hp1 hp2 hw hw2
  go_enter Tryz.func19, Tryz.ntmps19
  go_wp2_with fail
  refine (HCk.out _).mono ?_
  rintro e w1 ⟨rfl, hb1⟩
  have HB1 := Lib.hid (((Below.refl w.heap.size w).alloc (Nat.le_refl _) (.cells #[.bool m, .bool p, .bool bl, .bool al, .bool z, .int .i64 wd, .int .i64 pr, .int .u8 71] 24)).trans (hb1.mono (by simp)))
  have hsp : SpAt w1 w.heap.size #[.bool m, .bool p, .bool bl, .bool al, .bool z, .int .i64 wd, .int .i64 pr, .int .u8 71] := SpAt.next (heap_alloc_at w _) hb1
  have k0 : w1.cell? ⟨w.heap.size, 0, none⟩ = some (.bool m) := hsp.cell 0
  have k1 : w1.cell? ⟨w.heap.size, 1, none⟩ = some (.bool p) := hsp.cell 1
  have k2 : w1.cell? ⟨w.heap.size, 2, none⟩ = some (.bool bl) := hsp.cell 2
  have k3 : w1.cell? ⟨w.heap.size, 3, none⟩ = some (.bool al) := hsp.cell 3
  have k4 : w1.cell? ⟨w.heap.size, 4, none⟩ = some (.bool z) := hsp.cell 4
  have k5 : w1.cell? ⟨w.heap.size, 5, none⟩ = some (.int .i64 wd) := hsp.cell 5
  have k6 : w1.cell? ⟨w.heap.size, 6, none⟩ = some (.int .i64 pr) := hsp.cell 6
  have k7 : w1.cell? ⟨w.heap.size, 7, none⟩ = some (.int .u8 71) := hsp.cell 7
  clear hb1 hsp
  go_wp2_with fail
  refine (HI1.out _).mono ?_
  rintro e _ ⟨rfl, rfl⟩
  go_wp2_with fail
  refine (HPt.out _).mono ?_
  rintro e _ ⟨rfl, rfl⟩
  go_wp2_with fail
  refine (HI2.out _).mono ?_
  rintro e _ ⟨rfl, rfl⟩
  go_wp2_with fail
  refine (HFl.out _ (HT.out.below HB1.out)).mono ?_
  rintro e w2 ⟨rfl, hb2⟩
  have HB2 := Lib.hid (HB1.out.trans (hb2.mono HB1.out.size))
  clear hb2
  go_wp2_with fail
  go_ret2
  exact ⟨rfl, HB2.out⟩

end Go.Proofs.YtjldeckcfdeklaaGreatDoor
