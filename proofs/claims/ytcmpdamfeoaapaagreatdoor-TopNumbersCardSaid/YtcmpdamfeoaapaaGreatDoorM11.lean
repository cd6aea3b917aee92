/- Several texts in one (W4, P18, U5, P9, P19, P22, AW0, AW1, AW2, W5, W6, W7). -/
import Derived.Test.YtcmpdamfeoaapaaGreatDoorM10
import Derived.Test.YtcmpdamfeoaapaaGreatDoorM8
import Derived.Test.YtcmpdamfeoaapaaGreatDoorM7
import Derived.Test.YtcmpdamfeoaapaaGreatDoorM9
import Derived.Deep.RegionHeld3
import Derived.Test.YtcmpdamfeoaapaaGreatDoorCards
import Derived.Test.YtcmpdamfeoaapaaGreatDoorTie
import Derived.Test.YtcmpdamfeoaapaaGreatDoorShelf
import Derived.WalkKit
import Derived.ProofKit
import Derived.OpenShut
import Derived.ShutString
import Derived.Deep.DeepHandedRow
import Derived.Deep.DeepLaidRun
import Derived.LaidSub
import Derived.Deep.DeepWitnessRowRef
import Derived.Lib.LaidU8
import Derived.Lib.LaidCaseMet
import Derived.Test.YtcmpdamfeoaapaaGreatDoorM5
import Derived.Stop.LaidErr
import Derived.Test.YtcmpdamfeoaapaaGreatDoorM6
section
/- Package format: Number by the verbs of floats. -/
namespace Go.Proofs.YtcmpdamfeoaapaaGreatDoor
open Go.RowKit
set_option linter.unusedVariables false

set_option maxHeartbeats 4000000 in
set_option maxRecDepth 1000000 in
theorem Number_101 (m p bl al z : Bool) (wd pr : Int) (b : Nat) (w : World) (hb : b < 18446744073709551616) (hf : fin b = true) (hp1 : -1 ≤ pr) (hp2 : pr ≤ 190) (hw : 0 ≤ wd) (hw2 : wd ≤ 1024) (hT : PowOk w) :
    Calls Tryz.prog 21 #[.agg (specA m p bl al z wd pr 101), .float .f64 b] w fun e w' => e = .returned (.tuple #[.string (floatO m p bl al z wd pr 101 b), .int .i64 0]) ∧ Below w.heap.size w w' := by
  have HT := Lib.hid hT
  have HFl := Lib.hid (fun W h => float_101 m p bl al z wd pr b W hb hf hp1 hp2 hw hw2 h)
  have HCk := Lib.hid (fun W => Check_ok m p bl al z wd pr 101 W (by
    unfold okS
    rw [show ixB verbsB 101 = 6 from by decide, decide_eq_true hw, decide_eq_true hw2, decide_eq_true hp1, decide_eq_true hp2]
    rfl))
  have HPt := Lib.hid (fun W => Parts_any b W hb)
  rw [hf] at HPt
  have HI1 : Hid (∀ W, Calls Tryz.prog 58 #[.string ⟨#[100, 105, 111, 120, 88, 117, 101, 69, 102, 70, 103, 71]⟩, .int .u8 101] W fun e w' => e = .returned (.int .i64 6) ∧ w' = W) := fun W => Tryz.strings_IndexByte ⟨#[100, 105, 111, 120, 88, 117, 101, 69, 102, 70, 103, 71]⟩ 101 W
  have HI2 : Hid (∀ W, Calls Tryz.prog 58 #[.string ⟨#[100, 105, 111, 120, 88, 117]⟩, .int .u8 101] W fun e w' => e = .returned (.int .i64 (-1)) ∧ w' = W) := fun W => Tryz.strings_IndexByte ⟨#[100, 105, 111, 120, 88, 117]⟩ 101 W
  generalize floatO m p bl al z wd pr 101 b = out at *
  unfold specA at HFl HCk ⊢
  clear hT hp1 hp2 hw hw2
  go_enter Tryz.func21, Tryz.ntmps21
  go_wp2_with fail
  refine (HCk.out _).mono ?_
  rintro e w1 ⟨rfl, hb1⟩
  have HB1 := Lib.hid (((Below.refl w.heap.size w).alloc (Nat.le_refl _) (.cells #[.bool m, .bool p, .bool bl, .bool al, .bool z, .int .i64 wd, .int .i64 pr, .int .u8 101] 30)).trans (hb1.mono (by simp)))
  have hsp : SpAt w1 w.heap.size #[.bool m, .bool p, .bool bl, .bool al, .bool z, .int .i64 wd, .int .i64 pr, .int .u8 101] := SpAt.next (heap_alloc_at w _) hb1
  have k0 : w1.cell? ⟨w.heap.size, 0, none⟩ = some (.bool m) := hsp.cell 0
  have k1 : w1.cell? ⟨w.heap.size, 1, none⟩ = some (.bool p) := hsp.cell 1
  have k2 : w1.cell? ⟨w.heap.size, 2, none⟩ = some (.bool bl) := hsp.cell 2
  have k3 : w1.cell? ⟨w.heap.size, 3, none⟩ = some (.bool al) := hsp.cell 3
  have k4 : w1.cell? ⟨w.heap.size, 4, none⟩ = some (.bool z) := hsp.cell 4
  have k5 : w1.cell? ⟨w.heap.size, 5, none⟩ = some (.int .i64 wd) := hsp.cell 5
  have k6 : w1.cell? ⟨w.heap.size, 6, none⟩ = some (.int .i64 pr) := hsp.cell 6
  have k7 : w1.cell? ⟨w.heap.size, 7, none⟩ = some (.int .u8 101) := hsp.cell 7
  clear hb1 hsp
  go_wp2_with fail
  refine (HI1.out _).mono ?_
  rintro e _ ⟨rfl, rfl⟩
  go_wp2_with fail
  refine (HPt.out _).mono ?_
  rintro e _ ⟨rfl, rfl⟩
  go_wp2_with fail
  refine (HI2.out _).mono ?_
  rintro e _ ⟨rfl, rfl⟩
  go_wp2_with fail
  refine (HFl.out _ (HT.out.below HB1.out)).mono ?_
  rintro e w2 ⟨rfl, hb2⟩
  have HB2 := Lib.hid (HB1.out.trans (hb2.mono HB1.out.size))
  clear hb2
  go_wp2_with fail
  go_ret2
  exact ⟨rfl, HB2.out⟩

set_option maxHeartbeats 4000000 in
set_option maxRecDepth 1000000 in
theorem Number_69 (m p bl al z : Bool) (wd pr : Int) (b : Nat) (w : World) (hb : b < 18446744073709551616) (hf : fin b = true) (hp1 : -1 ≤ pr) (hp2 : pr ≤ 190) (hw : 0 ≤ wd) (hw2 : wd ≤ 1024) (hT : PowOk w) :
    Calls Tryz.prog 21 #[.agg (specA m p bl al z wd pr 69), .float .f64 b] w fun e w' => e = .returned (.tuple #[.string (floatO m p bl al z wd pr 69 b), .int .i64 0]) ∧ Below w.heap.size w w' := by
  have HT := Lib.hid hT
  have HFl := Lib.hid (fun W h => float_69 m p bl al z wd pr b W hb hf hp1 hp2 hw hw2 h)
  have HCk := Lib.hid (fun W => Check_ok m p bl al z wd pr 69 W (by
    unfold okS
    rw [show ixB verbsB 69 = 7 from by decide, decide_eq_true hw, decide_eq_true hw2, decide_eq_true hp1, decide_eq_true hp2]
    rfl))
  have HPt := Lib.hid (fun W => Parts_any b W hb)
  rw [hf] at HPt
  have HI1 : Hid (∀ W, Calls Tryz.prog 58 #[.string ⟨#[100, 105, 111, 120, 88, 117, 101, 69, 102, 70, 103, 71]⟩, .int .u8 69] W fun e w' => e = .returned (.int .i64 7) ∧ w' = W) := fun W => Tryz.strings_IndexByte ⟨#[100, 105, 111, 120, 88, 117, 101, 69, 102, 70, 103, 71]⟩ 69 W
  have HI2 : Hid (∀ W, Calls Tryz.prog 58 #[.string ⟨#[100, 105, 111, 120, 88, 117]⟩, .int .u8 69] W fun e w' => e = .returned (.int .i64 (-1)) ∧ w' = W) := fun W => Tryz.strings_IndexByte ⟨#[100, 105, 111, 120, 88, 117]⟩ 69 W
  generalize floatO m p bl al z wd pr 69 b = out at *
  unfold specA at HFl HCk ⊢
  clear hT hp1 hp2 hw hw2
  go_enter Tryz.func21, Tryz.ntmps21
  go_wp2_with fail
  refine (HCk.out _).mono ?_
  rintro e w1 ⟨rfl, hb1⟩
  have HB1 := Lib.hid (((Below.refl w.heap.size w).alloc (Nat.le_refl _) (.cells #[.bool m, .bool p, .bool bl, .bool al, .bool z, .int .i64 wd, .int .i64 pr, .int .u8 69] 30)).trans (hb1.mono (by simp)))
  have hsp : SpAt w1 w.heap.size #[.bool m, .bool p, .bool bl, .bool al, .bool z, .int .i64 wd, .int .i64 pr, .int .u8 69] := SpAt.next (heap_alloc_at w _) hb1
  have k0 : w1.cell? ⟨w.heap.size, 0, none⟩ = some (.bool m) := hsp.cell 0
  have k1 : w1.cell? ⟨w.heap.size, 1, none⟩ = some (.bool p) := hsp.cell 1
  have k2 : w1.cell? ⟨w.heap.size, 2, none⟩ = some (.bool bl) := hsp.cell 2
  have k3 : w1.cell? ⟨w.heap.size, 3, none⟩ = some (.bool al) := hsp.cell 3
  have k4 : w1.cell? ⟨w.heap.size, 4, none⟩ = some (.bool z) := hsp.cell 4
  have k5 : w1.cell? ⟨w.heap.size, 5, none⟩ = some (.int .i64 wd) := hsp.cell 5
  have k6 : w1.cell? ⟨w.heap.size, 6, none⟩ = some (.int .i64 pr) := hsp.cell 6
  have k7 : w1.cell? ⟨w.heap.size, 7, none⟩ = some (.int .u8 69) := hsp.cell 7
  clear hb1 hsp
  go_wp2_with fail
  refine (HI1.out _).mono ?_
  rintro e _ ⟨rfl, rfl⟩
  go_wp2_with fail
  refine (HPt.out _).mono ?_
  rintro e _ ⟨rfl, rfl⟩
  go_wp2_with fail
  refine (HI2.out _).mono ?_
  rintro e _ ⟨rfl, rfl⟩
  go_wp2_with fail
  refine (HFl.out _ (HT.out.below HB1.out)).mono ?_
  rintro e w2 ⟨rfl, hb2⟩
  have HB2 := Lib.hid (HB1.out.trans (hb2.mono HB1.out.size))
  clear hb2
  go_wp2_with fail
  go_ret2
  exact ⟨rfl, HB2.out⟩

set_option maxHeartbeats 4000000 in
set_option maxRecDepth 1000000 in
theorem Number_102 (m p bl al z : Bool) (wd pr : Int) (b : Nat) (w : World) (hb : b < 18446744073709551616) (hf : fin b = true) (hp1 : -1 ≤ pr) (hp2 : pr ≤ 190) (hw : 0 ≤ wd) (hw2 : wd ≤ 1024) (hT : PowOk w) :
    Calls Tryz.prog 21 #[.agg (specA m p bl al z wd pr 102), .float .f64 b] w fun e w' => e = .returned (.tuple #[.string (floatO m p bl al z wd pr 102 b), .int .i64 0]) ∧ Below w.heap.size w w' := by
  have HT := Lib.hid hT
  have HFl := Lib.hid (fun W h => float_102 m p bl al z wd pr b W hb hf hp1 hp2 hw hw2 h)
  have HCk := Lib.hid (fun W => Check_ok m p bl al z wd pr 102 W (by
    unfold okS
    rw [show ixB verbsB 102 = 8 from by decide, decide_eq_true hw, decide_eq_true hw2, decide_eq_true hp1, decide_eq_true hp2]
    rfl))
  have HPt := Lib.hid (fun W => Parts_any b W hb)
  rw [hf] at HPt
  have HI1 : Hid (∀ W, Calls Tryz.prog 58 #[.string ⟨#[100, 105, 111, 120, 88, 117, 101, 69, 102, 70, 103, 71]⟩, .int .u8 102] W fun e w' => e = .returned (.int .i64 8) ∧ w' = W) := fun W => Tryz.strings_IndexByte ⟨#[100, 105, 111, 120, 88, 117, 101, 69, 102, 70, 103, 71]⟩ 102 W
  have HI2 : Hid (∀ W, Calls Tryz.prog 58 #[.string ⟨#[100, 105, 111, 120, 88, 117]⟩, .int .u8 102] W fun e w' => e = .returned (.int .i64 (-1)) ∧ w' = W) := fun W => Tryz.strings_IndexByte ⟨#[100, 105, 111, 120, 88, 117]⟩ 102 W
  generalize floatO m p bl al z wd pr 102 b = out at *
  unfold specA at HFl HCk ⊢
  clear hT hp1 hp2 hw hw2
  go_enter Tryz.func21, Tryz.ntmps21
  go_wp2_with fail
  refine (HCk.out _).mono ?_
  rintro e w1 ⟨rfl, hb1⟩
  have HB1 := Lib.hid (((Below.refl w.heap.size w).alloc (Nat.le_refl _) (.cells #[.bool m, .bool p, .bool bl, .bool al, .bool z, .int .i64 wd, .int .i64 pr, .int .u8 102] 30)).trans (hb1.mono (by simp)))
  have hsp : SpAt w1 w.heap.size #[.bool m, .bool p, .bool bl, .bool al, .bool z, .int .i64 wd, .int .i64 pr, .int .u8 102] := SpAt.next (heap_alloc_at w _) hb1
  have k0 : w1.cell? ⟨w.heap.size, 0, none⟩ = some (.bool m) := hsp.cell 0
  have k1 : w1.cell? ⟨w.heap.size, 1, none⟩ = some (.bool p) := hsp.cell 1
  have k2 : w1.cell? ⟨w.heap.size, 2, none⟩ = some (.bool bl) := hsp.cell 2
  have k3 : w1.cell? ⟨w.heap.size, 3, none⟩ = some (.bool al) := hsp.cell 3
  have k4 : w1.cell? ⟨w.heap.size, 4, none⟩ = some (.bool z) := hsp.cell 4
  have k5 : w1.cell? ⟨w.heap.size, 5, none⟩ = some (.int .i64 wd) := hsp.cell 5
  have k6 : w1.cell? ⟨w.heap.size, 6, none⟩ = some (.int .i64 pr) := hsp.cell 6
  have k7 : w1.cell? ⟨w.heap.size, 7, none⟩ = some (.int .u8 102) := hsp.cell 7
  clear hb1 hsp
  go_wp2_with fail
  refine (HI1.out _).mono ?_
  rintro e _ ⟨rfl, rfl⟩
  go_wp2_with fail
  refine (HPt.out _).mono ?_
  rintro e _ ⟨rfl, rfl⟩
  go_wp2_with fail
  refine (HI2.out _).mono ?_
  rintro e _ ⟨rfl, rfl⟩
  go_wp2_with fail
  refine (HFl.out _ (HT.out.below HB1.out)).mono ?_
  rintro e w2 ⟨rfl, hb2⟩
  have HB2 := Lib.hid (HB1.out.trans (hb2.mono HB1.out.size))
  clear hb2
  go_wp2_with fail
  go_ret2
  exact ⟨rfl, HB2.out⟩

set_option maxHeartbeats 4000000 in
set_option maxRecDepth 1000000 in
theorem Number_70 (m p bl al z : Bool) (wd pr : Int) (b : Nat) (w : World) (hb : b < 18446744073709551616) (hf : fin b = true) (hp1 : -1 ≤ pr) (hp2 : pr ≤ 190) (hw : 0 ≤ wd) (hw2 : wd ≤ 1024) (hT : PowOk w) :
    Calls Tryz.prog 21 #[.agg (specA m p bl al z wd pr 70), .float .f64 b] w fun e w' => e = .returned (.tuple #[.string (floatO m p bl al z wd pr 70 b), .int .i64 0]) ∧ Below w.heap.size w w' := by
  have HT := Lib.hid hT
  have HFl := Lib.hid (fun W h => float_70 m p bl al z wd pr b W hb hf hp1 hp2 hw hw2 h)
  have HCk := Lib.hid (fun W => Check_ok m p bl al z wd pr 70 W (by
    unfold okS
    rw [show ixB verbsB 70 = 9 from by decide, decide_eq_true hw, decide_eq_true hw2, decide_eq_true hp1, decide_eq_true hp2]
    rfl))
  have HPt := Lib.hid (fun W => Parts_any b W hb)
  rw [hf] at HPt
  have HI1 : Hid (∀ W, Calls Tryz.prog 58 #[.string ⟨#[100, 105, 111, 120, 88, 117, 101, 69, 102, 70, 103, 71]⟩, .int .u8 70] W fun e w' => e = .returned (.int .i64 9) ∧ w' = W) := fun W => Tryz.strings_IndexByte ⟨#[100, 105, 111, 120, 88, 117, 101, 69, 102, 70, 103, 71]⟩ 70 W
  have HI2 : Hid (∀ W, Calls Tryz.prog 58 #[.string ⟨#[100, 105, 111, 120, 88, 117]⟩, .int .u8 70] W fun e w' => e = .returned (.int .i64 (-1)) ∧ w' = W) := fun W => Tryz.strings_IndexByte ⟨#[100, 105, 111, 120, 88, 117]⟩ 70 W
  generalize floatO m p bl al z wd pr 70 b = out at *
  unfold specA at HFl HCk ⊢
  clear hT hp1 hp2 hw hw2
  go_enter Tryz.func21, Tryz.ntmps21
  go_wp2_with fail
  refine (HCk.out _).mono ?_
  rintro e w1 ⟨rfl, hb1⟩
  have HB1 := Lib.hid (((Below.refl w.heap.size w).alloc (Nat.le_refl _) (.cells #[.bool m, .bool p, .bool bl, .bool al, .bool z, .int .i64 wd, .int .i64 pr, .int .u8 70] 30)).trans (hb1.mono (by simp)))
  have hsp : SpAt w1 w.heap.size #[.bool m, .bool p, .bool bl, .bool al, .bool z, .int .i64 wd, .int .i64 pr, .int .u8 70] := SpAt.next (heap_alloc_at w _) hb1
  have k0 : w1.cell? ⟨w.heap.size, 0, none⟩ = some (.bool m) := hsp.cell 0
  have k1 : w1.cell? ⟨w.heap.size, 1, none⟩ = some (.bool p) := hsp.cell 1
  have k2 : w1.cell? ⟨w.heap.size, 2, none⟩ = some (.bool bl) := hsp.cell 2
  have k3 : w1.cell? ⟨w.heap.size, 3, none⟩ = some (.bool al) := hsp.cell 3
  have k4 : w1.cell? ⟨w.heap.size, 4, none⟩ = some (.bool z) := hsp.cell 4
  have k5 : w1.cell? ⟨w.heap.size, 5, none⟩ = some (.int .i64 wd) := hsp.cell 5
  have k6 : w1.cell? ⟨w.heap.size, 6, none⟩ = some (.int .i64 pr) := hsp.cell 6
  have k7 : w1.cell? ⟨w.heap.size, 7, none⟩ = some (.int .u8 70) := hsp.cell 7
  clear hb1 hsp
  go_wp2_with fail
  refine (HI1.out _).mono ?_
  rintro e _ ⟨rfl, rfl⟩
  go_wp2_with fail
  refine (HPt.out _).mono ?_
  rintro e _ ⟨rfl, rfl⟩
  go_wp2_with fail
  refine (HI2.out _).mono ?_
  rintro e _ ⟨rfl, rfl⟩
  go_wp2_with fail
  refine (HFl.out _ (HT.out.below HB1.out)).mono ?_
  rintro e w2 ⟨rfl, hb2⟩
  have HB2 := Lib.hid (HB1.out.trans (hb2.mono HB1.out.size))
  clear hb2
  go_wp2_with fail
  go_ret2
  exact ⟨rfl, HB2.out⟩

set_option maxHeartbeats 4000000 in
set_option maxRecDepth 1000000 in
theorem Number_103 (m p bl al z : Bool) (wd pr : Int) (b : Nat) (w : World) (hb : b < 18446744073709551616) (hf : fin b = true) (hp1 : -1 ≤ pr) (hp2 : pr ≤ 190) (hw : 0 ≤ wd) (hw2 : wd ≤ 1024) (hT : PowOk w) :
    Calls Tryz.prog 21 #[.agg (specA m p bl al z wd pr 103), .float .f64 b] w fun e w' => e = .returned (.tuple #[.string (floatO m p bl al z wd pr 103 b), .int .i64 0]) ∧ Below w.heap.size w w' := by
  have HT := Lib.hid hT
  have HFl := Lib.hid (fun W h => float_103 m p bl al z wd pr b W hb hf hp1 hp2 hw hw2 h)
  have HCk := Lib.hid (fun W => Check_ok m p bl al z wd pr 103 W (by
    unfold okS
    rw [show ixB verbsB 103 = 10 from by decide, decide_eq_true hw, decide_eq_true hw2, decide_eq_true hp1, decide_eq_true hp2]
    rfl))
  have HPt := Lib.hid (fun W => Parts_any b W hb)
  rw [hf] at HPt
  have HI1 : Hid (∀ W, Calls Tryz.prog 58 #[.string ⟨#[100, 105, 111, 120, 88, 117, 101, 69, 102, 70, 103, 71]⟩, .int .u8 103] W fun e w' => e = .returned (.int .i64 10) ∧ w' = W) := fun W => Tryz.strings_IndexByte ⟨#[100, 105, 111, 120, 88, 117, 101, 69, 102, 70, 103, 71]⟩ 103 W
  have HI2 : Hid (∀ W, Calls Tryz.prog 58 #[.string ⟨#[100, 105, 111, 120, 88, 117]⟩, .int .u8 103] W fun e w' => e = .returned (.int .i64 (-1)) ∧ w' = W) := fun W => Tryz.strings_IndexByte ⟨#[100, 105, 111, 120, 88, 117]⟩ 103 W
  generalize floatO m p bl al z wd pr 103 b = out at *
  unfold specA at HFl HCk ⊢
  clear hT hp1 hp2 hw hw2
  go_enter Tryz.func21, Tryz.ntmps21
  go_wp2_with fail
  refine (HCk.out _).mono ?_
  rintro e w1 ⟨rfl, hb1⟩
  have HB1 := Lib.hid (((Below.refl w.heap.size w).alloc (Nat.le_refl _) (.cells #[.bool m, .bool p, .bool bl, .bool al, .bool z, .int .i64 wd, .int .i64 pr, .int .u8 103] 30)).trans (hb1.mono (by simp)))
  have hsp : SpAt w1 w.heap.size #[.bool m, .bool p, .bool bl, .bool al, .bool z, .int .i64 wd, .int .i64 pr, .int .u8 103] := SpAt.next (heap_alloc_at w _) hb1
  have k0 : w1.cell? ⟨w.heap.size, 0, none⟩ = some (.bool m) := hsp.cell 0
  have k1 : w1.cell? ⟨w.heap.size, 1, none⟩ = some (.bool p) := hsp.cell 1
  have k2 : w1.cell? ⟨w.heap.size, 2, none⟩ = some (.bool bl) := hsp.cell 2
  have k3 : w1.cell? ⟨w.heap.size, 3, none⟩ = some (.bool al) := hsp.cell 3
  have k4 : w1.cell? ⟨w.heap.size, 4, none⟩ = some (.bool z) := hsp.cell 4
  have k5 : w1.cell? ⟨w.heap.size, 5, none⟩ = some (.int .i64 wd) := hsp.cell 5
  have k6 : w1.cell? ⟨w.heap.size, 6, none⟩ = some (.int .i64 pr) := hsp.cell 6
  have k7 : w1.cell? ⟨w.heap.size, 7, none⟩ = some (.int .u8 103) := hsp.cell 7
  clear hb1 hsp
  go_wp2_with fail
  refine (HI1.out _).mono ?_
  rintro e _ ⟨rfl, rfl⟩
  go_wp2_with fail
  refine (HPt.out _).mono ?_
  rintro e _ ⟨rfl, rfl⟩
  go_wp2_with fail
  refine (HI2.out _).mono ?_
  rintro e _ ⟨rfl, rfl⟩
  go_wp2_with fail
  refine (HFl.out _ (HT.out.below HB1.out)).mono ?_
  rintro e w2 ⟨rfl, hb2⟩
  have HB2 := Lib.hid (HB1.out.trans (hb2.mono HB1.out.size))
  clear hb2
  go_wp2_with fail
  go_ret2
  exact ⟨rfl, HB2.out⟩

set_option maxHeartbeats 4000000 in
set_option maxRecDepth 1000000 in
theorem Number_71 (m p bl al z : Bool) (wd pr : Int) (b : Nat) (w : World) (hb : b < 18446744073709551616) (hf : fin b = true) (hp1 : -1 ≤ pr) (hp2 : pr ≤ 190) (hw : 0 ≤ wd) (hw2 : wd ≤ 1024) (hT : PowOk w) :
    Calls Tryz.prog 21 #[.agg (specA m p bl al z wd pr 71), .float .f64 b] w fun e w' => e = .returned (.tuple #[.string (floatO m p bl al z wd pr 71 b), .int .i64 0]) ∧ Below w.heap.size w w' := by
  have HT := Lib.hid hT
  have HFl := Lib.hid (fun W h => float_71 m p bl al z wd pr b W hb hf hp1 hp2 hw hw2 h)
  have HCk := Lib.hid (fun W => Check_ok m p bl al z wd pr 71 W (by
    unfold okS
    rw [show ixB verbsB 71 = 11 from by decide, decide_eq_true hw, decide_eq_true hw2, decide_eq_true hp1, decide_eq_true hp2]
    rfl))
  have HPt := Lib.hid (fun W => Parts_any b W hb)
  rw [hf] at HPt
  have HI1 : Hid (∀ W, Calls Tryz.prog 58 #[.string ⟨#[100, 105, 111, 120, 88, 117, 101, 69, 102, 70, 103, 71]⟩, .int .u8 71] W fun e w' => e = .returned (.int .i64 11) ∧ w' = W) := fun W => Tryz.strings_IndexByte ⟨#[100, 105, 111, 120, 88, 117, 101, 69, 102, 70, 103, 71]⟩ 71 W
  have HI2 : Hid (∀ W, Calls Tryz.prog 58 #[.string ⟨#[100, 105, 111, 120, 88, 117]⟩, .int .u8 71] W fun e w' => e = .returned (.int .i64 (-1)) ∧ w' = W) := fun W => Tryz.strings_IndexByte ⟨#[100, 105, 111, 120, 88, 117]⟩ 71 W
  generalize floatO m p bl al z wd pr 71 b = out at *
  unfold specA at HFl HCk ⊢
  clear hT hp1 hp2 hw hw2
  go_enter Tryz.func21, Tryz.ntmps21
  go_wp2_with fail
  refine (HCk.out _).mono ?_
  rintro e w1 ⟨rfl, hb1⟩
  have HB1 := Lib.hid (((Below.refl w.heap.size w).alloc (Nat.le_refl _) (.cells #[.bool m, .bool p, .bool bl, .bool al, .bool z, .int .i64 wd, .int .i64 pr, .int .u8 71] 30)).trans (hb1.mono (by simp)))
  have hsp : SpAt w1 w.heap.size #[.bool m, .bool p, .bool bl, .bool al, .bool z, .int .i64 wd, .int .i64 pr, .int .u8 71] := SpAt.next (heap_alloc_at w _) hb1
  have k0 : w1.cell? ⟨w.heap.size, 0, none⟩ = some (.bool m) := hsp.cell 0
  have k1 : w1.cell? ⟨w.heap.size, 1, none⟩ = some (.bool p) := hsp.cell 1
  have k2 : w1.cell? ⟨w.heap.size, 2, none⟩ = some (.bool bl) := hsp.cell 2
  have k3 : w1.cell? ⟨w.heap.size, 3, none⟩ = some (.bool al) := hsp.cell 3
  have k4 : w1.cell? ⟨w.heap.size, 4, none⟩ = some (.bool z) := hsp.cell 4
  have k5 : w1.cell? ⟨w.heap.size, 5, none⟩ = some (.int .i64 wd) := hsp.cell 5
  have k6 : w1.cell? ⟨w.heap.size, 6, none⟩ = some (.int .i64 pr) := hsp.cell 6
  have k7 : w1.cell? ⟨w.heap.size, 7, none⟩ = some (.int .u8 71) := hsp.cell 7
  clear hb1 hsp
  go_wp2_with fail
  refine (HI1.out _).mono ?_
  rintro e _ ⟨rfl, rfl⟩
  go_wp2_with fail
  refine (HPt.out _).mono ?_
  rintro e _ ⟨rfl, rfl⟩
  go_wp2_with fail
  refine (HI2.out _).mono ?_
  rintro e _ ⟨rfl, rfl⟩
  go_wp2_with fail
  refine (HFl.out _ (HT.out.below HB1.out)).mono ?_
  rintro e w2 ⟨rfl, hb2⟩
  have HB2 := Lib.hid (HB1.out.trans (hb2.mono HB1.out.size))
  clear hb2
  go_wp2_with fail
  go_ret2
  exact ⟨rfl, HB2.out⟩

end Go.Proofs.YtcmpdamfeoaapaaGreatDoor
end

section
/- Package format: Conv by the document's pattern, of any float. -/
namespace Go.Proofs.YtcmpdamfeoaapaaGreatDoor
open Go.RowKit
set_option linter.unusedVariables false

set_option maxHeartbeats 8000000 in
set_option maxRecDepth 1000000 in
/-- by, of a pattern that is one part for a number -/
theorem by_two (pat : ByteArray) (x : Nat) (m p bl a z : Bool) (wd pr : Int) (vb : Nat) (L : List UInt8) (w : World) (hs : pat.size ≤ 1000) (h0 : 0 < pat.size) (hE : ErrOk w) (hc : ch pat 0 = 37)
    (hA : parseA pat 0 = pieceA m p bl a z wd pr vb false false pat.size) (hQ : parseE pat 0 = 0) (hv : vb ≠ 37)
    (hN : ∀ W, Below w.heap.size w W → Calls Tryz.prog 21 #[.agg (specA m p bl a z wd pr vb), .float .f64 x] W fun e w' => e = .returned (.tuple #[.string ⟨L.toArray⟩, .int .i64 0]) ∧ L.length ≤ 1000000 ∧ Below W.heap.size W w') :
    Calls Tryz.prog 107 #[.float .f64 x, .string pat] w fun e w' => e = .returned (.tuple #[.string ⟨L.toArray⟩, .bool true]) ∧ Below w.heap.size w w' := by
  have HP := Lib.hid (fun W h => FParse_any pat 0 W (by omega) h)
  rw [hA, hQ] at HP
  have HE := Lib.hid hE
  have hp0 : (pat[0]'h0).toNat = 37 := by rw [ch_in h0]; exact hc
  have hvn : ((vb : Int) == 37) = false := by simp; omega
  have HNm := Lib.hid hN
  unfold specA at HNm
  unfold pieceA at HP
  obtain ⟨T, hT⟩ : ∃ T : ByteArray, T = ⟨L.toArray⟩ := ⟨_, rfl⟩
  rw [← hT] at HNm ⊢
  have HT := Lib.hid hT
  have hsI : (0 : Int) < (pat.size : Int) := by omega
  clear hA hQ hE hN hT hv hc
  go_enter Tryz.func107, Tryz.ntmps107
  go_wp2_with fail
  refine wp_loop_rounds 2 ?_
  rw [rounds_succ]
  go_wp2_with fail
  refine (HP.out _ (HE.out.below ((Below.refl _ _).alloc (Nat.le_refl _) _))).mono ?_
  rintro e w1 ⟨rfl, hb1⟩
  have HB1 := Lib.hid (((Below.refl w.heap.size w).alloc (Nat.le_refl _) (.cells #[.pointer none, .slice none 0 0] 106)).trans (hb1.mono (by simp)))
  have hz1 := hb1.size
  rw [World.size_alloc] at hz1
  have HBu1 : Hid (Lib.IsBuilder 106 5 w.heap.size w.heap.size (Lib.byteCells []) w1) := by
    show Lib.IsBuilder _ _ _ _ _ _
    refine isBuilder_below (.inl ⟨Nat.le_refl _, .slice none 0 0, heap_alloc_at w _, World.ownsRow_nil .., by simp [Value.ownBlock]⟩) hb1
  clear hb1
  go_wp2_with fail
  refine (HNm.out _ (HB1.out.alloc HB1.out.size _)).mono ?_
  rintro e w2 ⟨rfl, hL, hb2⟩
  have hTs : T.size ≤ 1000000 := by rw [sz_list, HT.out]; exact hL
  clear hL
  have hz2 := hb2.size
  rw [World.size_alloc] at hz2
  have hb12 : Below w1.heap.size w1 w2 := ((Below.refl w1.heap.size w1).alloc (Nat.le_refl _) _).trans (hb2.mono (by simp))
  have HB2 := Lib.hid (HB1.out.trans (hb12.mono (by omega)))
  have HBu2 := Lib.hid (isBuilder_below HBu1.out hb12)
  clear hb2 hb12
  go_wp2_with fail
  refine (WriteString_any w.heap.size w.heap.size (Lib.byteCells []) T w2 HBu2.out (by rw [Lib.byteCells_length]; show 0 + T.size ≤ _; omega) (by omega)).mono ?_
  rintro e w3 ⟨rfl, hbu3, hb3⟩
  have HB3 := Lib.hid (HB2.out.trans hb3)
  have HBu3 : Hid (Lib.IsBuilder 106 5 w.heap.size w.heap.size (Lib.byteCells T.data.toList) w3) := by
    show Lib.IsBuilder _ _ _ _ _ _
    rw [Lib.strCells_eq] at hbu3
    exact .inr hbu3
  have hz3 := HB3.out.size
  clear hb3 hbu3
  go_wp2_with fail
  rw [rounds_succ]
  go_wp2_with fail
  refine (Tryz.Builder_String_any w.heap.size w.heap.size T.data.toList w3 HBu3.out hz3).mono ?_
  rintro e w4 ⟨rfl, hb4⟩
  have HB4 := Lib.hid (HB3.out.trans hb4)
  clear hb4
  go_wp2_with fail
  go_ret2
  exact ⟨rfl, HB4.out⟩

theorem padL_len (m z : Bool) (wd : Int) (h s : List UInt8) : (padL m z wd h s).length ≤ h.length + s.length + wd.toNat := by
  unfold padL
  split
  · simp; omega
  · split
    · simp; omega
    · simp; omega
theorem signL_len (p b m : Bool) : (signL p b m).length ≤ 1 := by
  unfold signL
  split
  · decide
  · split
    · decide
    · split <;> decide

/-- the text of what is no finite number -/
def oddO (b : Nat) : ByteArray := if FloatKind.f64.format.order b b != some .eq then ⟨#[43, 110, 97, 110]⟩ else if FloatKind.f64.format.order b 0 == some .lt then ⟨#[45, 105, 110, 102]⟩ else ⟨#[43, 105, 110, 102]⟩
theorem odd_any (b : Nat) (w : World) : Calls Tryz.prog 61 #[.float .f64 b] w fun e w' => e = .returned (.string (oddO b)) ∧ w = w' := by
  have HO : Hid (oddO b = if FloatKind.f64.format.order b b != some .eq then ⟨#[43, 110, 97, 110]⟩ else if FloatKind.f64.format.order b 0 == some .lt then ⟨#[45, 105, 110, 102]⟩ else ⟨#[43, 105, 110, 102]⟩) := rfl
  generalize oddO b = O at *
  cases h1 : (FloatKind.f64.format.order b b != some .eq)
  · cases h2 : (FloatKind.f64.format.order b 0 == some .lt)
    · rw [h1, h2] at HO
      go_enter Tryz.func61, Tryz.ntmps61
      go_wp2_with fail
      go_ret
      exact ⟨by rw [HO.out]; rfl, rfl⟩
    · rw [h1, h2] at HO
      go_enter Tryz.func61, Tryz.ntmps61
      go_wp2_with fail
      go_ret
      exact ⟨by rw [HO.out]; rfl, rfl⟩
  · rw [h1] at HO
    go_enter Tryz.func61, Tryz.ntmps61
    go_wp2_with fail
    go_ret
    exact ⟨by rw [HO.out]; rfl, rfl⟩

/-- a float by the pattern "%.6g" -/
noncomputable def convO (b : Nat) : ByteArray :=
  if wholeOk b then ⟨((if (FloatKind.f64.format.order b 0 == some .lt) = true then 45 :: dl (scaledN b 0) else dl (scaledN b 0))).toArray⟩
  else if fin b then ⟨(padL false false 0 (signL false false (decide (9223372036854775808 ≤ b))) (genO b 5 false).data.toList).toArray⟩ else oddO b

theorem parse_g6 : parseA ⟨#[37, 46, 54, 103]⟩ 0 = pieceA false false false false false 0 6 (103 : Nat) false false (4 : Nat) := by kernel_rfl
set_option maxHeartbeats 4000000 in
set_option maxRecDepth 1000000 in
theorem Conv_g6 (b : Nat) (w : World) (hb : b < 18446744073709551616) (hE : ErrOk w) (hT : PowOk w) : Calls Tryz.prog 55 #[.float .f64 b, .string ⟨#[37, 46, 54, 103]⟩] w fun e w' => e = .returned (.string (convO b)) ∧ Below w.heap.size w w' := by
  cases hw : wholeOk b
  · have HW := Lib.hid (fun W => Whole_no b W hb hw)
    have HP := Lib.hid (fun W => Parts_any b W hb)
    cases hf : fin b
    · rw [hf] at HP
      have HC : Hid (convO b = oddO b) := by show _ = _; unfold convO; rw [hw, hf]; rfl
      have HOd := Lib.hid (fun W => odd_any b W)
      generalize oddO b = O at *
      rw [HC.out]
      clear HC hw hf
      go_enter Tryz.func55, Tryz.ntmps55
      go_wp2_with fail
      refine (HW.out _).mono ?_
      rintro e _ ⟨rfl, rfl⟩
      go_wp2_with fail
      refine (HP.out _).mono ?_
      rintro e _ ⟨rfl, rfl⟩
      go_wp2_with fail
      refine (HOd.out _).mono ?_
      rintro e _ ⟨rfl, rfl⟩
      go_wp2_with fail
      go_ret
      exact ⟨rfl, Below.refl _ _⟩
    · rw [hf] at HP
      have HB : Hid (Calls Tryz.prog 107 #[.float .f64 b, .string ⟨#[37, 46, 54, 103]⟩] w fun e w' => e = .returned (.tuple #[.string (convO b), .bool true]) ∧ Below w.heap.size w w') := by
        have hc : convO b = ⟨(padL false false 0 (signL false false (decide (9223372036854775808 ≤ b))) (genO b 5 false).data.toList).toArray⟩ := by unfold convO; rw [hw, hf]; rfl
        rw [hc]
        refine by_two ⟨#[37, 46, 54, 103]⟩ b false false false false false 0 6 103 _ w (by decide) (by decide) hE (by decide) parse_g6 (by kernel_rfl) (by decide) (fun W hW => ?_)
        refine (Number_g false false false false false 0 5 b W hb hf (by decide) (by decide) (by decide) (hT.below hW)).mono ?_
        rintro e w' ⟨rfl, hs, hbw⟩
        refine ⟨rfl, ?_, hbw⟩
        have h1 := padL_len false false 0 (signL false false (decide (9223372036854775808 ≤ b))) (genO b 5 false).data.toList
        have h2 := signL_len false false (decide (9223372036854775808 ≤ b))
        rw [sz_list] at hs
        have h3 : (0 : Int).toNat = 0 := rfl
        omega
      generalize convO b = O at *
      clear hw hf hE hT
      go_enter Tryz.func55, Tryz.ntmps55
      go_wp2_with fail
      refine (HW.out _).mono ?_
      rintro e _ ⟨rfl, rfl⟩
      go_wp2_with fail
      refine (HP.out _).mono ?_
      rintro e _ ⟨rfl, rfl⟩
      go_wp2_with fail
      refine HB.out.mono ?_
      rintro e w1 ⟨rfl, hb⟩
      have HBw := Lib.hid hb
      clear hb
      go_wp2_with fail
      go_ret
      exact ⟨rfl, HBw.out⟩
  · have HW : Hid (∀ W, Calls Tryz.prog 26 #[.float .f64 b] W fun e w' => e = .returned (.tuple #[.string (convO b), .bool true]) ∧ Below W.heap.size W w') := fun W => by
      refine (Whole_yes b W hb hw).mono ?_
      rintro e w' ⟨s, rfl, ⟨l, hc, hs⟩, hbw⟩
      have hO : convO b = s := by
        unfold convO
        rw [hw, dl_eq hc, ← hs]
        exact bytes_self s
      rw [hO]
      exact ⟨rfl, hbw⟩
    generalize convO b = O at *
    clear hw hE hT
    go_enter Tryz.func55, Tryz.ntmps55
    go_wp2_with fail
    refine (HW.out _).mono ?_
    rintro e w1 ⟨rfl, hb⟩
    have HBw := Lib.hid hb
    clear hb
    go_wp2_with fail
    go_ret
    exact ⟨rfl, HBw.out⟩
end Go.Proofs.YtcmpdamfeoaapaaGreatDoor
end

section
/- The law's example of package format. -/
namespace Go.Proofs.YtcmpdamfeoaapaaGreatDoor
open Go.RowKit
set_option linter.unusedVariables false

theorem ex5_parse : parseA ⟨#[97, 37, 43, 48, 56, 46, 50, 102, 98]⟩ 1 = #[.bool false, .bool true, .bool false, .bool false, .bool true, .int .i64 8, .int .i64 2, .int .u8 102, .bool false, .bool false, .int .i64 8] := by kernel_rfl
theorem ex5_err : parseE ⟨#[97, 37, 43, 48, 56, 46, 50, 102, 98]⟩ 1 = 0 := by kernel_rfl
theorem ex5_canon : Canon [51, 49, 52] (scaledN 4614256650576692846 2) := by
  rw [show scaledN 4614256650576692846 2 = 314 from by kernel_rfl]
  exact canon_mk (by decide) (by decide) (by decide) (by decide)
theorem ex5_text : textS true 5 2 115 ⟨#[97, 195, 169, 122]⟩ false = ⟨#[97, 195, 169, 32, 32, 32]⟩ := by kernel_rfl
theorem ex5_texte : textE 5 2 115 = 0 := by kernel_rfl
theorem ex5_sci : SciAt 4591870180066957722 5 (-1) where
  ge := of_decide_eq_true (by kernel_rfl)
  lt := of_decide_eq_true (by kernel_rfl)
  least := ⟨-1, Int.le_refl _, by unfold GeT; exact of_decide_eq_true (by kernel_rfl), fun y h1 h2 => by omega⟩
theorem ex5_dl : dl (scaledN 4591870180066957722 6) = [49, 48, 48, 48, 48, 48] := by
  rw [show scaledN 4591870180066957722 6 = 100000 from by kernel_rfl]
  exact dl_eq (canon_mk (by decide) (by decide) (by decide) (by decide))
theorem ex5_e : sciE 4591870180066957722 5 = -1 := by
  unfold sciE
  rw [if_neg (of_decide_eq_true (p := ¬ (mant 4591870180066957722 = 0)) (by kernel_rfl)), sciX_eq ex5_sci]
theorem ex5_gen : genO 4591870180066957722 5 false = ⟨#[48, 46, 49]⟩ := by
  have hB : genB 4591870180066957722 5 = false := by unfold genB; rw [ex5_e]; decide
  have hF : genF 4591870180066957722 5 = ⟨#[48, 46, 49, 48, 48, 48, 48, 48]⟩ := by
    unfold genF
    rw [ex5_e, show (((5 : Nat) : Int) - -1).toNat = 6 from rfl]
    unfold fixT
    rw [show ((6 : Nat) : Int) = 6 from rfl, ex5_dl]
    kernel_rfl
  unfold genO genH genT
  rw [hB, hF]
  simp only [Bool.false_eq_true, if_false]
  rw [if_pos (by decide)]
  exact of_decide_eq_true (by kernel_rfl)
theorem ex5_conv : convO 4591870180066957722 = ⟨#[48, 46, 49]⟩ := by
  unfold convO
  rw [if_neg (by rw [c01_whole]; decide), if_pos (by decide), ex5_gen]
  kernel_rfl
end Go.Proofs.YtcmpdamfeoaapaaGreatDoor
end

section
/- Package cell: Compare. -/
namespace Go.Proofs.YtcmpdamfeoaapaaGreatDoor
open Go.RowKit
set_option linter.unusedVariables false

set_option maxHeartbeats 8000000 in
set_option maxRecDepth 1000000 in
theorem Compare_nums (k1 k2 : Int) (x y : Nat) (s t c : ByteArray) (w : World) (h1 : k1 = 1 ∨ k1 = 3) (h2 : k2 = 1 ∨ k2 = 3) (hx : FloatKind.f64.format.order x x = some .eq) (hy : FloatKind.f64.format.order y y = some .eq) :
    Calls Tryz.prog 24 #[.agg (cellA k1 x s), .agg (cellA k2 y t), .string c] w fun e w' => e = .returned (.int .i64 (ordF x y)) ∧ Below w.heap.size w w' := by
  have HN1 := Lib.hid (fun W => Num_num k1 x s W h1)
  have HN2 := Lib.hid (fun W => Num_num k2 y t W h2)
  have HO : Hid (∀ W, Calls Tryz.prog 64 #[.float .f64 x, .float .f64 y] W fun e w' => e = .returned (.int .i64 (ordF x y)) ∧ Below W.heap.size W w') := fun W => (order_any x y W hx hy).mono fun e W' h => ⟨h.1, h.2 ▸ Below.refl _ _⟩
  generalize ordF x y = d at *
  have e1 : (k1 != 2) = true := by rcases h1 with rfl | rfl <;> rfl
  have e2 : (k2 != 2) = true := by rcases h2 with rfl | rfl <;> rfl
  unfold cellA at HN1 HN2 ⊢
  clear h1 h2 hx hy
  have hb0 : Below w.heap.size w ((w.alloc (.cells #[.int .i64 k1, .float .f64 x, .string s] 35)).alloc (.cells #[.int .i64 k2, .float .f64 y, .string t] 35)) := ((Below.refl w.heap.size w).alloc (Nat.le_refl _) _).alloc (by simp) _
  have g0 : ((w.alloc (.cells #[.int .i64 k1, .float .f64 x, .string s] 35)).alloc (.cells #[.int .i64 k2, .float .f64 y, .string t] 35)).cell? ⟨w.heap.size, 0, none⟩ = some (.int .i64 k1) := by simp [go_sem]
  have g1 : ((w.alloc (.cells #[.int .i64 k1, .float .f64 x, .string s] 35)).alloc (.cells #[.int .i64 k2, .float .f64 y, .string t] 35)).cell? ⟨w.heap.size, 1, none⟩ = some (.float .f64 x) := by simp [go_sem]
  have g2 : ((w.alloc (.cells #[.int .i64 k1, .float .f64 x, .string s] 35)).alloc (.cells #[.int .i64 k2, .float .f64 y, .string t] 35)).cell? ⟨w.heap.size, 2, none⟩ = some (.string s) := by simp [go_sem]
  have n0 : ((w.alloc (.cells #[.int .i64 k1, .float .f64 x, .string s] 35)).alloc (.cells #[.int .i64 k2, .float .f64 y, .string t] 35)).cell? ⟨w.heap.size + 1, 0, none⟩ = some (.int .i64 k2) := by simp [go_sem]
  have n1 : ((w.alloc (.cells #[.int .i64 k1, .float .f64 x, .string s] 35)).alloc (.cells #[.int .i64 k2, .float .f64 y, .string t] 35)).cell? ⟨w.heap.size + 1, 1, none⟩ = some (.float .f64 y) := by simp [go_sem]
  have n2 : ((w.alloc (.cells #[.int .i64 k1, .float .f64 x, .string s] 35)).alloc (.cells #[.int .i64 k2, .float .f64 y, .string t] 35)).cell? ⟨w.heap.size + 1, 2, none⟩ = some (.string t) := by simp [go_sem]
  have HB0 := Lib.hid hb0
  clear hb0
  go_enter Tryz.func24, Tryz.ntmps24
  go_wp2_with fail
  generalize (w.alloc (.cells #[.int .i64 k1, .float .f64 x, .string s] 35)).alloc (.cells #[.int .i64 k2, .float .f64 y, .string t] 35) = W at *
  go_region_held3 (fun w' => w'.cell? ⟨w.heap.size, 0, none⟩ = some (.int .i64 k1) ∧ w'.cell? ⟨w.heap.size, 1, none⟩ = some (.float .f64 x) ∧ w'.cell? ⟨w.heap.size, 2, none⟩ = some (.string s) ∧ w'.cell? ⟨w.heap.size + 1, 0, none⟩ = some (.int .i64 k2) ∧ w'.cell? ⟨w.heap.size + 1, 1, none⟩ = some (.float .f64 y) ∧ w'.cell? ⟨w.heap.size + 1, 2, none⟩ = some (.string t)) (first | exact ⟨g0, g1, g2, n0, n1, n2⟩ | exact ⟨p0, p1, p2, q0, q1, q2⟩)
    (first
      | (go_at_call 39; refine (HN1.out _).mono ?_; clear HN1; rintro e w2 ⟨rfl, hb2⟩; have p0 := cell_next hb2 g0; have p1 := cell_next hb2 g1; have p2 := cell_next hb2 g2; have q0 := cell_next hb2 n0; have q1 := cell_next hb2 n1; have q2 := cell_next hb2 n2; have HB2 := Lib.hid (below_next (Nat.le_refl _) HB0.out hb2 (by first | exact .inl rfl | exact .inr rfl)))
      | (go_at_call 39; refine (HN2.out _).mono ?_; clear HN2; rintro e w3 ⟨rfl, hb3⟩; have p0 := cell_next hb3 p0; have p1 := cell_next hb3 p1; have p2 := cell_next hb3 p2; have q0 := cell_next hb3 q0; have q1 := cell_next hb3 q1; have q2 := cell_next hb3 q2; have HB3 := Lib.hid (below_next (Nat.le_refl _) HB2.out hb3 (by first | exact .inl rfl | exact .inr rfl)))
      | (go_at_call 64; refine (HO.out _).mono ?_; clear HO; rintro e w4 ⟨rfl, hb4⟩; have p0 := cell_next hb4 p0; have p1 := cell_next hb4 p1; have p2 := cell_next hb4 p2; have q0 := cell_next hb4 q0; have q1 := cell_next hb4 q1; have q2 := cell_next hb4 q2; have HB4 := Lib.hid (below_next (Nat.le_refl _) HB3.out hb4 (by first | exact .inl rfl | exact .inr rfl))))
  all_goals go_wp2_with fail
  all_goals go_ret
  all_goals exact ⟨rfl, HB4.out⟩

set_option maxHeartbeats 8000000 in
set_option maxRecDepth 1000000 in
theorem Compare_strs (k1 k2 : Int) (x y : Nat) (s t c o1 o2 : ByteArray) (w : World) (hk : k1 = 2 ∨ (k1 ≠ 2 ∧ k2 = 2))
    (h1 : ∀ W, Below w.heap.size w W → Calls Tryz.prog 18 #[.agg (cellA k1 x s), .string c] W fun e w' => e = .returned (.string o1) ∧ Below W.heap.size W w')
    (h2 : ∀ W, Below w.heap.size w W → Calls Tryz.prog 18 #[.agg (cellA k2 y t), .string c] W fun e w' => e = .returned (.string o2) ∧ Below W.heap.size W w') :
    Calls Tryz.prog 24 #[.agg (cellA k1 x s), .agg (cellA k2 y t), .string c] w fun e w' => e = .returned (.int .i64 (Lib.compareBytes o1.data.toList o2.data.toList)) ∧ Below w.heap.size w w' := by
  have HS1 := Lib.hid h1
  have HS2 := Lib.hid h2
  have HC : Hid (∀ W, Calls Tryz.prog 65 #[.string o1, .string o2] W fun e w' => e = .returned (.int .i64 (Lib.compareBytes o1.data.toList o2.data.toList)) ∧ Below W.heap.size W w') := fun W => (Tryz.strings_Compare o1 o2 W).mono fun e W' h => ⟨h.1, h.2 ▸ Below.refl _ _⟩
  generalize Lib.compareBytes o1.data.toList o2.data.toList = d at *
  unfold cellA at HS1 HS2 ⊢
  clear h1 h2
  rcases hk with rfl | ⟨hk, rfl⟩
  · skip
    have hb0 : Below w.heap.size w ((w.alloc (.cells #[.int .i64 2, .float .f64 x, .string s] 35)).alloc (.cells #[.int .i64 k2, .float .f64 y, .string t] 35)) := ((Below.refl w.heap.size w).alloc (Nat.le_refl _) _).alloc (by simp) _
    have g0 : ((w.alloc (.cells #[.int .i64 2, .float .f64 x, .string s] 35)).alloc (.cells #[.int .i64 k2, .float .f64 y, .string t] 35)).cell? ⟨w.heap.size, 0, none⟩ = some (.int .i64 2) := by simp [go_sem]
    have g1 : ((w.alloc (.cells #[.int .i64 2, .float .f64 x, .string s] 35)).alloc (.cells #[.int .i64 k2, .float .f64 y, .string t] 35)).cell? ⟨w.heap.size, 1, none⟩ = some (.float .f64 x) := by simp [go_sem]
    have g2 : ((w.alloc (.cells #[.int .i64 2, .float .f64 x, .string s] 35)).alloc (.cells #[.int .i64 k2, .float .f64 y, .string t] 35)).cell? ⟨w.heap.size, 2, none⟩ = some (.string s) := by simp [go_sem]
    have n0 : ((w.alloc (.cells #[.int .i64 2, .float .f64 x, .string s] 35)).alloc (.cells #[.int .i64 k2, .float .f64 y, .string t] 35)).cell? ⟨w.heap.size + 1, 0, none⟩ = some (.int .i64 k2) := by simp [go_sem]
    have n1 : ((w.alloc (.cells #[.int .i64 2, .float .f64 x, .string s] 35)).alloc (.cells #[.int .i64 k2, .float .f64 y, .string t] 35)).cell? ⟨w.heap.size + 1, 1, none⟩ = some (.float .f64 y) := by simp [go_sem]
    have n2 : ((w.alloc (.cells #[.int .i64 2, .float .f64 x, .string s] 35)).alloc (.cells #[.int .i64 k2, .float .f64 y, .string t] 35)).cell? ⟨w.heap.size + 1, 2, none⟩ = some (.string t) := by simp [go_sem]
    have HB0 := Lib.hid hb0
    clear hb0
    go_enter Tryz.func24, Tryz.ntmps24
    go_wp2_with fail
    generalize (w.alloc (.cells #[.int .i64 2, .float .f64 x, .string s] 35)).alloc (.cells #[.int .i64 k2, .float .f64 y, .string t] 35) = W at *
    go_region_held3 (fun w' => w'.cell? ⟨w.heap.size, 0, none⟩ = some (.int .i64 2) ∧ w'.cell? ⟨w.heap.size, 1, none⟩ = some (.float .f64 x) ∧ w'.cell? ⟨w.heap.size, 2, none⟩ = some (.string s) ∧ w'.cell? ⟨w.heap.size + 1, 0, none⟩ = some (.int .i64 k2) ∧ w'.cell? ⟨w.heap.size + 1, 1, none⟩ = some (.float .f64 y) ∧ w'.cell? ⟨w.heap.size + 1, 2, none⟩ = some (.string t)) (first | exact ⟨g0, g1, g2, n0, n1, n2⟩ | exact ⟨p0, p1, p2, q0, q1, q2⟩)
      (first
        | (go_at_call 18; refine (HS1.out _ (by first | exact HB0.out | exact HB0.out.drew)).mono ?_; clear HS1; rintro e w2 ⟨rfl, hb2⟩; have p0 := cell_next hb2 g0; have p1 := cell_next hb2 g1; have p2 := cell_next hb2 g2; have q0 := cell_next hb2 n0; have q1 := cell_next hb2 n1; have q2 := cell_next hb2 n2; have HB2 := Lib.hid (below_next (Nat.le_refl _) HB0.out hb2 (by first | exact .inl rfl | exact .inr rfl)))
        | (go_at_call 18; refine (HS2.out _ (by first | exact HB2.out | exact HB2.out.drew)).mono ?_; clear HS2; rintro e w3 ⟨rfl, hb3⟩; have p0 := cell_next hb3 p0; have p1 := cell_next hb3 p1; have p2 := cell_next hb3 p2; have q0 := cell_next hb3 q0; have q1 := cell_next hb3 q1; have q2 := cell_next hb3 q2; have HB3 := Lib.hid (below_next (Nat.le_refl _) HB2.out hb3 (by first | exact .inl rfl | exact .inr rfl)))
        | (go_at_call 65; refine (HC.out _).mono ?_; clear HC; rintro e w4 ⟨rfl, hb4⟩; have p0 := cell_next hb4 p0; have p1 := cell_next hb4 p1; have p2 := cell_next hb4 p2; have q0 := cell_next hb4 q0; have q1 := cell_next hb4 q1; have q2 := cell_next hb4 q2; have HB4 := Lib.hid (below_next (Nat.le_refl _) HB3.out hb4 (by first | exact .inl rfl | exact .inr rfl))))
    all_goals go_wp2_with fail
    all_goals go_ret
    all_goals exact ⟨rfl, HB4.out⟩
  · have e1 : (k1 != 2) = true := by simpa using hk
    clear hk
    have hb0 : Below w.heap.size w ((w.alloc (.cells #[.int .i64 k1, .float .f64 x, .string s] 35)).alloc (.cells #[.int .i64 2, .float .f64 y, .string t] 35)) := ((Below.refl w.heap.size w).alloc (Nat.le_refl _) _).alloc (by simp) _
    have g0 : ((w.alloc (.cells #[.int .i64 k1, .float .f64 x, .string s] 35)).alloc (.cells #[.int .i64 2, .float .f64 y, .string t] 35)).cell? ⟨w.heap.size, 0, none⟩ = some (.int .i64 k1) := by simp [go_sem]
    have g1 : ((w.alloc (.cells #[.int .i64 k1, .float .f64 x, .string s] 35)).alloc (.cells #[.int .i64 2, .float .f64 y, .string t] 35)).cell? ⟨w.heap.size, 1, none⟩ = some (.float .f64 x) := by simp [go_sem]
    have g2 : ((w.alloc (.cells #[.int .i64 k1, .float .f64 x, .string s] 35)).alloc (.cells #[.int .i64 2, .float .f64 y, .string t] 35)).cell? ⟨w.heap.size, 2, none⟩ = some (.string s) := by simp [go_sem]
    have n0 : ((w.alloc (.cells #[.int .i64 k1, .float .f64 x, .string s] 35)).alloc (.cells #[.int .i64 2, .float .f64 y, .string t] 35)).cell? ⟨w.heap.size + 1, 0, none⟩ = some (.int .i64 2) := by simp [go_sem]
    have n1 : ((w.alloc (.cells #[.int .i64 k1, .float .f64 x, .string s] 35)).alloc (.cells #[.int .i64 2, .float .f64 y, .string t] 35)).cell? ⟨w.heap.size + 1, 1, none⟩ = some (.float .f64 y) := by simp [go_sem]
    have n2 : ((w.alloc (.cells #[.int .i64 k1, .float .f64 x, .string s] 35)).alloc (.cells #[.int .i64 2, .float .f64 y, .string t] 35)).cell? ⟨w.heap.size + 1, 2, none⟩ = some (.string t) := by simp [go_sem]
    have HB0 := Lib.hid hb0
    clear hb0
    go_enter Tryz.func24, Tryz.ntmps24
    go_wp2_with fail
    generalize (w.alloc (.cells #[.int .i64 k1, .float .f64 x, .string s] 35)).alloc (.cells #[.int .i64 2, .float .f64 y, .string t] 35) = W at *
    go_region_held3 (fun w' => w'.cell? ⟨w.heap.size, 0, none⟩ = some (.int .i64 k1) ∧ w'.cell? ⟨w.heap.size, 1, none⟩ = some (.float .f64 x) ∧ w'.cell? ⟨w.heap.size, 2, none⟩ = some (.string s) ∧ w'.cell? ⟨w.heap.size + 1, 0, none⟩ = some (.int .i64 2) ∧ w'.cell? ⟨w.heap.size + 1, 1, none⟩ = some (.float .f64 y) ∧ w'.cell? ⟨w.heap.size + 1, 2, none⟩ = some (.string t)) (first | exact ⟨g0, g1, g2, n0, n1, n2⟩ | exact ⟨p0, p1, p2, q0, q1, q2⟩)
      (first
        | (go_at_call 18; refine (HS1.out _ (by first | exact HB0.out | exact HB0.out.drew)).mono ?_; clear HS1; rintro e w2 ⟨rfl, hb2⟩; have p0 := cell_next hb2 g0; have p1 := cell_next hb2 g1; have p2 := cell_next hb2 g2; have q0 := cell_next hb2 n0; have q1 := cell_next hb2 n1; have q2 := cell_next hb2 n2; have HB2 := Lib.hid (below_next (Nat.le_refl _) HB0.out hb2 (by first | exact .inl rfl | exact .inr rfl)))
        | (go_at_call 18; refine (HS2.out _ (by first | exact HB2.out | exact HB2.out.drew)).mono ?_; clear HS2; rintro e w3 ⟨rfl, hb3⟩; have p0 := cell_next hb3 p0; have p1 := cell_next hb3 p1; have p2 := cell_next hb3 p2; have q0 := cell_next hb3 q0; have q1 := cell_next hb3 q1; have q2 := cell_next hb3 q2; have HB3 := Lib.hid (below_next (Nat.le_refl _) HB2.out hb3 (by first | exact .inl rfl | exact .inr rfl)))
        | (go_at_call 65; refine (HC.out _).mono ?_; clear HC; rintro e w4 ⟨rfl, hb4⟩; have p0 := cell_next hb4 p0; have p1 := cell_next hb4 p1; have p2 := cell_next hb4 p2; have q0 := cell_next hb4 q0; have q1 := cell_next hb4 q1; have q2 := cell_next hb4 q2; have HB4 := Lib.hid (below_next (Nat.le_refl _) HB3.out hb4 (by first | exact .inl rfl | exact .inr rfl))))
    all_goals go_wp2_with fail
    all_goals go_ret
    all_goals exact ⟨rfl, HB4.out⟩
end Go.Proofs.YtcmpdamfeoaapaaGreatDoor
end

section
/- Package cell: Compare of any two values, by the document's pattern. -/
namespace Go.Proofs.YtcmpdamfeoaapaaGreatDoor
open Go.RowKit
set_option linter.unusedVariables false

theorem one_any (b : Bool) (w : World) : Calls Tryz.prog 116 #[.bool b] w fun e w' => e = .returned (.int .i64 (if b then 1 else 0)) ∧ w = w' := by
  cases b
  · go_enter Tryz.func116, Tryz.ntmps116
    go_wp2_with fail
    go_ret
    exact ⟨rfl, rfl⟩
  · go_enter Tryz.func116, Tryz.ntmps116
    go_wp2_with fail
    go_ret
    exact ⟨rfl, rfl⟩
/-- is it no number -/
def nanF (x : Nat) : Bool := FloatKind.f64.format.order x x != some .eq
/-- the order of two floats, what is no number being greatest -/
def ordN (x y : Nat) : Int := if nanF x || nanF y then Lib.compareInt (if nanF x then 1 else 0) (if nanF y then 1 else 0) else ordF x y
theorem order_all (x y : Nat) (w : World) : Calls Tryz.prog 64 #[.float .f64 x, .float .f64 y] w fun e w' => e = .returned (.int .i64 (ordN x y)) ∧ Below w.heap.size w w' := by
  cases hx : nanF x
  · cases hy : nanF y
    · refine (order_any x y w (by unfold nanF at hx; simpa using hx) (by unfold nanF at hy; simpa using hy)).mono ?_
      rintro e w' ⟨rfl, rfl⟩
      unfold ordN
      rw [hx, hy]
      exact ⟨rfl, Below.refl _ _⟩
    · have h1 : (FloatKind.f64.format.order x x != some .eq) = false := hx
      have h2 : (FloatKind.f64.format.order y y != some .eq) = true := hy
      have HO : Hid (ordN x y = Lib.compareInt 0 1) := by show _ = _; unfold ordN; rw [hx, hy]; rfl
      rw [HO.out]
      clear hx hy HO
      go_enter Tryz.func64, Tryz.ntmps64
      go_wp2_with fail
      refine (one_any false _).mono ?_
      rintro e _ ⟨rfl, rfl⟩
      go_wp2_with fail
      refine (one_any true _).mono ?_
      rintro e _ ⟨rfl, rfl⟩
      go_wp2_with fail
      refine (Tryz.cmp_Compare_int 0 1 _).mono ?_
      rintro e _ ⟨rfl, rfl⟩
      go_wp2_with fail
      go_ret
      exact ⟨rfl, Below.refl _ _⟩
  · have h1 : (FloatKind.f64.format.order x x != some .eq) = true := hx
    cases hy : nanF y
    · have h2 : (FloatKind.f64.format.order y y != some .eq) = false := hy
      have HO : Hid (ordN x y = Lib.compareInt 1 0) := by show _ = _; unfold ordN; rw [hx, hy]; rfl
      rw [HO.out]
      clear hx hy HO
      go_enter Tryz.func64, Tryz.ntmps64
      go_wp2_with fail
      refine (one_any true _).mono ?_
      rintro e _ ⟨rfl, rfl⟩
      go_wp2_with fail
      refine (one_any false _).mono ?_
      rintro e _ ⟨rfl, rfl⟩
      go_wp2_with fail
      refine (Tryz.cmp_Compare_int 1 0 _).mono ?_
      rintro e _ ⟨rfl, rfl⟩
      go_wp2_with fail
      go_ret
      exact ⟨rfl, Below.refl _ _⟩
    · have h2 : (FloatKind.f64.format.order y y != some .eq) = true := hy
      have HO : Hid (ordN x y = Lib.compareInt 1 1) := by show _ = _; unfold ordN; rw [hx, hy]; rfl
      rw [HO.out]
      clear hx hy HO
      go_enter Tryz.func64, Tryz.ntmps64
      go_wp2_with fail
      refine (one_any true _).mono ?_
      rintro e _ ⟨rfl, rfl⟩
      go_wp2_with fail
      refine (one_any true _).mono ?_
      rintro e _ ⟨rfl, rfl⟩
      go_wp2_with fail
      refine (Tryz.cmp_Compare_int 1 1 _).mono ?_
      rintro e _ ⟨rfl, rfl⟩
      go_wp2_with fail
      go_ret
      exact ⟨rfl, Below.refl _ _⟩

/-- a value as a number, and as a string by the document's pattern -/
def numC (k : Int) (x : Nat) (s : ByteArray) : Nat := if k = 1 ∨ k = 3 then x else if k = 2 then prefB s.data.toList else 0
noncomputable def strC (k : Int) (x : Nat) (s : ByteArray) : ByteArray := if k = 1 then convO x else if k = 2 ∨ k = 3 then s else ⟨#[]⟩
theorem Num_all (k : Int) (x : Nat) (s : ByteArray) (w : World) (hs : s.size ≤ 140737488355328) : Calls Tryz.prog 39 #[.agg (cellA k x s)] w fun e w' => e = .returned (.float .f64 (numC k x s)) ∧ Below w.heap.size w w' := by
  by_cases h1 : k = 1 ∨ k = 3
  · rw [show numC k x s = x from if_pos h1]
    exact Num_num k x s w h1
  · by_cases h2 : k = 2
    · subst h2
      exact Num_str x s w hs
    · rw [show numC k x s = 0 from by unfold numC; rw [if_neg h1, if_neg h2]]
      have e1 : (k == 1) = false := by simp; omega
      have e2 : (k == 2) = false := by simp; omega
      have e3 : (k == 3) = false := by simp; omega
      clear h1 h2
      unfold cellA
      go_enter Tryz.func39, Tryz.ntmps39
      go_wp2_with fail
      go_ret
      exact ⟨rfl, (Below.refl _ _).alloc (Nat.le_refl _) _⟩
theorem Str_all (k : Int) (x : Nat) (s : ByteArray) (w : World) (hx : x < 18446744073709551616) (hE : ErrOk w) (hT : PowOk w) : Calls Tryz.prog 18 #[.agg (cellA k x s), .string ⟨#[37, 46, 54, 103]⟩] w fun e w' => e = .returned (.string (strC k x s)) ∧ Below w.heap.size w w' := by
  by_cases h1 : k = 1
  · subst h1
    rw [show strC 1 x s = convO x from if_pos rfl]
    exact Str_num x s _ _ w (fun W hb => Conv_g6 x W hx (hE.below hb) (hT.below hb))
  · by_cases h2 : k = 2 ∨ k = 3
    · rw [show strC k x s = s from by unfold strC; rw [if_neg h1, if_pos h2]]
      exact Str_str k x s _ w h2
    · rw [show strC k x s = ⟨#[]⟩ from by unfold strC; rw [if_neg h1, if_neg h2]]
      have e1 : (k == 1) = false := by simp; omega
      have e2 : (k == 2) = false := by simp; omega
      have e3 : (k == 3) = false := by simp; omega
      clear h1 h2
      unfold cellA
      go_enter Tryz.func18, Tryz.ntmps18
      go_wp2_with fail
      go_ret
      exact ⟨rfl, (Below.refl _ _).alloc (Nat.le_refl _) _⟩

set_option maxHeartbeats 8000000 in
set_option maxRecDepth 1000000 in
theorem Compare_numsG (k1 k2 : Int) (x y X Y : Nat) (d : Int) (s t c : ByteArray) (w : World) (e1 : (k1 != 2) = true) (e2 : (k2 != 2) = true)
    (h1 : ∀ W, Calls Tryz.prog 39 #[.agg (cellA k1 x s)] W fun e w' => e = .returned (.float .f64 X) ∧ Below W.heap.size W w')
    (h2 : ∀ W, Calls Tryz.prog 39 #[.agg (cellA k2 y t)] W fun e w' => e = .returned (.float .f64 Y) ∧ Below W.heap.size W w')
    (h3 : ∀ W, Calls Tryz.prog 64 #[.float .f64 X, .float .f64 Y] W fun e w' => e = .returned (.int .i64 d) ∧ Below W.heap.size W w') :
    Calls Tryz.prog 24 #[.agg (cellA k1 x s), .agg (cellA k2 y t), .string c] w fun e w' => e = .returned (.int .i64 d) ∧ Below w.heap.size w w' := by
  have HN1 := Lib.hid h1
  have HN2 := Lib.hid h2
  have HO := Lib.hid h3
  unfold cellA at HN1 HN2 ⊢
  clear h1 h2 h3
  have hb0 : Below w.heap.size w ((w.alloc (.cells #[.int .i64 k1, .float .f64 x, .string s] 35)).alloc (.cells #[.int .i64 k2, .float .f64 y, .string t] 35)) := ((Below.refl w.heap.size w).alloc (Nat.le_refl _) _).alloc (by simp) _
  have g0 : ((w.alloc (.cells #[.int .i64 k1, .float .f64 x, .string s] 35)).alloc (.cells #[.int .i64 k2, .float .f64 y, .string t] 35)).cell? ⟨w.heap.size, 0, none⟩ = some (.int .i64 k1) := by simp [go_sem]
  have g1 : ((w.alloc (.cells #[.int .i64 k1, .float .f64 x, .string s] 35)).alloc (.cells #[.int .i64 k2, .float .f64 y, .string t] 35)).cell? ⟨w.heap.size, 1, none⟩ = some (.float .f64 x) := by simp [go_sem]
  have g2 : ((w.alloc (.cells #[.int .i64 k1, .float .f64 x, .string s] 35)).alloc (.cells #[.int .i64 k2, .float .f64 y, .string t] 35)).cell? ⟨w.heap.size, 2, none⟩ = some (.string s) := by simp [go_sem]
  have n0 : ((w.alloc (.cells #[.int .i64 k1, .float .f64 x, .string s] 35)).alloc (.cells #[.int .i64 k2, .float .f64 y, .string t] 35)).cell? ⟨w.heap.size + 1, 0, none⟩ = some (.int .i64 k2) := by simp [go_sem]
  have n1 : ((w.alloc (.cells #[.int .i64 k1, .float .f64 x, .string s] 35)).alloc (.cells #[.int .i64 k2, .float .f64 y, .string t] 35)).cell? ⟨w.heap.size + 1, 1, none⟩ = some (.float .f64 y) := by simp [go_sem]
  have n2 : ((w.alloc (.cells #[.int .i64 k1, .float .f64 x, .string s] 35)).alloc (.cells #[.int .i64 k2, .float .f64 y, .string t] 35)).cell? ⟨w.heap.size + 1, 2, none⟩ = some (.string t) := by simp [go_sem]
  have HB0 := Lib.hid hb0
  clear hb0
  go_enter Tryz.func24, Tryz.ntmps24
  go_wp2_with fail
  generalize (w.alloc (.cells #[.int .i64 k1, .float .f64 x, .string s] 35)).alloc (.cells #[.int .i64 k2, .float .f64 y, .string t] 35) = W at *
  go_region_held3 (fun w' => w'.cell? ⟨w.heap.size, 0, none⟩ = some (.int .i64 k1) ∧ w'.cell? ⟨w.heap.size, 1, none⟩ = some (.float .f64 x) ∧ w'.cell? ⟨w.heap.size, 2, none⟩ = some (.string s) ∧ w'.cell? ⟨w.heap.size + 1, 0, none⟩ = some (.int .i64 k2) ∧ w'.cell? ⟨w.heap.size + 1, 1, none⟩ = some (.float .f64 y) ∧ w'.cell? ⟨w.heap.size + 1, 2, none⟩ = some (.string t)) (first | exact ⟨g0, g1, g2, n0, n1, n2⟩ | exact ⟨p0, p1, p2, q0, q1, q2⟩)
    (first
      | (go_at_call 39; refine (HN1.out _).mono ?_; clear HN1; rintro e w2 ⟨rfl, hb2⟩; have p0 := cell_next hb2 g0; have p1 := cell_next hb2 g1; have p2 := cell_next hb2 g2; have q0 := cell_next hb2 n0; have q1 := cell_next hb2 n1; have q2 := cell_next hb2 n2; have HB2 := Lib.hid (below_next (Nat.le_refl _) HB0.out hb2 (by first | exact .inl rfl | exact .inr rfl)))
      | (go_at_call 39; refine (HN2.out _).mono ?_; clear HN2; rintro e w3 ⟨rfl, hb3⟩; have p0 := cell_next hb3 p0; have p1 := cell_next hb3 p1; have p2 := cell_next hb3 p2; have q0 := cell_next hb3 q0; have q1 := cell_next hb3 q1; have q2 := cell_next hb3 q2; have HB3 := Lib.hid (below_next (Nat.le_refl _) HB2.out hb3 (by first | exact .inl rfl | exact .inr rfl)))
      | (go_at_call 64; refine (HO.out _).mono ?_; clear HO; rintro e w4 ⟨rfl, hb4⟩; have p0 := cell_next hb4 p0; have p1 := cell_next hb4 p1; have p2 := cell_next hb4 p2; have q0 := cell_next hb4 q0; have q1 := cell_next hb4 q1; have q2 := cell_next hb4 q2; have HB4 := Lib.hid (below_next (Nat.le_refl _) HB3.out hb4 (by first | exact .inl rfl | exact .inr rfl))))
  all_goals go_wp2_with fail
  all_goals go_ret
  all_goals exact ⟨rfl, HB4.out⟩

/-- two values compared -/
noncomputable def cmpC (k1 : Int) (x : Nat) (s : ByteArray) (k2 : Int) (y : Nat) (t : ByteArray) : Int :=
  if k1 ≠ 2 ∧ k2 ≠ 2 then ordN (numC k1 x s) (numC k2 y t) else Lib.compareBytes (strC k1 x s).data.toList (strC k2 y t).data.toList
theorem Compare_all (k1 k2 : Int) (x y : Nat) (s t : ByteArray) (w : World) (hx : x < 18446744073709551616) (hy : y < 18446744073709551616) (hs : s.size ≤ 140737488355328) (ht : t.size ≤ 140737488355328) (hE : ErrOk w) (hT : PowOk w) :
    Calls Tryz.prog 24 #[.agg (cellA k1 x s), .agg (cellA k2 y t), .string ⟨#[37, 46, 54, 103]⟩] w fun e w' => e = .returned (.int .i64 (cmpC k1 x s k2 y t)) ∧ Below w.heap.size w w' := by
  by_cases h : k1 ≠ 2 ∧ k2 ≠ 2
  · rw [show cmpC k1 x s k2 y t = ordN (numC k1 x s) (numC k2 y t) from if_pos h]
    exact Compare_numsG k1 k2 x y _ _ _ s t _ w (by simpa using h.1) (by simpa using h.2) (fun W => Num_all k1 x s W hs) (fun W => Num_all k2 y t W ht) (fun W => order_all _ _ W)
  · rw [show cmpC k1 x s k2 y t = Lib.compareBytes (strC k1 x s).data.toList (strC k2 y t).data.toList from if_neg h]
    exact Compare_strs k1 k2 x y s t _ _ _ w (by omega) (fun W hb => Str_all k1 x s W hx (hE.below hb) (hT.below hb)) (fun W hb => Str_all k2 y t W hy (hE.below hb) (hT.below hb))
end Go.Proofs.YtcmpdamfeoaapaaGreatDoor
end

section
/- Plain: floats and bytes are ordered. -/
namespace Go.Proofs.YtcmpdamfeoaapaaGreatDoor
open Go.RowKit

theorem cmpB_anti : ∀ a b : List UInt8, Lib.compareBytes b a = -Lib.compareBytes a b
  | [], [] => rfl
  | [], _ :: _ => rfl
  | _ :: _, [] => rfl
  | a :: l, b :: m => by
    have ih := cmpB_anti l m
    show (if b < a then (-1 : Int) else if a < b then 1 else Lib.compareBytes m l) = -(if a < b then (-1 : Int) else if b < a then 1 else Lib.compareBytes l m)
    by_cases h1 : a < b
    · have h2 : ¬ b < a := fun h => by have := UInt8.lt_iff_toNat_lt.1 h; have := UInt8.lt_iff_toNat_lt.1 h1; omega
      rw [if_neg h2, if_pos h1, if_pos h1]; rfl
    · by_cases h2 : b < a
      · rw [if_pos h2, if_neg h1, if_pos h2]
      · rw [if_neg h2, if_neg h1, if_neg h1, if_neg h2, ih]
theorem cmpB_self (a : List UInt8) : Lib.compareBytes a a = 0 := by
  have := cmpB_anti a a
  omega
theorem cmpB_trans : ∀ a b c : List UInt8, Lib.compareBytes a b ≤ 0 → Lib.compareBytes b c ≤ 0 → Lib.compareBytes a c ≤ 0 ∧ ((Lib.compareBytes a b = 0 ∧ Lib.compareBytes b c = 0) ↔ Lib.compareBytes a c = 0)
  | [], [], [] => by decide
  | [], [], _ :: _ => fun _ _ => ⟨by show (-1 : Int) ≤ 0; decide, ⟨fun h => absurd h.2 (by show ¬ ((-1 : Int) = 0); decide), fun h => absurd h (by show ¬ ((-1 : Int) = 0); decide)⟩⟩
  | [], _ :: _, [] => fun _ h => absurd h (by show ¬ ((1 : Int) ≤ 0); decide)
  | [], _ :: _, _ :: _ => fun _ _ => ⟨by show (-1 : Int) ≤ 0; decide, ⟨fun h => absurd h.1 (by show ¬ ((-1 : Int) = 0); decide), fun h => absurd h (by show ¬ ((-1 : Int) = 0); decide)⟩⟩
  | _ :: _, [], _ => fun h _ => absurd h (by show ¬ ((1 : Int) ≤ 0); decide)
  | _ :: _, _ :: _, [] => fun _ h => absurd h (by show ¬ ((1 : Int) ≤ 0); decide)
  | a :: l, b :: m, c :: n => by
    have ih := cmpB_trans l m n
    show (if a < b then (-1 : Int) else if b < a then 1 else Lib.compareBytes l m) ≤ 0 → (if b < c then (-1 : Int) else if c < b then 1 else Lib.compareBytes m n) ≤ 0 →
      (if a < c then (-1 : Int) else if c < a then 1 else Lib.compareBytes l n) ≤ 0 ∧ (((if a < b then (-1 : Int) else if b < a then 1 else Lib.compareBytes l m) = 0 ∧ (if b < c then (-1 : Int) else if c < b then 1 else Lib.compareBytes m n) = 0) ↔ (if a < c then (-1 : Int) else if c < a then 1 else Lib.compareBytes l n) = 0)
    simp only [UInt8.lt_iff_toNat_lt]
    generalize a.toNat = x
    generalize b.toNat = y
    generalize c.toNat = z
    generalize Lib.compareBytes l m = p at *
    generalize Lib.compareBytes m n = q at *
    generalize Lib.compareBytes l n = r at *
    intro h1 h2
    by_cases hp : p ≤ 0 <;> by_cases hq : q ≤ 0
    · have ih2 := ih hp hq
      constructor <;> (repeat' split at *) <;> omega
    all_goals
      clear ih
      constructor <;> (repeat' split at *) <;> omega

/-- a float's place among the floats -/
def keyF (b : Nat) : Int := if b < 9223372036854775808 then (b : Int) else -((b : Int) - 9223372036854775808)
theorem vl_zero : vl 0 = 0 := by decide
theorem vl_pos {a : Nat} (h : 0 < a) : 0 < vl a := by
  have := vl_lt h
  rw [vl_zero] at this
  exact this
theorem read_ninf : FloatKind.f64.format.read 18442240474082181120 = .infinity true := by decide
/-- the four ways that a float that is a number reads -/
theorem read_ways {x : Nat} (h1 : x < 18446744073709551616) (h2 : x % 9223372036854775808 ≤ 9218868437227405312) :
    (x < 9218868437227405312 ∧ FloatKind.f64.format.read x = .number false (mof x) ((jof x : Int) - 1074)) ∨
    (∃ a, a < 9218868437227405312 ∧ x = a + 9223372036854775808 ∧ FloatKind.f64.format.read x = .number true (mof a) ((jof a : Int) - 1074)) ∨
    (x = 9218868437227405312 ∧ FloatKind.f64.format.read x = .infinity false) ∨ (x = 18442240474082181120 ∧ FloatKind.f64.format.read x = .infinity true) := by
  rcases Nat.lt_or_ge x 9223372036854775808 with h | h
  · rcases Nat.lt_or_ge x 9218868437227405312 with h3 | h3
    · exact .inl ⟨h3, read_fin h3⟩
    · have e : x = 9218868437227405312 := by omega
      subst e
      exact .inr (.inr (.inl ⟨rfl, read_inf⟩))
  · obtain ⟨a, rfl⟩ : ∃ a, x = a + 9223372036854775808 := ⟨x - 9223372036854775808, by omega⟩
    rcases Nat.lt_or_ge a 9218868437227405312 with h3 | h3
    · exact .inr (.inl ⟨a, h3, rfl, read_neg h3⟩)
    · have e : a = 9218868437227405312 := by omega
      subst e
      exact .inr (.inr (.inr ⟨rfl, read_ninf⟩))
theorem cmp_int {a b c d : Int} (h1 : a < b ↔ c < d) (h2 : b < a ↔ d < c) : compare a b = compare c d := by
  rcases Int.lt_trichotomy a b with h | h | h
  · rw [Int.compare_eq_lt.2 h, Int.compare_eq_lt.2 (h1.1 h)]
  · subst h
    have e : c = d := by
      have := mt h1.2 (Int.lt_irrefl a)
      have := mt h2.2 (Int.lt_irrefl a)
      omega
    subst e
    rw [Int.compare_eq_eq.2 rfl, Int.compare_eq_eq.2 rfl]
  · rw [Int.compare_eq_gt.2 h, Int.compare_eq_gt.2 (h2.1 h)]
theorem vl_iff (a c : Nat) : (vl a < vl c ↔ a < c) := by
  constructor
  · intro h
    rcases Nat.lt_or_ge a c with h1 | h1
    · exact h1
    · rcases Nat.eq_or_lt_of_le h1 with h2 | h2
      · subst h2; exact absurd h (Nat.lt_irrefl _)
      · have := vl_lt h2; omega
  · exact vl_lt
theorem keyF_pos {b : Nat} (h : b < 9223372036854775808) : keyF b = (b : Int) := by unfold keyF; rw [if_pos h]
theorem keyF_neg (a : Nat) : keyF (a + 9223372036854775808) = -(a : Int) := by unfold keyF; rw [if_neg (by omega)]; omega
theorem keyF_inf : keyF 9218868437227405312 = 9218868437227405312 := by decide
theorem keyF_ninf : keyF 18442240474082181120 = -9218868437227405312 := by decide
theorem vl_sign (a : Nat) : 0 < vl a ↔ 0 < a := by
  have := vl_iff 0 a
  rw [vl_zero] at this
  exact this
theorem order_key {x y : Nat} (hx : x < 18446744073709551616) (hy : y < 18446744073709551616) (nx : x % 9223372036854775808 ≤ 9218868437227405312) (ny : y % 9223372036854775808 ≤ 9218868437227405312) :
    FloatKind.f64.format.order x y = some (compare (keyF x) (keyF y)) := by
  unfold Ieee.Format.order
  rcases read_ways hx nx with ⟨h1, e1⟩ | ⟨a, h1, rfl, e1⟩ | ⟨rfl, e1⟩ | ⟨rfl, e1⟩ <;> rcases read_ways hy ny with ⟨h2, e2⟩ | ⟨c, h2, rfl, e2⟩ | ⟨rfl, e2⟩ | ⟨rfl, e2⟩ <;> first | rw [e1, e2] | rw [e1]
  · rw [order_num, keyF_pos (show x < 9223372036854775808 by omega), keyF_pos (show y < 9223372036854775808 by omega)]
    have g1 := vl_iff x y
    have g2 := vl_iff y x
    refine congrArg some ?_
    apply cmp_int <;> simp <;> omega
  · rw [order_num, keyF_pos (show x < 9223372036854775808 by omega), keyF_neg c]
    have g1 := vl_sign x
    have g2 := vl_sign c
    refine congrArg some ?_
    apply cmp_int <;> simp <;> omega
  · rw [keyF_pos (show x < 9223372036854775808 by omega), keyF_inf, Int.compare_eq_lt.2 (by omega)]
    rfl
  · rw [keyF_pos (show x < 9223372036854775808 by omega), keyF_ninf, Int.compare_eq_gt.2 (by omega)]
    rfl
  · rw [order_num, keyF_neg a, keyF_pos (show y < 9223372036854775808 by omega)]
    have g1 := vl_sign y
    have g2 := vl_sign a
    refine congrArg some ?_
    apply cmp_int <;> simp <;> omega
  · rw [order_num, keyF_neg a, keyF_neg c]
    have g1 := vl_iff a c
    have g2 := vl_iff c a
    refine congrArg some ?_
    apply cmp_int <;> simp <;> omega
  · rw [keyF_neg a, keyF_inf, Int.compare_eq_lt.2 (by omega)]
    rfl
  · rw [keyF_neg a, keyF_ninf, Int.compare_eq_gt.2 (by omega)]
    rfl
  · rw [keyF_inf, keyF_pos (show y < 9223372036854775808 by omega), Int.compare_eq_gt.2 (by omega)]
    rfl
  · rw [keyF_inf, keyF_neg c, Int.compare_eq_gt.2 (by omega)]
    rfl
  · decide
  · decide
  · rw [keyF_ninf, keyF_pos (show y < 9223372036854775808 by omega), Int.compare_eq_lt.2 (by omega)]
    rfl
  · rw [keyF_ninf, keyF_neg c, Int.compare_eq_lt.2 (by omega)]
    rfl
  · decide
  · decide
theorem read_nanG {b : Nat} (h : 9218868437227405312 < b % 9223372036854775808) : ∃ s f, FloatKind.f64.format.read b = .nan s f := by
  have e1 : FloatKind.f64.format.signWeight = 9223372036854775808 := by decide
  have e2 : FloatKind.f64.format.binade = 4503599627370496 := by decide
  have e3 : FloatKind.f64.format.infRung = 9218868437227405312 := by decide
  unfold Ieee.Format.read
  simp only [e1, e2, e3]
  rw [if_neg (by omega), if_neg (by omega), if_neg (by omega)]
  exact ⟨_, _, rfl⟩
theorem nan_not {x : Nat} (h : nanF x = false) : x % 9223372036854775808 ≤ 9218868437227405312 := by
  rcases Nat.lt_or_ge 9218868437227405312 (x % 9223372036854775808) with h1 | h1
  · exfalso
    obtain ⟨s, f, hr⟩ := read_nanG h1
    unfold nanF Ieee.Format.order at h
    rw [hr] at h
    have e : (Ieee.Datum.nan s f).order (Ieee.Datum.nan s f) = none := rfl
    rw [e] at h
    exact absurd h (by decide)
  · exact h1
theorem ordN_val {x y : Nat} (hx : x < 18446744073709551616) (hy : y < 18446744073709551616) :
    ordN x y = if nanF x = true then (if nanF y = true then 0 else 1) else if nanF y = true then -1 else if keyF x < keyF y then -1 else if keyF y < keyF x then 1 else 0 := by
  unfold ordN
  cases h1 : nanF x
  · cases h2 : nanF y
    · show ordF x y = _
      unfold ordF
      rw [order_key hx hy (nan_not h1) (nan_not h2)]
      simp only [Bool.false_eq_true, if_false]
      rcases Int.lt_trichotomy (keyF x) (keyF y) with h | h | h
      · rw [Int.compare_eq_lt.2 h, if_pos h]; rfl
      · rw [h, Int.compare_eq_eq.2 rfl, if_neg (Int.lt_irrefl (keyF y)), if_neg (Int.lt_irrefl (keyF y))]; rfl
      · rw [Int.compare_eq_gt.2 h, if_neg (show ¬ keyF x < keyF y by omega), if_pos h]; rfl
    · rfl
  · cases h2 : nanF y
    · rfl
    · rfl
theorem ordN_anti {x y : Nat} (hx : x < 18446744073709551616) (hy : y < 18446744073709551616) : ordN y x = -ordN x y := by
  rw [ordN_val hx hy, ordN_val hy hx]
  cases nanF x <;> cases nanF y <;> simp only [Bool.false_eq_true, if_false, if_true] <;> (repeat' split) <;> omega
theorem ordN_self {x : Nat} (hx : x < 18446744073709551616) : ordN x x = 0 := by
  have := ordN_anti hx hx
  omega
theorem sgn_trans (a b c : Int) : (if a < b then (-1 : Int) else if b < a then 1 else 0) ≤ 0 → (if b < c then (-1 : Int) else if c < b then 1 else 0) ≤ 0 →
    (if a < c then (-1 : Int) else if c < a then 1 else 0) ≤ 0 ∧ (((if a < b then (-1 : Int) else if b < a then 1 else 0) = 0 ∧ (if b < c then (-1 : Int) else if c < b then 1 else 0) = 0) ↔ (if a < c then (-1 : Int) else if c < a then 1 else 0) = 0) := by
  intro h1 h2
  have g1 : a ≤ b := by
    rcases Int.lt_or_le b a with h | h
    · rw [if_neg (by omega), if_pos h] at h1; omega
    · exact h
  have g2 : b ≤ c := by
    rcases Int.lt_or_le c b with h | h
    · rw [if_neg (by omega), if_pos h] at h2; omega
    · exact h
  rw [if_neg (show ¬ c < a by omega), if_neg (show ¬ b < a by omega), if_neg (show ¬ c < b by omega)]
  constructor
  · split <;> omega
  · by_cases e1 : a < b <;> by_cases e2 : b < c <;> by_cases e3 : a < c <;> simp [e1, e2, e3] <;> omega
theorem ordN_trans {x y z : Nat} (hx : x < 18446744073709551616) (hy : y < 18446744073709551616) (hz : z < 18446744073709551616) : ordN x y ≤ 0 → ordN y z ≤ 0 →
    ordN x z ≤ 0 ∧ ((ordN x y = 0 ∧ ordN y z = 0) ↔ ordN x z = 0) := by
  rw [ordN_val hx hy, ordN_val hy hz, ordN_val hx hz]
  have h := sgn_trans (keyF x) (keyF y) (keyF z)
  generalize (if keyF x < keyF y then (-1 : Int) else if keyF y < keyF x then 1 else 0) = p at *
  generalize (if keyF y < keyF z then (-1 : Int) else if keyF z < keyF y then 1 else 0) = q at *
  generalize (if keyF x < keyF z then (-1 : Int) else if keyF z < keyF x then 1 else 0) = r at *
  cases nanF x <;> cases nanF y <;> cases nanF z <;> simp only [Bool.false_eq_true, if_false, if_true]
  · exact h
  all_goals
    intro h1 h2
    clear h
    first | (exfalso; omega) | (constructor <;> simp)
theorem prefB_lt (l : List UInt8) : prefB l < 18446744073709551616 := by
  have h : prefV l < 9223372036854775808 := by
    unfold prefV
    split
    · omega
    · exact readN_le _ _
  unfold prefB
  split <;> omega
theorem numC_lt (k : Int) {x : Nat} (s : ByteArray) (hx : x < 18446744073709551616) : numC k x s < 18446744073709551616 := by
  unfold numC
  split
  · exact hx
  · split
    · exact prefB_lt _
    · omega

section
variable {k1 k2 k3 : Int} {x1 x2 x3 : Nat} {s1 s2 s3 : ByteArray}
theorem cmpC_anti (h1 : x1 < 18446744073709551616) (h2 : x2 < 18446744073709551616) : cmpC k2 x2 s2 k1 x1 s1 = -cmpC k1 x1 s1 k2 x2 s2 := by
  unfold cmpC
  by_cases h : k1 ≠ 2 ∧ k2 ≠ 2
  · rw [if_pos h, if_pos ⟨h.2, h.1⟩]
    exact ordN_anti (numC_lt _ _ h1) (numC_lt _ _ h2)
  · rw [if_neg h, if_neg (fun g => h ⟨g.2, g.1⟩)]
    exact cmpB_anti _ _
theorem cmpC_self (h1 : x1 < 18446744073709551616) : cmpC k1 x1 s1 k1 x1 s1 = 0 := by
  have := cmpC_anti (k1 := k1) (k2 := k1) (s1 := s1) (s2 := s1) h1 h1
  omega
theorem cmpC_num {k1 k2 : Int} {x1 x2 : Nat} {s1 s2 : ByteArray} (h1 : k1 ≠ 2) (h2 : k2 ≠ 2) : cmpC k1 x1 s1 k2 x2 s2 = ordN (numC k1 x1 s1) (numC k2 x2 s2) := if_pos ⟨h1, h2⟩
theorem cmpC_str {x1 x2 : Nat} {s1 s2 : ByteArray} : cmpC 2 x1 s1 2 x2 s2 = Lib.compareBytes (strC 2 x1 s1).data.toList (strC 2 x2 s2).data.toList := if_neg (fun h => h.1 rfl)
theorem cmpC_trans (h1 : x1 < 18446744073709551616) (h2 : x2 < 18446744073709551616) (h3 : x3 < 18446744073709551616) (ht : (k1 = 2 ∧ k2 = 2 ∧ k3 = 2) ∨ (k1 ≠ 2 ∧ k2 ≠ 2 ∧ k3 ≠ 2))
    (hp : cmpC k1 x1 s1 k2 x2 s2 ≤ 0) (hq : cmpC k2 x2 s2 k3 x3 s3 ≤ 0) :
    cmpC k1 x1 s1 k3 x3 s3 ≤ 0 ∧ ((cmpC k1 x1 s1 k2 x2 s2 = 0 ∧ cmpC k2 x2 s2 k3 x3 s3 = 0) ↔ cmpC k1 x1 s1 k3 x3 s3 = 0) := by
  rcases ht with ⟨rfl, rfl, rfl⟩ | ⟨g1, g2, g3⟩
  · rw [cmpC_str] at hp hq
    rw [cmpC_str, cmpC_str, cmpC_str]
    exact cmpB_trans _ _ _ hp hq
  · rw [cmpC_num g1 g2] at hp
    rw [cmpC_num g2 g3] at hq
    rw [cmpC_num g1 g2, cmpC_num g2 g3, cmpC_num g1 g3]
    exact ordN_trans (numC_lt _ _ h1) (numC_lt _ _ h2) (numC_lt _ _ h3) hp hq
end
end Go.Proofs.YtcmpdamfeoaapaaGreatDoor
end

section
/- The world of the witnesses: the settled one, with the eight listed tables. -/
namespace Go.Proofs.YtcmpdamfeoaapaaGreatDoor
open Go.ChangeShapes Go.WideShapes Go.ChangeAt Go.RowKit Go.Lib

theorem own : ownKnob Tryz.prog.godebug = none := by kernel_rfl
/-- the numbers of a datum, one behind the other -/
def flatU (d : DataW Unit) : List Value := match d with
  | .agg l => l.flatMap fun x => match x with
    | .lit (.int k z) => [.int k z]
    | .agg m => m.filterMap fun y => match y with
      | .lit (.int k z) => some (.int k z)
      | _ => none
    | _ => []
  | _ => []
/-- the text of an error's datum -/
def textU (d : DataW Unit) : List UInt8 := match d with
  | .iface _ (.ptr (.agg [.lit (.string s)])) => s
  | _ => []
def putCells (c : Array Value) : Obj → Obj
  | .cells _ t frozen => .cells c t frozen
  | o => o
/-- the blocks that the two errors and unicode.CaseRanges lead to -/
noncomputable def leadBlocks : Array Obj := #[.cells #[.string ⟨(textU Rows.laid_strconv_ErrRange).toArray⟩] 282, .cells #[.string ⟨(textU Rows.laid_strconv_ErrSyntax).toArray⟩] 282, .cells Lib.caseCells5 (Tryz.lays262_ren.t 208)]
noncomputable def laidWorld (os : Os) : World :=
  let N := (World.settled Tryz.prog os).heap.size
  { World.holding Tryz.prog os ⟨leadBlocks, #[], []⟩ with
    heap := ((((((((World.holding Tryz.prog os ⟨leadBlocks, #[], []⟩).heap.modify 3 (putCells (flatU Rows.laid_unicode_utf8_acceptRanges).toArray)).modify 2 (putCells (flatU Rows.laid_unicode_utf8_first).toArray)).modify 8 (putCells (flatU Rows.laid_internal_strconv_uint64pow10).toArray)).modify 9 (putCells (flatU Rows.laid_math_bits_deBruijn32tab).toArray)).modify 10 (putCells (flatU Rows.laid_math_bits_deBruijn64tab).toArray)).modify 7 (putCells #[.iface 280 (.pointer (some ⟨N, 0, none⟩))])).modify 6 (putCells #[.iface 280 (.pointer (some ⟨N + 1, 0, none⟩))])).modify 4 (putCells #[.slice (some ⟨N + 2, 0, none⟩) 336 336]) }
theorem wf_u64 {n : Int} (h : (Lit.int .u64 n).wf = true) : 0 ≤ n ∧ n < 18446744073709551616 := by
  have h2 : (decide (IntKind.u64.min ≤ n) && decide (n ≤ IntKind.u64.max)) = true := h
  rw [Bool.and_eq_true, decide_eq_true_eq, decide_eq_true_eq, show IntKind.u64.min = 0 by decide, show IntKind.u64.max = 18446744073709551615 by decide] at h2
  omega
theorem wf_i64 {n : Int} (h : (Lit.int .i64 n).wf = true) : -9223372036854775808 ≤ n ∧ n ≤ 9223372036854775807 := by
  have h2 : (decide (IntKind.i64.min ≤ n) && decide (n ≤ IntKind.i64.max)) = true := h
  rw [Bool.and_eq_true, decide_eq_true_eq, decide_eq_true_eq, show IntKind.i64.min = -9223372036854775808 by decide, show IntKind.i64.max = 9223372036854775807 by decide] at h2
  omega

theorem laidVars_split {P : Program} {w : World} : ∀ {l l' : List (String × DataW Unit)} {ps : List MemPlace}, DataW.LaidVars P w (l ++ l') ps → ∃ p q, ps = p ++ q ∧ DataW.LaidVars P w l p ∧ DataW.LaidVars P w l' q
  | [], _, ps, h => ⟨[], ps, rfl, rfl, h⟩
  | (n, d) :: r, l', ps, h => by
    obtain ⟨g, t, cs, fuel, p, q, h1, h2, h3, h4, h5, rfl⟩ := h
    obtain ⟨p', q', rfl, h6, h7⟩ := laidVars_split h5
    exact ⟨_, q', (List.append_assoc ..).symm, ⟨g, t, cs, fuel, p, p', h1, h2, h3, h4, h6, rfl⟩, h7⟩
theorem laidMet_swap {P : Program} {w : World} {l a b : List (String × DataW Unit)} (h : laidMet P (l ++ a ++ b) w) : laidMet P (l ++ b ++ a) w := by
  obtain ⟨ps, h1, h2, h3⟩ := h
  obtain ⟨p, q, rfl, h4, h5⟩ := laidVars_split h1
  obtain ⟨p1, p2, rfl, h6, h7⟩ := laidVars_split h4
  have hp : (p1 ++ q ++ p2).Perm (p1 ++ p2 ++ q) := by
    rw [List.append_assoc, List.append_assoc]
    exact List.Perm.append_left p1 List.perm_append_comm
  exact ⟨p1 ++ q ++ p2, LaidVars_append (LaidVars_append h6 h5) h7, hp.nodup_iff.2 h2, fun b off hm => h3 b off (hp.mem_iff.1 hm)⟩

/-- what the rows list, unicode.CaseRanges last -/
def smallL : List (String × DataW Unit) := [("math/bits.deBruijn32tab", Rows.laid_math_bits_deBruijn32tab), ("math/bits.deBruijn64tab", Rows.laid_math_bits_deBruijn64tab), ("internal/strconv.uint64pow10", Rows.laid_internal_strconv_uint64pow10), ("unicode/utf8.acceptRanges", Rows.laid_unicode_utf8_acceptRanges), ("strconv.ErrRange", Rows.laid_strconv_ErrRange), ("strconv.ErrSyntax", Rows.laid_strconv_ErrSyntax)]
theorem case_data : Rows.laid_unicode_CaseRanges = (Lib.caseData : DataW Unit) := by kernel_rfl
theorem laid_small (os : Os) (args : Array Value) : laidMet Tryz.prog ((smallL ++ [("unicode/utf8.first", Rows.laid_unicode_utf8_first)]) ++ [("unicode.CaseRanges", Lib.caseData)]) ((laidWorld os).forCall (fun _ _ => 0) ⟨#[], args, []⟩).memory :=
  laidMet_with_case (ρ := Tryz.lays262_ren) { Tryz.lays262 with } (by kernel_rfl) ⟨by kernel_rfl, by kernel_rfl, by kernel_rfl, by kernel_rfl, by kernel_rfl, by kernel_rfl⟩
    (l := smallL ++ [("unicode/utf8.first", Rows.laid_unicode_utf8_first)])
    10 (by kernel_rfl) (by kernel_rfl) (by kernel_rfl) ((World.settled Tryz.prog default).heap.size + 2) (Tryz.lays262_ren.t 208) (of_decide_eq_true (by kernel_rfl)) (by kernel_rfl) (by kernel_rfl) (by kernel_rfl)
theorem laid_met (os : Os) (args : Array Value) : laidMet Tryz.prog (smallL ++ [("unicode.CaseRanges", Rows.laid_unicode_CaseRanges)] ++ [("unicode/utf8.first", Rows.laid_unicode_utf8_first)]) ((laidWorld os).forCall (fun _ _ => 0) ⟨#[], args, []⟩).memory := by
  rw [case_data]
  exact laidMet_swap (laid_small os args)
end Go.Proofs.YtcmpdamfeoaapaaGreatDoor
end

section
/- What the rows' listed tables say of strconv.ErrSyntax. -/
namespace Go.Proofs.YtcmpdamfeoaapaaGreatDoor
open Go.ChangeShapes Go.WideShapes Go.ChangeAt Go.RowKit Go.Lib

theorem starE : "*" ++ "errors.errorString" = "*errors.errorString" := by decide
theorem rowE (u : TypeId) (h : Tryz.prog.typeName? 3 u = some "*errors.errorString") : u = 280 :=
  typeName_ptr_named (nm := "errors.errorString") (by rw [starE]; kernel_rfl) (by kernel_rfl) (by decide) u (by rw [starE]; exact h)
/-- what the laws of this seat list -/
def seatLaid : List (String × DataW Unit) := Rows.printfWritesRow.laid
theorem tabs_of {W : World} (hL : laidMetH Tryz.prog seatLaid W) (hS : W.ShapedOpen Tryz.prog) : ErrOk W := by
  have h := (laidMetH_iff.1 hL).1
  rw [show (seatLaid.filter fun x => x.2.handleName?.isNone) = seatLaid from by kernel_rfl] at h
  have h5 := laidMet.tail (laidMet.tail (laidMet.tail (laidMet.tail (laidMet.tail h))))
  obtain ⟨a0, s0, hv0, -, -, -⟩ := laid_sentinel h5 (g := 6) (ti := 110) (tp := 280) (te := 282) (ts := 9) (by kernel_rfl) (by kernel_rfl) Tryz.underlying110 rowE Tryz.underlying280 Tryz.underlying282 rfl rfl Tryz.underlying9 (by kernel_rfl) (by kernel_rfl)
  exact ⟨_, by have h0 := World.var?_cell (show Tryz.prog.globalNamed "strconv.ErrSyntax" = some 6 from by kernel_rfl) hv0 0; simpa using h0, .inr ⟨_, _, rfl⟩⟩
end Go.Proofs.YtcmpdamfeoaapaaGreatDoor
end

section
/- What the rows' listed tables say of all that the walks want. -/
namespace Go.Proofs.YtcmpdamfeoaapaaGreatDoor
open Go.ChangeShapes Go.WideShapes Go.ChangeAt Go.RowKit Go.Lib

theorem tabIs_of_reads {W : World} {name : String} {k : IntKind} {zs : List Int} {g : Nat} {t e : TypeId} {n : Nat}
    (hg : Tryz.prog.globalNamed name = some g) (hty : (Tryz.prog.globals[g]?).map (·.type) = some t) (ht : Tryz.prog.underlying t = some (.array n e)) (he : Tryz.prog.underlying e = some (.int k)) (hce : Tryz.prog.cellsOf e = 1) (hct : Tryz.prog.cellsOf t = n)
    (h : Lib.VarReads Tryz.prog W name (Lib.tabData k zs)) : Lib.TabIs Tryz.prog W name k zs := by
  obtain ⟨g', t', cs, fuel, p, hg', ht', hvar, hd⟩ := h
  obtain rfl := Option.some.inj (hg.symm.trans hg')
  obtain rfl := Option.some.inj (hty.symm.trans ht')
  unfold Lib.TabIs
  rw [hvar, ← Lib.cells_of_tab ht he hce hct hd]
structure Tabs5 (W : World) : Prop where
  err : ErrOk W
  pow : PowOk W
  utf : U8Ok W
theorem tabs5_of {W : World} (hL : laidMetH Tryz.prog seatLaid W) (hS : W.ShapedOpen Tryz.prog) : Tabs5 W := by
  have h := (laidMetH_iff.1 hL).1
  have hr : ∀ (n : String) (d : DataW Unit), (n, d) ∈ seatLaid → d.handleName?.isNone = true → Lib.VarReads Tryz.prog W n d := fun n d hm hn => Lib.laidMet.reads h (List.mem_filter.2 ⟨hm, hn⟩)
  have e1 : Rows.laid_internal_strconv_uint64pow10 = (Lib.tabData .u64 Lib.pow10Tab : DataW Unit) := by kernel_rfl
  have e3 : Rows.laid_unicode_utf8_first = firstData := by kernel_rfl
  have e4 : Rows.laid_unicode_utf8_acceptRanges = acceptData := by kernel_rfl
  have r1 := hr "internal/strconv.uint64pow10" Rows.laid_internal_strconv_uint64pow10 (.tail _ (.tail _ (.head _))) (by kernel_rfl)
  have r3 := hr "unicode/utf8.first" Rows.laid_unicode_utf8_first (.tail _ (.tail _ (.tail _ (.tail _ (.tail _ (.tail _ (.tail _ (.head _)))))))) (by kernel_rfl)
  have r4 := hr "unicode/utf8.acceptRanges" Rows.laid_unicode_utf8_acceptRanges (.tail _ (.tail _ (.tail _ (.head _)))) (by kernel_rfl)
  rw [e1] at r1
  rw [e3] at r3
  rw [e4] at r4
  refine ⟨tabs_of hL hS, ?_, ?_⟩
  · exact tabIs_of_reads (g := 8) (t := 275) (e := 28) (n := 20) (by kernel_rfl) (by kernel_rfl) (by kernel_rfl) (by kernel_rfl) (by kernel_rfl) (by kernel_rfl) r1
  · exact utf8Tabs_of_reads Tryz.lays260 ⟨by kernel_rfl, by kernel_rfl, by kernel_rfl, by kernel_rfl, by kernel_rfl, by kernel_rfl, by kernel_rfl⟩ r3 r4
end Go.Proofs.YtcmpdamfeoaapaaGreatDoor
end

section
/- FormatBack, walked, on what Prefix reads. -/
namespace Go.Proofs.YtcmpdamfeoaapaaGreatDoor
open Go.RowKit
set_option linter.unusedVariables false

theorem floatO_size (m p bl al z : Bool) (wd pr : Int) (vb b : Nat) (w : World) (hb : b < 18446744073709551616) (hf : fin b = true) (hp2 : pr ≤ 190) (hw2 : wd ≤ 1024) (hT : PowOk w) : (floatO m p bl al z wd pr vb b).size ≤ 20000 := by
  have hbo := (bodyF_ok al vb hb hf (precF_le hp2) hT).2
  have hsl := signL_size5 p bl (decide (9223372036854775808 ≤ b))
  have hpl := padL_size5 (m := m) (z := z) (h := signL p bl (decide (9223372036854775808 ≤ b))) (s := (bodyF al vb (precF pr) b).data.toList) hw2
  rw [← sz_list (bodyF al vb (precF pr) b)] at hpl
  unfold floatO
  split
  · show (Lib.toUpperA (padO m p bl al z wd pr vb b)).length ≤ _
    unfold Lib.toUpperA padO
    rw [List.length_map]
    omega
  · show (padO m p bl al z wd pr vb b).length ≤ _
    unfold padO
    omega
theorem SpAt.set {W : World} {B : Nat} {A : Array Value} (h : SpAt W B A) (i : Nat) (v : Value) : SpAt (W.setCell ⟨B, i, none⟩ v) B (A.setIfInBounds i v) := setCell_heap_same h i v
theorem fin_mod {b : Nat} : fin b = true ↔ b % 9223372036854775808 < 9218868437227405312 := by
  unfold fin
  simp
  omega
theorem fin_order {b : Nat} (hb : b < 18446744073709551616) (hf : fin b = true) : FloatKind.f64.format.order b b = some .eq ∧ (FloatKind.f64.format.order b 9218868437227405311 == some .gt) = false ∧ (FloatKind.f64.format.order b 18442240474082181119 == some .lt) = false := by
  have h := fin_mod.1 hf
  have k1 : keyF b ≤ 9218868437227405311 := by unfold keyF; split <;> omega
  have k2 : -9218868437227405311 ≤ keyF b := by unfold keyF; split <;> omega
  refine ⟨?_, ?_, ?_⟩
  · rw [order_key hb hb (by omega) (by omega), Int.compare_eq_eq.2 rfl]
  · rw [order_key hb (by decide) (by omega) (by decide), show keyF 9218868437227405311 = 9218868437227405311 by decide]
    rcases Int.lt_trichotomy (keyF b) 9218868437227405311 with h | h | h
    · rw [Int.compare_eq_lt.2 h]; rfl
    · rw [Int.compare_eq_eq.2 h]; rfl
    · omega
  · rw [order_key hb (by decide) (by omega) (by decide), show keyF 18442240474082181119 = -9218868437227405311 by decide]
    rcases Int.lt_trichotomy (keyF b) (-9218868437227405311) with h | h | h
    · omega
    · rw [Int.compare_eq_eq.2 h]; rfl
    · rw [Int.compare_eq_gt.2 h]; rfl

end Go.Proofs.YtcmpdamfeoaapaaGreatDoor
end

section
/- What Prefix reads of a text with blanks, a sign, noughts, digits and a power: plain. -/
namespace Go.Proofs.YtcmpdamfeoaapaaGreatDoor
open Go.RowKit
set_option linter.unusedVariables false

theorem lead_cat5 {l : List UInt8} (h : Digits l) (t : List UInt8) : lead (l ++ t) = l ++ lead t := by
  unfold lead
  rw [List.takeWhile_append_of_pos]
  intro c hc
  exact (digs_iff c).2 (h c hc)
/-- no digit stands ahead -/
def NoDig (t : List UInt8) : Prop := ∀ c r, t = c :: r → ¬ (48 ≤ c.toNat ∧ c.toNat ≤ 57)
theorem lead_none {t : List UInt8} (h : NoDig t) : lead t = [] := by
  cases t with
  | nil => rfl
  | cons c r =>
    unfold lead
    rw [List.takeWhile_cons, if_neg (fun hc => h c r rfl ((digs_iff c).1 hc))]
theorem lead_stop {l t : List UInt8} (h : Digits l) (ht : NoDig t) : lead (l ++ t) = l := by rw [lead_cat5 h, lead_none ht, List.append_nil]
theorem noDig_cons {c : UInt8} {r : List UInt8} (h : c.toNat < 48 ∨ 57 < c.toNat) : NoDig (c :: r) := fun c' r' e => by
  injection e with e1 e2
  subst e1
  omega
/-- digits, a point, digits, and what follows -/
theorem mant_point {D1 D2 t : List UInt8} (h1 : Digits D1) (h2 : Digits D2) (hne : 0 < D1.length) (ht : NoDig t) : mantL (D1 ++ 46 :: (D2 ++ t)) = (D1 ++ D2, -(D2.length : Int), D1.length + 1 + D2.length) := by
  have e1 : lead (D1 ++ 46 :: (D2 ++ t)) = D1 := lead_stop h1 (noDig_cons (.inl (by decide)))
  have e2 : lead (D2 ++ t) = D2 := lead_stop h2 ht
  have e3 : (D1 ++ 46 :: (D2 ++ t)).drop (lead (D1 ++ 46 :: (D2 ++ t))).length = 46 :: (D2 ++ t) := by rw [e1]; simp
  rw [mantL_dot e3, e1, e2, if_pos (by omega)]
/-- digits alone -/
theorem mant_whole {D1 t : List UInt8} (h1 : Digits D1) (ht : NoDig t) (hp : ∀ r, t ≠ 46 :: r) : mantL (D1 ++ t) = (D1, 0, D1.length) := by
  have e1 : lead (D1 ++ t) = D1 := lead_stop h1 ht
  have e3 : (D1 ++ t).drop (lead (D1 ++ t)).length = t := by rw [e1]; simp
  rw [mantL_plain (fun r hr => hp r (e3.symm.trans hr)), e1]
theorem exp_some {ec s : UInt8} {E t : List UInt8} (he : ec = 101 ∨ ec = 69) (hs : s = 43 ∨ s = 45) (hE : Digits E) (hne : 0 < E.length) (ht : NoDig t) : expL (ec :: s :: (E ++ t)) = (powL E (s == 45), 2 + E.length) := by
  have e1 : lead (E ++ t) = E := lead_stop hE ht
  rcases hs with rfl | rfl
  · have hk : signK (ec :: 43 :: (E ++ t)) = (2, false) := rfl
    unfold expL
    simp only [hk]
    rw [if_pos he]
    simp only [List.drop_succ_cons, List.drop_zero, e1]
    rw [if_pos hne]
    rfl
  · have hk : signK (ec :: 45 :: (E ++ t)) = (2, true) := rfl
    unfold expL
    simp only [hk]
    rw [if_pos he]
    simp only [List.drop_succ_cons, List.drop_zero, e1]
    rw [if_pos hne]
    rfl
/-- no power stands ahead -/
def NoExp (t : List UInt8) : Prop := ∀ c r, t = c :: r → c ≠ 101 ∧ c ≠ 69
theorem exp_none {t : List UInt8} (h : NoExp t) : expL t = (0, 0) := by
  cases t with
  | nil => rfl
  | cons c r =>
    have hc := h c r rfl
    unfold expL
    simp only []
    rw [if_neg (by rintro (h | h); exact hc.1 h; exact hc.2 h)]
theorem unblank_blanks (i : Nat) (t : List UInt8) (h : ∀ c r, t = c :: r → c ≠ 32 ∧ c ≠ 9 ∧ c ≠ 10) : unblank (List.replicate i 32 ++ t) = t := by
  unfold unblank
  induction i with
  | zero =>
    cases t with
    | nil => rfl
    | cons c r =>
      have hc := h c r rfl
      show List.dropWhile _ (c :: r) = _
      rw [List.dropWhile_cons, if_neg]
      simp [wsL, hc.1, hc.2.1, hc.2.2]
  | succ i ih =>
    rw [List.replicate_succ, List.cons_append, List.dropWhile_cons, if_pos (by decide)]
    exact ih
/-- what Prefix reads behind blanks and a sign -/
theorem pref_of (i : Nat) (neg pl : Bool) (c : UInt8) (r : List UInt8) (hc : 48 ≤ c.toNat ∧ c.toNat ≤ 57) (hn : (numeralL (c :: r)).2.2 ≠ 0) :
    prefB (List.replicate i 32 ++ ((if neg = true then [45] else if pl = true then [43] else []) ++ c :: r)) = (if neg = true then readN (numeralL (c :: r)).1 (numeralL (c :: r)).2.1 + 9223372036854775808 else readN (numeralL (c :: r)).1 (numeralL (c :: r)).2.1) ∧
    0 < prefN (List.replicate i 32 ++ ((if neg = true then [45] else if pl = true then [43] else []) ++ c :: r)) := by
  have hcs : c ≠ 32 ∧ c ≠ 9 ∧ c ≠ 10 ∧ c ≠ 45 ∧ c ≠ 43 := by refine ⟨?_, ?_, ?_, ?_, ?_⟩ <;> rintro rfl <;> revert hc <;> decide
  obtain ⟨S, hS⟩ : ∃ S : List UInt8, S = (if neg = true then [45] else if pl = true then [43] else []) := ⟨_, rfl⟩
  rw [← hS]
  have hu : unblank (List.replicate i 32 ++ (S ++ c :: r)) = S ++ c :: r := by
    refine unblank_blanks i _ fun c' r' e => ?_
    cases neg <;> cases pl <;> simp at hS <;> subst hS <;> simp at e
    · rw [← e.1]; exact ⟨hcs.1, hcs.2.1, hcs.2.2.1⟩
    · rw [← e.1]; decide
    · rw [← e.1]; decide
    · rw [← e.1]; decide
  have hs : signB (S ++ c :: r) = (S.length, neg) ∧ (S ++ c :: r).drop S.length = c :: r := by
    refine ⟨?_, by simp⟩
    cases neg <;> cases pl <;> simp at hS <;> subst hS
    · exact signB_other c r hcs.2.2.2.1 hcs.2.2.2.2
    · rfl
    · rfl
    · rfl
  have hcore : coreL (List.replicate i 32 ++ (S ++ c :: r)) = numeralL (c :: r) := by
    unfold coreL
    rw [hu, hs.1]
    show numeralL (List.drop S.length (S ++ c :: r)) = _
    rw [hs.2]
  have hM : prefM (List.replicate i 32 ++ (S ++ c :: r)) = neg := by
    unfold prefM
    rw [hcore, if_neg hn, hu, hs.1]
  constructor
  · unfold prefB prefV
    rw [hM, hcore, if_neg hn]
  · unfold prefN
    rw [hcore, if_neg hn]
    omega
end Go.Proofs.YtcmpdamfeoaapaaGreatDoor
end

section
/- Digits that are a float's seventeen, with noughts struck behind, are read as that float: plain. -/
namespace Go.Proofs.YtcmpdamfeoaapaaGreatDoor
open Go.RowKit
set_option linter.unusedVariables false

theorem cross_pow (d j : Nat) (k : Int) : d * 10 ^ ((j : Int) - k).toNat * 10 ^ k.toNat = d * 10 ^ j * 10 ^ (-k).toNat * 10 ^ (k - (j : Int)).toNat := by
  rcases Int.lt_or_le k 0 with h | h
  · obtain ⟨n, rfl⟩ : ∃ n : Nat, k = -(n : Int) := ⟨(-k).toNat, by omega⟩
    rw [show ((j : Int) - -(n : Int)).toNat = j + n by omega, show (-(n : Int)).toNat = 0 by omega, show (- -(n : Int)).toNat = n by omega, show (-(n : Int) - (j : Int)).toNat = 0 by omega, Nat.pow_add]
    simp [Nat.mul_assoc]
  · obtain ⟨n, rfl⟩ : ∃ n : Nat, k = (n : Int) := ⟨k.toNat, by omega⟩
    rcases Nat.lt_or_ge j n with h2 | h2
    · obtain ⟨i, rfl⟩ : ∃ i, n = j + i := ⟨n - j, by omega⟩
      rw [show ((j : Int) - ((j + i : Nat) : Int)).toNat = 0 by omega, show (((j + i : Nat) : Int)).toNat = j + i by omega, show (-((j + i : Nat) : Int)).toNat = 0 by omega, show (((j + i : Nat) : Int) - (j : Int)).toNat = i by omega, Nat.pow_add]
      simp [Nat.mul_assoc]
    · obtain ⟨i, rfl⟩ : ∃ i, j = n + i := ⟨j - n, by omega⟩
      rw [show (((n + i : Nat) : Int) - (n : Int)).toNat = i by omega, show ((n : Int)).toNat = n by omega, show (-(n : Int)).toNat = 0 by omega, show ((n : Int) - ((n + i : Nat) : Int)).toNat = 0 by omega, Nat.pow_add]
      simp [Nat.mul_assoc, Nat.mul_comm, Nat.mul_left_comm]
theorem bare_idem (l : List UInt8) : bare (bare l) = bare l := by
  unfold bare
  induction l with
  | nil => rfl
  | cons c l ih =>
    rw [List.dropWhile_cons]
    split
    · exact ih
    · rename_i h
      rw [List.dropWhile_cons, if_neg h]
theorem read_value {a : Nat} {k : Int} {D : List UInt8} {j : Nat} (ha : a < 9218868437227405312) (hN : 10 ^ 16 ≤ scaledN a k) (hv : digVal D * 10 ^ j = scaledN a k) (hl : (bare D).length ≤ 900) (h1 : -4000 ≤ (j : Int) - k) (h2 : (j : Int) - k ≤ 2000) (h3 : -330 ≤ (bare D).length + ((j : Int) - k)) (h4 : (bare D).length + ((j : Int) - k) ≤ 310) : readN D ((j : Int) - k) = a := by
  have hb := near_back ha hN
  have hd0 : digVal D ≠ 0 := by
    intro h
    rw [h, Nat.zero_mul] at hv
    have : 0 < 10 ^ 16 := Nat.pow_pos (by decide)
    omega
  have hbn : bare D ≠ [] := by
    intro h
    have := digVal_bare D
    rw [h] at this
    exact hd0 this.symm
  unfold readN
  rw [if_neg hbn, if_pos hl]
  have hbl : (bare D).length ≠ 0 := fun h => hbn (List.eq_nil_of_length_eq_zero h)
  rw [readB_near (l := bare D) (by rw [bare_idem]; exact hbl) h1 h2 (by rw [bare_idem]; exact h3) (by rw [bare_idem]; exact h4), bare_idem, digVal_bare, ← hb]
  refine near_same (Nat.pow_pos (by decide)) (Nat.pow_pos (by decide)) ?_
  have hc := cross_pow (digVal D) j k
  rw [hv] at hc
  rw [show -((j : Int) - k) = k - (j : Int) by omega]
  exact hc
end Go.Proofs.YtcmpdamfeoaapaaGreatDoor
end
