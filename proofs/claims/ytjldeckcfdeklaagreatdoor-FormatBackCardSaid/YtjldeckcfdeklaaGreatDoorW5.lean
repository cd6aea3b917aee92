/- FormatBack, walked, on what Prefix reads. -/
import Derived.Test.YtjldeckcfdeklaaGreatDoorW4
import Derived.Test.YtjldeckcfdeklaaGreatDoorU5
import Derived.Test.YtjldeckcfdeklaaGreatDoorP22
import Derived.Test.YtjldeckcfdeklaaGreatDoorAW2
namespace Go.Proofs.YtjldeckcfdeklaaGreatDoor
open Go.RowKit
set_option linter.unusedVariables false

theorem floatO_size (m p bl al z : Bool) (wd pr : Int) (vb b : Nat) (w : World) (hb : b < 18446744073709551616) (hf : fin b = true) (hp2 : pr ≤ 190) (hw2 : wd ≤ 1024) (hT : PowOk w) : (floatO m p bl al z wd pr vb b).size ≤ 20000 := by
  have hbo := (bodyF_ok al vb hb hf (precF_le hp2) hT).2
  have hsl := signL_size5 p bl (decide (9223372036854775808 ≤ b))
  have hpl := padL_size5 (m := m) (z := z) (h := signL p bl (decide (9223372036854775808 ≤ b))) (s := (bodyF al vb (precF pr) b).data.toList) hw2
  rw [← sz_list (bodyF al vb (precF pr) b)] at hpl
  unfold floatO
  split
  · show (Lib.toUpperA (padO m p bl al z wd pr vb b)).length ≤ _
    unfold Lib.toUpperA padO
    rw [List.length_map]
    omega
  · show (padO m p bl al z wd pr vb b).length ≤ _
    unfold padO
    omega
theorem SpAt.set {W : World} {B : Nat} {A : Array Value} (h : SpAt W B A) (i : Nat) (v : Value) : SpAt (W.setCell ⟨B, i, none⟩ v) B (A.setIfInBounds i v) := setCell_heap_same h i v
theorem fin_mod {b : Nat} : fin b = true ↔ b % 9223372036854775808 < 9218868437227405312 := by
  unfold fin
  simp
  omega
theorem fin_order {b : Nat} (hb : b < 18446744073709551616) (hf : fin b = true) : FloatKind.f64.format.order b b = some .eq ∧ (FloatKind.f64.format.order b 9218868437227405311 == some .gt) = false ∧ (FloatKind.f64.format.order b 18442240474082181119 == some .lt) = false := by
  have h := fin_mod.1 hf
  have k1 : keyF b ≤ 9218868437227405311 := by unfold keyF; split <;> omega
  have k2 : -9218868437227405311 ≤ keyF b := by unfold keyF; split <;> omega
  refine ⟨?_, ?_, ?_⟩
  · rw [order_key hb hb (by omega) (by omega), Int.compare_eq_eq.2 rfl]
  · rw [order_key hb (by decide) (by omega) (by decide), show keyF 9218868437227405311 = 9218868437227405311 by decide]
    rcases Int.lt_trichotomy (keyF b) 9218868437227405311 with h | h | h
    · rw [Int.compare_eq_lt.2 h]; rfl
    · rw [Int.compare_eq_eq.2 h]; rfl
    · omega
  · rw [order_key hb (by decide) (by omega) (by decide), show keyF 18442240474082181119 = -9218868437227405311 by decide]
    rcases Int.lt_trichotomy (keyF b) (-9218868437227405311) with h | h | h
    · omega
    · rw [Int.compare_eq_eq.2 h]; rfl
    · rw [Int.compare_eq_gt.2 h]; rfl

set_option maxHeartbeats 8000000 in
set_option maxRecDepth 1000000 in
theorem back5_any (b : Nat) (m p bl al z : Bool) (wd pr : Int) (vb : Nat) (w : World) (hT : Tabs5 w) (hb : b < 18446744073709551616)
    (hR : ∀ wc : Int, 0 ≤ wc → wc ≤ 60 → fin b = true → (prefB (floatO m p bl al z wc 16 101 b).data.toList = b ∧ 0 < prefN (floatO m p bl al z wc 16 101 b).data.toList) ∧ prefB (floatO m p bl al z wc 17 71 b).data.toList = b ∧ 0 < prefN (floatO m p bl al z wc 17 71 b).data.toList) :
    Calls Tryz.prog 7 #[.int .u64 (b : Nat), .agg (specA m p bl al z wd pr vb)] w fun e w' => e = .returned (.bool true) ∧ Below w.heap.size w w' := by
  have hb0 : Below w.heap.size w (w.alloc (.cells (specA m p bl al z wd pr vb) 24)) := (Below.refl w.heap.size w).alloc (Nat.le_refl _) _
  have HF := Lib.hid (fixed5_any (w.alloc (.cells (specA m p bl al z wd pr vb) 24)) (hT.err.below hb0) (hT.pow.below hb0) (hT.utf.below hb0))
  have HB0 := Lib.hid hb0
  obtain ⟨wc, hwc⟩ : ∃ wc, wc = min (max wd 0) 60 := ⟨_, rfl⟩
  have hw0 : 0 ≤ wc := by omega
  have hw60 : wc ≤ 60 := by omega
  have HWc := Lib.hid hwc.symm
  unfold specA at HF HB0 ⊢
  by_cases hf : fin b = true
  · obtain ⟨o1, o2, o3⟩ := fin_order hb hf
    obtain ⟨⟨r1, r2⟩, r3, r4⟩ := hR wc hw0 hw60 hf
    have z1 := floatO_size m p bl al z wc 16 101 b w hb hf (by decide) (by omega) hT.pow
    have z2 := floatO_size m p bl al z wc 17 71 b w hb hf (by decide) (by omega) hT.pow
    have HN1 := Lib.hid (fun W h => Number_101 m p bl al z wc 16 b W hb hf (by decide) (by decide) hw0 (by omega) h)
    have HN2 := Lib.hid (fun W h => Number_71 m p bl al z wc 17 b W hb hf (by decide) (by decide) hw0 (by omega) h)
    have HP1 := Lib.hid (fun W => Prefix_any (floatO m p bl al z wc 16 101 b) W (by omega))
    have HP2 := Lib.hid (fun W => Prefix_any (floatO m p bl al z wc 17 71 b) W (by omega))
    rw [r1] at HP1
    rw [r3] at HP2
    generalize prefN (floatO m p bl al z wc 16 101 b).data.toList = n1 at *
    generalize prefN (floatO m p bl al z wc 17 71 b).data.toList = n2 at *
    generalize floatO m p bl al z wc 16 101 b = S1 at *
    generalize floatO m p bl al z wc 17 71 b = S2 at *
    have i1 : (0 : Int) < (n1 : Int) := by omega
    have i2 : (0 : Int) < (n2 : Int) := by omega
    have oq : (FloatKind.f64.format.order b b != some .eq) = false := by rw [o1]; rfl
    unfold specA at HN1 HN2
    have HPw := Lib.hid hT.pow
    clear hT hb0 hR hwc r1 r2 r3 r4 z1 z2 hw0 hw60 o1
    go_enter Tryz.func7, Tryz.ntmps7
    go_wp2_with fail
    refine HF.out.mono ?_
    rintro e w1 ⟨rfl, hb1⟩
    have hsp : SpAt w1 w.heap.size #[.bool m, .bool p, .bool bl, .bool al, .bool z, .int .i64 wd, .int .i64 pr, .int .u8 (vb : Int)] := SpAt.next (heap_alloc_at w _) hb1
    have q0 : w1.cell? ⟨w.heap.size, 0, none⟩ = some (.bool m) := hsp.cell 0
    have q1 : w1.cell? ⟨w.heap.size, 1, none⟩ = some (.bool p) := hsp.cell 1
    have q2 : w1.cell? ⟨w.heap.size, 2, none⟩ = some (.bool bl) := hsp.cell 2
    have q3 : w1.cell? ⟨w.heap.size, 3, none⟩ = some (.bool al) := hsp.cell 3
    have q4 : w1.cell? ⟨w.heap.size, 4, none⟩ = some (.bool z) := hsp.cell 4
    have q5 : w1.cell? ⟨w.heap.size, 5, none⟩ = some (.int .i64 wd) := hsp.cell 5
    have q6 : w1.cell? ⟨w.heap.size, 6, none⟩ = some (.int .i64 pr) := hsp.cell 6
    have q7 : w1.cell? ⟨w.heap.size, 7, none⟩ = some (.int .u8 (vb : Int)) := hsp.cell 7
    have qf : ∀ j, w1.frozen? ⟨w.heap.size, j, none⟩ = false := Lib.frozen_of_heap hsp
    have HB1 := Lib.hid (HB0.out.trans (hb1.mono (by simp)))
    have HSp := Lib.hid hsp
    clear hb1 hsp
    go_wp2_with fail
    rw [HWc.out]
    generalize hW2 : World.setCell _ _ _ = W2
    have hs2 : SpAt W2 w.heap.size #[.bool m, .bool p, .bool bl, .bool al, .bool z, .int .i64 wc, .int .i64 16, .int .u8 101] := by rw [← hW2]; exact (((HSp.out.set 7 (.int .u8 101)).set 6 (.int .i64 16)).set 5 (.int .i64 wc))
    have HB2 : Hid (Below w.heap.size w W2) := by rw [← hW2]; exact ((HB1.out.setCell (p := ⟨w.heap.size, 7, none⟩) (Nat.le_refl _) _).setCell (p := ⟨w.heap.size, 6, none⟩) (Nat.le_refl _) _).setCell (p := ⟨w.heap.size, 5, none⟩) (Nat.le_refl _) _
    clear hW2 q0 q1 q2 q3 q4 q5 q6 q7 qf
    refine (HN1.out _ (HPw.out.below HB2.out)).mono ?_
    rintro e w3 ⟨rfl, hb3⟩
    have hs3 := hs2.next hb3
    have HB3 := Lib.hid (HB2.out.trans (hb3.mono HB2.out.size))
    have q0 : w3.cell? ⟨w.heap.size, 0, none⟩ = some (.bool m) := hs3.cell 0
    have q1 : w3.cell? ⟨w.heap.size, 1, none⟩ = some (.bool p) := hs3.cell 1
    have q2 : w3.cell? ⟨w.heap.size, 2, none⟩ = some (.bool bl) := hs3.cell 2
    have q3 : w3.cell? ⟨w.heap.size, 3, none⟩ = some (.bool al) := hs3.cell 3
    have q4 : w3.cell? ⟨w.heap.size, 4, none⟩ = some (.bool z) := hs3.cell 4
    have q5 : w3.cell? ⟨w.heap.size, 5, none⟩ = some (.int .i64 wc) := hs3.cell 5
    have q6 : w3.cell? ⟨w.heap.size, 6, none⟩ = some (.int .i64 16) := hs3.cell 6
    have q7 : w3.cell? ⟨w.heap.size, 7, none⟩ = some (.int .u8 101) := hs3.cell 7
    have qf : ∀ j, w3.frozen? ⟨w.heap.size, j, none⟩ = false := Lib.frozen_of_heap hs3
    have HS3 := Lib.hid hs3
    clear hb3 hs2 hs3
    go_wp2_with fail
    generalize hW4 : World.setCell _ _ _ = W4
    have hs4 : SpAt W4 w.heap.size #[.bool m, .bool p, .bool bl, .bool al, .bool z, .int .i64 wc, .int .i64 17, .int .u8 71] := by rw [← hW4]; exact (HS3.out.set 7 (.int .u8 71)).set 6 (.int .i64 17)
    have HB4 : Hid (Below w.heap.size w W4) := by rw [← hW4]; exact (HB3.out.setCell (p := ⟨w.heap.size, 7, none⟩) (Nat.le_refl _) _).setCell (p := ⟨w.heap.size, 6, none⟩) (Nat.le_refl _) _
    clear hW4 q0 q1 q2 q3 q4 q5 q6 q7 qf
    refine (HN2.out _ (HPw.out.below HB4.out)).mono ?_
    rintro e w5 ⟨rfl, hb5⟩
    have HB5 := Lib.hid (HB4.out.trans (hb5.mono HB4.out.size))
    clear hb5 hs4
    go_wp2_with fail
    refine (HP1.out _).mono ?_
    rintro e w6 ⟨rfl, hb6⟩
    have HB6 := Lib.hid (HB5.out.trans (hb6.mono HB5.out.size))
    clear hb6
    go_wp2_with fail
    refine (HP2.out _).mono ?_
    rintro e w7 ⟨rfl, hb7⟩
    have HB7 := Lib.hid (HB6.out.trans (hb7.mono HB6.out.size))
    clear hb7
    go_wp2_with fail
    go_ret
    exact ⟨by simp, HB7.out⟩
  · have hnf : 9218868437227405312 ≤ b % 9223372036854775808 := by
      rcases Nat.lt_or_ge (b % 9223372036854775808) 9218868437227405312 with h | h
      · exact absurd (fin_mod.2 h) hf
      · exact h
    have HB9 := HB0
    clear hR hf hwc HWc hT
    rcases Nat.lt_or_ge 9218868437227405312 (b % 9223372036854775808) with hnan | hinf
    · have oq : (FloatKind.f64.format.order b b != some .eq) = true := by
        cases h : (FloatKind.f64.format.order b b != some .eq) with
        | true => rfl
        | false =>
          exfalso
          have := nan_not (x := b) h
          omega
      go_enter Tryz.func7, Tryz.ntmps7
      go_wp2_with fail
      refine HF.out.mono ?_
      rintro e w1 ⟨rfl, hb1⟩
      have HB1 := Lib.hid (HB0.out.trans (hb1.mono (by simp)))
      clear hb1
      go_wp2_with fail
      go_ret
      exact ⟨rfl, HB1.out⟩
    · have hb2 : b = 9218868437227405312 ∨ b = 18442240474082181120 := by omega
      have c1 : (FloatKind.f64.format.order 9218868437227405312 9218868437227405312 != some .eq) = false := by decide
      have c2 : (FloatKind.f64.format.order 9218868437227405312 9218868437227405311 == some .gt) = true := by decide
      have d1 : (FloatKind.f64.format.order 18442240474082181120 18442240474082181120 != some .eq) = false := by decide
      have d2 : (FloatKind.f64.format.order 18442240474082181120 9218868437227405311 == some .gt) = false := by decide
      have d3 : (FloatKind.f64.format.order 18442240474082181120 18442240474082181119 == some .lt) = true := by decide
      rcases hb2 with rfl | rfl
      · go_enter Tryz.func7, Tryz.ntmps7
        go_wp2_with fail
        refine HF.out.mono ?_
        rintro e w1 ⟨rfl, hb1⟩
        have HB1 := Lib.hid (HB0.out.trans (hb1.mono (by simp)))
        clear hb1
        go_wp2_with fail
        go_ret
        exact ⟨rfl, HB1.out⟩
      · go_enter Tryz.func7, Tryz.ntmps7
        go_wp2_with fail
        refine HF.out.mono ?_
        rintro e w1 ⟨rfl, hb1⟩
        have HB1 := Lib.hid (HB0.out.trans (hb1.mono (by simp)))
        clear hb1
        go_wp2_with fail
        go_ret
        exact ⟨rfl, HB1.out⟩
end Go.Proofs.YtjldeckcfdeklaaGreatDoor
