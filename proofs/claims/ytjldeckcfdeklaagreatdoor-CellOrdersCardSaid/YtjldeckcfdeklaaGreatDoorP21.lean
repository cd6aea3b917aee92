/- What CellOrders's code computes. -/
import Derived.Test.YtjldeckcfdeklaaGreatDoorP20
import Derived.Test.YtjldeckcfdeklaaGreatDoorP22
import Derived.Test.YtjldeckcfdeklaaGreatDoorG3
namespace Go.Proofs.YtjldeckcfdeklaaGreatDoor
open Go.RowKit
set_option linter.unusedVariables false

theorem cmpB_range : ∀ a b : List UInt8, -1 ≤ Lib.compareBytes a b ∧ Lib.compareBytes a b ≤ 1
  | [], [] => by decide
  | [], _ :: _ => by show (-1 : Int) ≤ -1 ∧ (-1 : Int) ≤ 1; decide
  | _ :: _, [] => by show (-1 : Int) ≤ 1 ∧ (1 : Int) ≤ 1; decide
  | a :: l, b :: m => by
    have ih := cmpB_range l m
    show -1 ≤ (if a < b then (-1 : Int) else if b < a then 1 else Lib.compareBytes l m) ∧ (if a < b then (-1 : Int) else if b < a then 1 else Lib.compareBytes l m) ≤ 1
    split
    · decide
    · split
      · decide
      · exact ih
theorem cmpC_range (k1 : Int) (x1 : Nat) (s1 : ByteArray) (k2 : Int) (x2 : Nat) (s2 : ByteArray) : -1 ≤ cmpC k1 x1 s1 k2 x2 s2 ∧ cmpC k1 x1 s1 k2 x2 s2 ≤ 1 := by
  unfold cmpC
  split
  · unfold ordN ordF
    repeat' split
    all_goals decide
  · exact cmpB_range _ _
set_option maxHeartbeats 8000000 in
set_option maxRecDepth 1000000 in
theorem orders_any (k1 k2 k3 : Int) (x1 x2 x3 : Nat) (s1 s2 s3 : ByteArray) (w : World) (hE : ErrOk w) (hT : PowOk w) (hx1 : x1 < 18446744073709551616) (hx2 : x2 < 18446744073709551616) (hx3 : x3 < 18446744073709551616) (z1 : s1.size ≤ 140737488351232) (z2 : s2.size ≤ 140737488351232) (z3 : s3.size ≤ 140737488351232) :
    Calls Tryz.prog 10 #[.agg (oneA k1 x1 s1), .agg (oneA k2 x2 s2), .agg (oneA k3 x3 s3)] w fun e w' => e = .returned (.bool true) ∧ Below w.heap.size w w' := by
  have hb0 : Below w.heap.size w (((w.alloc (.cells #[.int .i64 k1, .int .u64 (x1 : Int), .string s1] 52)).alloc (.cells #[.int .i64 k2, .int .u64 (x2 : Int), .string s2] 52)).alloc (.cells #[.int .i64 k3, .int .u64 (x3 : Int), .string s3] 52)) := (((Below.refl w.heap.size w).alloc (Nat.le_refl _) _).alloc (by simp) _).alloc (by simp; omega) _
  have HF := Lib.hid (fixed6_any _ (hE.below hb0))
  have HM1 := Lib.hid (fun W => made_any k1 x1 s1 W hx1)
  have HM2 := Lib.hid (fun W => made_any k2 x2 s2 W hx2)
  have HM3 := Lib.hid (fun W => made_any k3 x3 s3 W hx3)
  have HE := Lib.hid hE
  have HT := Lib.hid hT
  have g0 : (((w.alloc (.cells #[.int .i64 k1, .int .u64 (x1 : Int), .string s1] 52)).alloc (.cells #[.int .i64 k2, .int .u64 (x2 : Int), .string s2] 52)).alloc (.cells #[.int .i64 k3, .int .u64 (x3 : Int), .string s3] 52)).cell? ⟨w.heap.size, 0, none⟩ = some (.int .i64 k1) := by simp [go_sem]
  have g1 : (((w.alloc (.cells #[.int .i64 k1, .int .u64 (x1 : Int), .string s1] 52)).alloc (.cells #[.int .i64 k2, .int .u64 (x2 : Int), .string s2] 52)).alloc (.cells #[.int .i64 k3, .int .u64 (x3 : Int), .string s3] 52)).cell? ⟨w.heap.size, 1, none⟩ = some (.int .u64 (x1 : Int)) := by simp [go_sem]
  have g2 : (((w.alloc (.cells #[.int .i64 k1, .int .u64 (x1 : Int), .string s1] 52)).alloc (.cells #[.int .i64 k2, .int .u64 (x2 : Int), .string s2] 52)).alloc (.cells #[.int .i64 k3, .int .u64 (x3 : Int), .string s3] 52)).cell? ⟨w.heap.size, 2, none⟩ = some (.string s1) := by simp [go_sem]
  have g3 : (((w.alloc (.cells #[.int .i64 k1, .int .u64 (x1 : Int), .string s1] 52)).alloc (.cells #[.int .i64 k2, .int .u64 (x2 : Int), .string s2] 52)).alloc (.cells #[.int .i64 k3, .int .u64 (x3 : Int), .string s3] 52)).cell? ⟨w.heap.size + 1, 0, none⟩ = some (.int .i64 k2) := by simp [go_sem]
  have g4 : (((w.alloc (.cells #[.int .i64 k1, .int .u64 (x1 : Int), .string s1] 52)).alloc (.cells #[.int .i64 k2, .int .u64 (x2 : Int), .string s2] 52)).alloc (.cells #[.int .i64 k3, .int .u64 (x3 : Int), .string s3] 52)).cell? ⟨w.heap.size + 1, 1, none⟩ = some (.int .u64 (x2 : Int)) := by simp [go_sem]
  have g5 : (((w.alloc (.cells #[.int .i64 k1, .int .u64 (x1 : Int), .string s1] 52)).alloc (.cells #[.int .i64 k2, .int .u64 (x2 : Int), .string s2] 52)).alloc (.cells #[.int .i64 k3, .int .u64 (x3 : Int), .string s3] 52)).cell? ⟨w.heap.size + 1, 2, none⟩ = some (.string s2) := by simp [go_sem]
  have g6 : (((w.alloc (.cells #[.int .i64 k1, .int .u64 (x1 : Int), .string s1] 52)).alloc (.cells #[.int .i64 k2, .int .u64 (x2 : Int), .string s2] 52)).alloc (.cells #[.int .i64 k3, .int .u64 (x3 : Int), .string s3] 52)).cell? ⟨w.heap.size + 2, 0, none⟩ = some (.int .i64 k3) := by simp [go_sem]
  have g7 : (((w.alloc (.cells #[.int .i64 k1, .int .u64 (x1 : Int), .string s1] 52)).alloc (.cells #[.int .i64 k2, .int .u64 (x2 : Int), .string s2] 52)).alloc (.cells #[.int .i64 k3, .int .u64 (x3 : Int), .string s3] 52)).cell? ⟨w.heap.size + 2, 1, none⟩ = some (.int .u64 (x3 : Int)) := by simp [go_sem]
  have g8 : (((w.alloc (.cells #[.int .i64 k1, .int .u64 (x1 : Int), .string s1] 52)).alloc (.cells #[.int .i64 k2, .int .u64 (x2 : Int), .string s2] 52)).alloc (.cells #[.int .i64 k3, .int .u64 (x3 : Int), .string s3] 52)).cell? ⟨w.heap.size + 2, 2, none⟩ = some (.string s3) := by simp [go_sem]
  have HB0 := Lib.hid hb0
  have hz0 := hb0.size
  clear hE hT hb0
  have y1 : (s1.size : Int) ≤ 140737488351232 := by omega
  have y2 : (s2.size : Int) ≤ 140737488351232 := by omega
  have y3 : (s3.size : Int) ≤ 140737488351232 := by omega
  unfold oneA at HM1 HM2 HM3 ⊢
  unfold cellA at HM1 HM2 HM3
  rcases Int.lt_or_le 3000 ((s1.size : Int) + (s2.size : Int) + (s3.size : Int)) with h3 | h3
  · go_enter Tryz.func10, Tryz.ntmps10
    go_wp2_with fail
    refine HF.out.mono ?_
    rintro e w1 ⟨rfl, hb1⟩
    have p0 := cell_next hb1 g0
    have p1 := cell_next hb1 g1
    have p2 := cell_next hb1 g2
    have p3 := cell_next hb1 g3
    have p4 := cell_next hb1 g4
    have p5 := cell_next hb1 g5
    have p6 := cell_next hb1 g6
    have p7 := cell_next hb1 g7
    have p8 := cell_next hb1 g8
    have HB1 := Lib.hid (HB0.out.trans (hb1.mono hz0))
    clear hb1
    go_wp2_with fail
    go_ret
    exact ⟨rfl, HB1.out⟩
  · go_enter Tryz.func10, Tryz.ntmps10
    go_wp2_with fail
    refine HF.out.mono ?_
    rintro e w1 ⟨rfl, hb1⟩
    have p0 := cell_next hb1 g0
    have p1 := cell_next hb1 g1
    have p2 := cell_next hb1 g2
    have p3 := cell_next hb1 g3
    have p4 := cell_next hb1 g4
    have p5 := cell_next hb1 g5
    have p6 := cell_next hb1 g6
    have p7 := cell_next hb1 g7
    have p8 := cell_next hb1 g8
    have HB1 := Lib.hid (HB0.out.trans (hb1.mono hz0))
    clear hb1
    go_wp2_with fail
    refine wp_region_steps (by kernel_rfl) (by kernel_rfl) (by kernel_rfl) (fun a0 V0 L a W => ∃ (u7 u8 u9 u28 u29 u30 u31 u32 u33 : Value) (B1 B2 B3 : Nat), a = { tmps := (((((((((a0.tmps.setIfInBounds 7 u7).setIfInBounds 8 u8).setIfInBounds 9 u9).setIfInBounds 28 u28).setIfInBounds 29 u29).setIfInBounds 30 u30).setIfInBounds 31 u31).setIfInBounds 32 u32).setIfInBounds 33 u33), defers := a0.defers } ∧
      Hid (Inv3 V0 W 55 (L 6) (L 7) (L 8) (L 9) (L 10) (L 11) u7 u8 u9 #[.int .i64 0, .float .f64 0, .string ⟨#[]⟩] #[.int .i64 k1, .float .f64 x1, .string s1] #[.int .i64 k2, .float .f64 x2, .string s2] #[.int .i64 k3, .float .f64 x3, .string s3] B1 B2 B3) ∧ Hid (L 0 = true → u28 = .agg #[.int .i64 k1, .int .u64 (x1 : Int), .string s1]) ∧ Hid (L 1 = true → u29 = .agg #[.int .i64 k1, .float .f64 x1, .string s1]) ∧ Hid (L 2 = true → u30 = .agg #[.int .i64 k2, .int .u64 (x2 : Int), .string s2]) ∧ Hid (L 3 = true → u31 = .agg #[.int .i64 k2, .float .f64 x2, .string s2]) ∧ Hid (L 4 = true → u32 = .agg #[.int .i64 k3, .int .u64 (x3 : Int), .string s3]) ∧ Hid (L 5 = true → u33 = .agg #[.int .i64 k3, .float .f64 x3, .string s3])) ?h0 ?hstep ?hdone
    case h0 =>
      refine ⟨undef, undef, undef, undef, undef, undef, undef, undef, undef, 0, 0, 0, ?_, Inv3.start _ _ _ _ _ _ _ _ _, fun h => (by cases h), fun h => (by cases h), fun h => (by cases h), fun h => (by cases h), fun h => (by cases h), fun h => (by cases h)⟩
      simp only [List.setIfInBounds_toArray, List.set_cons_zero, List.set_cons_succ]
    case hstep =>
      refine ⟨?o0, ?o1, ?o2, ?o3, ?o4, ?o5, ?o6, ?o7, ?o8, ?o9, ?o10, ?o11, trivial⟩
      case o0 =>
        rintro L a' W ⟨u7, u8, u9, u28, u29, u30, u31, u32, u33, B1, B2, B3, rfl, HI, E0, E1, E2, E3, E4, E5⟩ hL hd K hK
        have kk0 := cellNext HI.out.below p0
        have kk1 := cellNext HI.out.below p1
        have kk2 := cellNext HI.out.below p2
        simp only [List.setIfInBounds_toArray, List.set_cons_zero, List.set_cons_succ]
        go_simp
        refine hK _ _ ⟨u7, u8, u9, .agg #[.int .i64 k1, .int .u64 (x1 : Int), .string s1], u29, u30, u31, u32, u33, B1, B2, B3, ?_, HI, fun _ => rfl, E1.out, E2.out, E3.out, E4.out, E5.out⟩
        simp only [List.setIfInBounds_toArray, List.set_cons_zero, List.set_cons_succ]
      case o1 =>
        rintro L a' W ⟨u7, u8, u9, u28, u29, u30, u31, u32, u33, B1, B2, B3, rfl, HI, E0, E1, E2, E3, E4, E5⟩ hL hd K hK
        have d0 : L 0 = true := hd 0 (List.elem_iff.1 (by kernel_rfl))
        obtain rfl := E0.out d0
        simp only [List.setIfInBounds_toArray, List.set_cons_zero, List.set_cons_succ]
        go_simp
        refine (HM1.out W).mono ?_
        rintro e W' ⟨rfl, hb⟩
        refine hK _ _ ⟨u7, u8, u9, .agg #[.int .i64 k1, .int .u64 (x1 : Int), .string s1], .agg #[.int .i64 k1, .float .f64 x1, .string s1], u30, u31, u32, u33, B1, B2, B3, ?_, HI.out.keep hb, E0.out, fun _ => rfl, E2.out, E3.out, E4.out, E5.out⟩
        simp only [List.setIfInBounds_toArray, List.set_cons_zero, List.set_cons_succ]
      case o2 =>
        rintro L a' W ⟨u7, u8, u9, u28, u29, u30, u31, u32, u33, B1, B2, B3, rfl, HI, E0, E1, E2, E3, E4, E5⟩ hL hd K hK
        have kk0 := cellNext HI.out.below p3
        have kk1 := cellNext HI.out.below p4
        have kk2 := cellNext HI.out.below p5
        simp only [List.setIfInBounds_toArray, List.set_cons_zero, List.set_cons_succ]
        go_simp
        refine hK _ _ ⟨u7, u8, u9, u28, u29, .agg #[.int .i64 k2, .int .u64 (x2 : Int), .string s2], u31, u32, u33, B1, B2, B3, ?_, HI, E0.out, E1.out, fun _ => rfl, E3.out, E4.out, E5.out⟩
        simp only [List.setIfInBounds_toArray, List.set_cons_zero, List.set_cons_succ]
      case o3 =>
        rintro L a' W ⟨u7, u8, u9, u28, u29, u30, u31, u32, u33, B1, B2, B3, rfl, HI, E0, E1, E2, E3, E4, E5⟩ hL hd K hK
        have d2 : L 2 = true := hd 2 (List.elem_iff.1 (by kernel_rfl))
        obtain rfl := E2.out d2
        simp only [List.setIfInBounds_toArray, List.set_cons_zero, List.set_cons_succ]
        go_simp
        refine (HM2.out W).mono ?_
        rintro e W' ⟨rfl, hb⟩
        refine hK _ _ ⟨u7, u8, u9, u28, u29, .agg #[.int .i64 k2, .int .u64 (x2 : Int), .string s2], .agg #[.int .i64 k2, .float .f64 x2, .string s2], u32, u33, B1, B2, B3, ?_, HI.out.keep hb, E0.out, E1.out, E2.out, fun _ => rfl, E4.out, E5.out⟩
        simp only [List.setIfInBounds_toArray, List.set_cons_zero, List.set_cons_succ]
      case o4 =>
        rintro L a' W ⟨u7, u8, u9, u28, u29, u30, u31, u32, u33, B1, B2, B3, rfl, HI, E0, E1, E2, E3, E4, E5⟩ hL hd K hK
        have kk0 := cellNext HI.out.below p6
        have kk1 := cellNext HI.out.below p7
        have kk2 := cellNext HI.out.below p8
        simp only [List.setIfInBounds_toArray, List.set_cons_zero, List.set_cons_succ]
        go_simp
        refine hK _ _ ⟨u7, u8, u9, u28, u29, u30, u31, .agg #[.int .i64 k3, .int .u64 (x3 : Int), .string s3], u33, B1, B2, B3, ?_, HI, E0.out, E1.out, E2.out, E3.out, fun _ => rfl, E5.out⟩
        simp only [List.setIfInBounds_toArray, List.set_cons_zero, List.set_cons_succ]
      case o5 =>
        rintro L a' W ⟨u7, u8, u9, u28, u29, u30, u31, u32, u33, B1, B2, B3, rfl, HI, E0, E1, E2, E3, E4, E5⟩ hL hd K hK
        have d4 : L 4 = true := hd 4 (List.elem_iff.1 (by kernel_rfl))
        obtain rfl := E4.out d4
        simp only [List.setIfInBounds_toArray, List.set_cons_zero, List.set_cons_succ]
        go_simp
        refine (HM3.out W).mono ?_
        rintro e W' ⟨rfl, hb⟩
        refine hK _ _ ⟨u7, u8, u9, u28, u29, u30, u31, .agg #[.int .i64 k3, .int .u64 (x3 : Int), .string s3], .agg #[.int .i64 k3, .float .f64 x3, .string s3], B1, B2, B3, ?_, HI.out.keep hb, E0.out, E1.out, E2.out, E3.out, E4.out, fun _ => rfl⟩
        simp only [List.setIfInBounds_toArray, List.set_cons_zero, List.set_cons_succ]
      case o6 =>
        rintro L a' W ⟨u7, u8, u9, u28, u29, u30, u31, u32, u33, B1, B2, B3, rfl, HI, E0, E1, E2, E3, E4, E5⟩ hL hd K hK
        rw [hL] at HI
        simp only [List.setIfInBounds_toArray, List.set_cons_zero, List.set_cons_succ]
        go_simp
        refine hK _ _ ⟨.pointer (some ⟨W.heap.size, 0, none⟩), u8, u9, u28, u29, u30, u31, u32, u33, W.heap.size, B2, B3, ?_, HI.out.alloc1, E0.out, E1.out, E2.out, E3.out, E4.out, E5.out⟩
        simp only [List.setIfInBounds_toArray, List.set_cons_zero, List.set_cons_succ]
      case o7 =>
        rintro L a' W ⟨u7, u8, u9, u28, u29, u30, u31, u32, u33, B1, B2, B3, rfl, HI, E0, E1, E2, E3, E4, E5⟩ hL hd K hK
        rw [hL] at HI
        simp only [List.setIfInBounds_toArray, List.set_cons_zero, List.set_cons_succ]
        go_simp
        refine hK _ _ ⟨u7, .pointer (some ⟨W.heap.size, 0, none⟩), u9, u28, u29, u30, u31, u32, u33, B1, W.heap.size, B3, ?_, HI.out.alloc2, E0.out, E1.out, E2.out, E3.out, E4.out, E5.out⟩
        simp only [List.setIfInBounds_toArray, List.set_cons_zero, List.set_cons_succ]
      case o8 =>
        rintro L a' W ⟨u7, u8, u9, u28, u29, u30, u31, u32, u33, B1, B2, B3, rfl, HI, E0, E1, E2, E3, E4, E5⟩ hL hd K hK
        rw [hL] at HI
        simp only [List.setIfInBounds_toArray, List.set_cons_zero, List.set_cons_succ]
        go_simp
        refine hK _ _ ⟨u7, u8, .pointer (some ⟨W.heap.size, 0, none⟩), u28, u29, u30, u31, u32, u33, B1, B2, W.heap.size, ?_, HI.out.alloc3, E0.out, E1.out, E2.out, E3.out, E4.out, E5.out⟩
        simp only [List.setIfInBounds_toArray, List.set_cons_zero, List.set_cons_succ]
      case o9 =>
        rintro L a' W ⟨u7, u8, u9, u28, u29, u30, u31, u32, u33, B1, B2, B3, rfl, HI, E0, E1, E2, E3, E4, E5⟩ hL hd K hK
        have d6 : L 6 = true := hd 6 (List.elem_iff.1 (by kernel_rfl))
        have d7 : L 7 = true := hd 7 (List.elem_iff.1 (by kernel_rfl))
        have d8 : L 8 = true := hd 8 (List.elem_iff.1 (by kernel_rfl))
        have d1 : L 1 = true := hd 1 (List.elem_iff.1 (by kernel_rfl))
        obtain rfl := E1.out d1
        rw [d6, d7, d8, hL] at HI
        have h1 := Blk.raw HI.out.b1
        have hu := h1.1
        have hB := h1.2.1
        have hh := h1.2.2
        clear h1
        subst hu
        have kc0 : W.cell? ⟨B1, 0, none⟩ = some (.int .i64 0) := by rw [Lib.cell_of_heap hh]; rfl
        have kc1 : W.cell? ⟨B1, 1, none⟩ = some (.float .f64 0) := by rw [Lib.cell_of_heap hh]; rfl
        have kc2 : W.cell? ⟨B1, 2, none⟩ = some (.string ⟨#[]⟩) := by rw [Lib.cell_of_heap hh]; rfl
        have kf : ∀ j, W.frozen? ⟨B1, j, none⟩ = false := Lib.frozen_of_heap hh
        simp only [List.setIfInBounds_toArray, List.set_cons_zero, List.set_cons_succ]
        go_simp
        refine hK _ _ ⟨.pointer (some ⟨B1, 0, none⟩), u8, u9, u28, .agg #[.int .i64 k1, .float .f64 x1, .string s1], u30, u31, u32, u33, B1, B2, B3, ?_, ?_, E0.out, E1.out, E2.out, E3.out, E4.out, E5.out⟩
        · simp only [List.setIfInBounds_toArray, List.set_cons_zero, List.set_cons_succ]
        have h := HI.out.store1 (turned_three hh _ _ _)
        show Inv3 _ _ _ (L 6) (L 7) (L 8) _ _ _ _ _ _ _ _ _ _ _ _ _
        rw [d6, d7, d8]
        exact h
      case o10 =>
        rintro L a' W ⟨u7, u8, u9, u28, u29, u30, u31, u32, u33, B1, B2, B3, rfl, HI, E0, E1, E2, E3, E4, E5⟩ hL hd K hK
        have d6 : L 6 = true := hd 6 (List.elem_iff.1 (by kernel_rfl))
        have d7 : L 7 = true := hd 7 (List.elem_iff.1 (by kernel_rfl))
        have d8 : L 8 = true := hd 8 (List.elem_iff.1 (by kernel_rfl))
        have d3 : L 3 = true := hd 3 (List.elem_iff.1 (by kernel_rfl))
        obtain rfl := E3.out d3
        rw [d6, d7, d8, hL] at HI
        have h1 := Blk.raw HI.out.b2
        have hu := h1.1
        have hB := h1.2.1
        have hh := h1.2.2
        clear h1
        subst hu
        have kc0 : W.cell? ⟨B2, 0, none⟩ = some (.int .i64 0) := by rw [Lib.cell_of_heap hh]; rfl
        have kc1 : W.cell? ⟨B2, 1, none⟩ = some (.float .f64 0) := by rw [Lib.cell_of_heap hh]; rfl
        have kc2 : W.cell? ⟨B2, 2, none⟩ = some (.string ⟨#[]⟩) := by rw [Lib.cell_of_heap hh]; rfl
        have kf : ∀ j, W.frozen? ⟨B2, j, none⟩ = false := Lib.frozen_of_heap hh
        simp only [List.setIfInBounds_toArray, List.set_cons_zero, List.set_cons_succ]
        go_simp
        refine hK _ _ ⟨u7, .pointer (some ⟨B2, 0, none⟩), u9, u28, u29, u30, .agg #[.int .i64 k2, .float .f64 x2, .string s2], u32, u33, B1, B2, B3, ?_, ?_, E0.out, E1.out, E2.out, E3.out, E4.out, E5.out⟩
        · simp only [List.setIfInBounds_toArray, List.set_cons_zero, List.set_cons_succ]
        have h := HI.out.store2 (turned_three hh _ _ _)
        show Inv3 _ _ _ (L 6) (L 7) (L 8) _ _ _ _ _ _ _ _ _ _ _ _ _
        rw [d6, d7, d8]
        exact h
      case o11 =>
        rintro L a' W ⟨u7, u8, u9, u28, u29, u30, u31, u32, u33, B1, B2, B3, rfl, HI, E0, E1, E2, E3, E4, E5⟩ hL hd K hK
        have d6 : L 6 = true := hd 6 (List.elem_iff.1 (by kernel_rfl))
        have d7 : L 7 = true := hd 7 (List.elem_iff.1 (by kernel_rfl))
        have d8 : L 8 = true := hd 8 (List.elem_iff.1 (by kernel_rfl))
        have d5 : L 5 = true := hd 5 (List.elem_iff.1 (by kernel_rfl))
        obtain rfl := E5.out d5
        rw [d6, d7, d8, hL] at HI
        have h1 := Blk.raw HI.out.b3
        have hu := h1.1
        have hB := h1.2.1
        have hh := h1.2.2
        clear h1
        subst hu
        have kc0 : W.cell? ⟨B3, 0, none⟩ = some (.int .i64 0) := by rw [Lib.cell_of_heap hh]; rfl
        have kc1 : W.cell? ⟨B3, 1, none⟩ = some (.float .f64 0) := by rw [Lib.cell_of_heap hh]; rfl
        have kc2 : W.cell? ⟨B3, 2, none⟩ = some (.string ⟨#[]⟩) := by rw [Lib.cell_of_heap hh]; rfl
        have kf : ∀ j, W.frozen? ⟨B3, j, none⟩ = false := Lib.frozen_of_heap hh
        simp only [List.setIfInBounds_toArray, List.set_cons_zero, List.set_cons_succ]
        go_simp
        refine hK _ _ ⟨u7, u8, .pointer (some ⟨B3, 0, none⟩), u28, u29, u30, u31, u32, .agg #[.int .i64 k3, .float .f64 x3, .string s3], B1, B2, B3, ?_, ?_, E0.out, E1.out, E2.out, E3.out, E4.out, E5.out⟩
        · simp only [List.setIfInBounds_toArray, List.set_cons_zero, List.set_cons_succ]
        have h := HI.out.store3 (turned_three hh _ _ _)
        show Inv3 _ _ _ (L 6) (L 7) (L 8) _ _ _ _ _ _ _ _ _ _ _ _ _
        rw [d6, d7, d8]
        exact h
    case hdone =>
      rintro L a' W1 hall ⟨u7, u8, u9, u28, u29, u30, u31, u32, u33, B1, B2, B3, rfl, HI, E0, E1, E2, E3, E4, E5⟩
      rw [hall 6 (by decide), hall 7 (by decide), hall 8 (by decide), hall 9 (by decide), hall 10 (by decide), hall 11 (by decide)] at HI
      obtain ⟨rfl, hB1, hh1⟩ := HI.out.b1.full
      obtain ⟨rfl, hB2, hh2⟩ := HI.out.b2.full
      obtain ⟨rfl, hB3, hh3⟩ := HI.out.b3.full
      obtain rfl := E0.out (hall 0 (by decide))
      obtain rfl := E1.out (hall 1 (by decide))
      obtain rfl := E2.out (hall 2 (by decide))
      obtain rfl := E3.out (hall 3 (by decide))
      obtain rfl := E4.out (hall 4 (by decide))
      obtain rfl := E5.out (hall 5 (by decide))
      simp only [List.setIfInBounds_toArray, List.set_cons_zero, List.set_cons_succ]
      rename_i Q' K hKK
      refine hKK _ _ ?_
      have q0 : W1.cell? ⟨B1, 0, none⟩ = some (.int .i64 k1) := by rw [Lib.cell_of_heap hh1]; rfl
      have q1 : W1.cell? ⟨B1, 1, none⟩ = some (.float .f64 x1) := by rw [Lib.cell_of_heap hh1]; rfl
      have q2 : W1.cell? ⟨B1, 2, none⟩ = some (.string s1) := by rw [Lib.cell_of_heap hh1]; rfl
      have q3 : W1.cell? ⟨B2, 0, none⟩ = some (.int .i64 k2) := by rw [Lib.cell_of_heap hh2]; rfl
      have q4 : W1.cell? ⟨B2, 1, none⟩ = some (.float .f64 x2) := by rw [Lib.cell_of_heap hh2]; rfl
      have q5 : W1.cell? ⟨B2, 2, none⟩ = some (.string s2) := by rw [Lib.cell_of_heap hh2]; rfl
      have q6 : W1.cell? ⟨B3, 0, none⟩ = some (.int .i64 k3) := by rw [Lib.cell_of_heap hh3]; rfl
      have q7 : W1.cell? ⟨B3, 1, none⟩ = some (.float .f64 x3) := by rw [Lib.cell_of_heap hh3]; rfl
      have q8 : W1.cell? ⟨B3, 2, none⟩ = some (.string s3) := by rw [Lib.cell_of_heap hh3]; rfl
      have hz1 := HB1.out.size
      have HBw : Hid (Below w.heap.size w W1) := HB1.out.trans (HI.out.below.mono hz1)
      clear hKK hall HI E0 E1 E2 E3 E4 E5 hh1 hh2 hh3 HF HM1 HM2 HM3 p0 g0 p1 g1 p2 g2 p3 g3 p4 g4 p5 g5 p6 g6 p7 g7 p8 g8
      obtain ⟨P, hP⟩ : ∃ P, P = cmpC k1 x1 s1 k2 x2 s2 := ⟨_, rfl⟩
      obtain ⟨Q, hQ⟩ : ∃ Q, Q = cmpC k2 x2 s2 k3 x3 s3 := ⟨_, rfl⟩
      obtain ⟨R, hR⟩ : ∃ R, R = cmpC k1 x1 s1 k3 x3 s3 := ⟨_, rfl⟩
      have H12 : Hid (∀ W, Below w.heap.size w W → Calls Tryz.prog 27 #[.agg #[.int .i64 k1, .float .f64 x1, .string s1], .agg #[.int .i64 k2, .float .f64 x2, .string s2], .string ⟨#[37, 46, 54, 103]⟩] W fun e w' => e = .returned (.int .i64 (P)) ∧ Below W.heap.size W w') := fun W hb => hP ▸ (Compare_all k1 k2 x1 x2 s1 s2 W hx1 hx2 (by omega) (by omega) (HE.out.below hb) (HT.out.below hb))
      have H23 : Hid (∀ W, Below w.heap.size w W → Calls Tryz.prog 27 #[.agg #[.int .i64 k2, .float .f64 x2, .string s2], .agg #[.int .i64 k3, .float .f64 x3, .string s3], .string ⟨#[37, 46, 54, 103]⟩] W fun e w' => e = .returned (.int .i64 (Q)) ∧ Below W.heap.size W w') := fun W hb => hQ ▸ (Compare_all k2 k3 x2 x3 s2 s3 W hx2 hx3 (by omega) (by omega) (HE.out.below hb) (HT.out.below hb))
      have H13 : Hid (∀ W, Below w.heap.size w W → Calls Tryz.prog 27 #[.agg #[.int .i64 k1, .float .f64 x1, .string s1], .agg #[.int .i64 k3, .float .f64 x3, .string s3], .string ⟨#[37, 46, 54, 103]⟩] W fun e w' => e = .returned (.int .i64 (R)) ∧ Below W.heap.size W w') := fun W hb => hR ▸ (Compare_all k1 k3 x1 x3 s1 s3 W hx1 hx3 (by omega) (by omega) (HE.out.below hb) (HT.out.below hb))
      have ha : cmpC k2 x2 s2 k1 x1 s1 = -P := by rw [hP]; exact cmpC_anti hx1 hx2
      have hs1 : cmpC k1 x1 s1 k1 x1 s1 = 0 := cmpC_self hx1
      have H21 : Hid (∀ W, Below w.heap.size w W → Calls Tryz.prog 27 #[.agg #[.int .i64 k2, .float .f64 x2, .string s2], .agg #[.int .i64 k1, .float .f64 x1, .string s1], .string ⟨#[37, 46, 54, 103]⟩] W fun e w' => e = .returned (.int .i64 (-P)) ∧ Below W.heap.size W w') := fun W hb => ha ▸ (Compare_all k2 k1 x2 x1 s2 s1 W hx2 hx1 (by omega) (by omega) (HE.out.below hb) (HT.out.below hb))
      have H11 : Hid (∀ W, Below w.heap.size w W → Calls Tryz.prog 27 #[.agg #[.int .i64 k1, .float .f64 x1, .string s1], .agg #[.int .i64 k1, .float .f64 x1, .string s1], .string ⟨#[37, 46, 54, 103]⟩] W fun e w' => e = .returned (.int .i64 (0)) ∧ Below W.heap.size W w') := fun W hb => hs1 ▸ (Compare_all k1 k1 x1 x1 s1 s1 W hx1 hx1 (by omega) (by omega) (HE.out.below hb) (HT.out.below hb))
      have hPr := cmpC_range k1 x1 s1 k2 x2 s2
      rw [← hP] at hPr
      have hP1 := hPr.1
      have hP2 := hPr.2
      have HTr : Hid (((k1 = 2 ∧ k2 = 2 ∧ k3 = 2) ∨ (k1 ≠ 2 ∧ k2 ≠ 2 ∧ k3 ≠ 2)) → P ≤ 0 → Q ≤ 0 → R ≤ 0 ∧ ((P = 0 ∧ Q = 0) ↔ R = 0)) := by
        intro ht hp hq
        rw [hP] at hp
        rw [hQ] at hq
        rw [hP, hQ, hR]
        exact cmpC_trans hx1 hx2 hx3 ht hp hq
      clear hP hQ hR ha hs1 hPr HE HT hx1 hx2 hx3 z1 z2 z3
      go_wp2_with fail
      go_region_held3 (fun w' => w'.cell? ⟨B1, 0, none⟩ = some (.int .i64 k1) ∧ w'.cell? ⟨B1, 1, none⟩ = some (.float .f64 x1) ∧ w'.cell? ⟨B1, 2, none⟩ = some (.string s1) ∧ w'.cell? ⟨B2, 0, none⟩ = some (.int .i64 k2) ∧ w'.cell? ⟨B2, 1, none⟩ = some (.float .f64 x2) ∧ w'.cell? ⟨B2, 2, none⟩ = some (.string s2) ∧ w'.cell? ⟨B3, 0, none⟩ = some (.int .i64 k3) ∧ w'.cell? ⟨B3, 1, none⟩ = some (.float .f64 x3) ∧ w'.cell? ⟨B3, 2, none⟩ = some (.string s3)) (exact ⟨q0, q1, q2, q3, q4, q5, q6, q7, q8⟩)
        (first
          | (go_at_call 27; refine (H12.out _ (by first | exact HBw.out | exact HBw.out.drew)).mono ?_; clear H12; rintro e v2 ⟨rfl, hb⟩; have q0 := cell_next hb q0; have q1 := cell_next hb q1; have q2 := cell_next hb q2; have q3 := cell_next hb q3; have q4 := cell_next hb q4; have q5 := cell_next hb q5; have q6 := cell_next hb q6; have q7 := cell_next hb q7; have q8 := cell_next hb q8; have HV2 := Lib.hid (below_next (Nat.le_refl _) HBw.out hb (by first | exact .inl rfl | exact .inr rfl)); clear hb)
          | (go_at_call 27; refine (H23.out _ (by first | exact HV2.out | exact HV2.out.drew)).mono ?_; clear H23; rintro e v3 ⟨rfl, hb⟩; have q0 := cell_next hb q0; have q1 := cell_next hb q1; have q2 := cell_next hb q2; have q3 := cell_next hb q3; have q4 := cell_next hb q4; have q5 := cell_next hb q5; have q6 := cell_next hb q6; have q7 := cell_next hb q7; have q8 := cell_next hb q8; have HV3 := Lib.hid (below_next (Nat.le_refl _) HV2.out hb (by first | exact .inl rfl | exact .inr rfl)); clear hb)
          | (go_at_call 27; refine (H13.out _ (by first | exact HV3.out | exact HV3.out.drew)).mono ?_; clear H13; rintro e v4 ⟨rfl, hb⟩; have q0 := cell_next hb q0; have q1 := cell_next hb q1; have q2 := cell_next hb q2; have q3 := cell_next hb q3; have q4 := cell_next hb q4; have q5 := cell_next hb q5; have q6 := cell_next hb q6; have q7 := cell_next hb q7; have q8 := cell_next hb q8; have HV4 := Lib.hid (below_next (Nat.le_refl _) HV3.out hb (by first | exact .inl rfl | exact .inr rfl)); clear hb))
      all_goals go_wp2_with fail
      all_goals refine (H21.out _ HV4.out).mono ?_
      all_goals rintro e v5 ⟨rfl, hb⟩
      all_goals have q0 := cell_next hb q0
      all_goals have q1 := cell_next hb q1
      all_goals have q2 := cell_next hb q2
      all_goals have q3 := cell_next hb q3
      all_goals have q4 := cell_next hb q4
      all_goals have q5 := cell_next hb q5
      all_goals have q6 := cell_next hb q6
      all_goals have q7 := cell_next hb q7
      all_goals have q8 := cell_next hb q8
      all_goals have HV5 := Lib.hid (HV4.out.trans (hb.mono HV4.out.size))
      all_goals clear hb H21
      all_goals have hnn : (-P != -P) = false := by simp
      all_goals go_wp2_with fail
      all_goals refine (H11.out _ HV5.out).mono ?_
      all_goals rintro e v6 ⟨rfl, hb⟩
      all_goals have q0 := cell_next hb q0
      all_goals have q1 := cell_next hb q1
      all_goals have q2 := cell_next hb q2
      all_goals have q3 := cell_next hb q3
      all_goals have q4 := cell_next hb q4
      all_goals have q5 := cell_next hb q5
      all_goals have q6 := cell_next hb q6
      all_goals have q7 := cell_next hb q7
      all_goals have q8 := cell_next hb q8
      all_goals have HV6 := Lib.hid (HV5.out.trans (hb.mono HV5.out.size))
      all_goals clear hb H11
      all_goals by_cases a1 : k1 = 2 <;> by_cases a2 : k2 = 2 <;> by_cases a3 : k3 = 2
      · have c1 : ((k1 : Int) == 2) = true := by simp; omega
        have c2 : ((k2 : Int) == 2) = true := by simp; omega
        have c3 : ((k3 : Int) == 2) = true := by simp; omega
        have ht : (k1 = 2 ∧ k2 = 2 ∧ k3 = 2) ∨ (k1 ≠ 2 ∧ k2 ≠ 2 ∧ k3 ≠ 2) := by omega
        by_cases hp : P ≤ 0
        · by_cases hq : Q ≤ 0
          · obtain ⟨hr, hi⟩ := HTr.out ht hp hq
            have d1 : decide (P ≤ 0) = true := by simp; omega
            have d2 : decide (Q ≤ 0) = true := by simp; omega
            have d3 : decide (R ≤ 0) = true := by simp; omega
            by_cases zp : P = 0
            · by_cases zq : Q = 0
              · have zr : R = 0 := hi.1 ⟨zp, zq⟩
                have e1 : (P == 0) = true := by simp; omega
                have e2 : (Q == 0) = true := by simp; omega
                have e3 : (R == 0) = true := by simp; omega
                clear HTr ht a1 a2 a3 hp hq hr hi zp zq zr hnn
                go_wp2_with fail
                go_ret
                exact ⟨rfl, HV6.out⟩
              · have zr : ¬ R = 0 := fun h => zq (hi.2 h).2
                have e1 : (P == 0) = true := by simp; omega
                have e2 : (Q == 0) = false := by simp; omega
                have e3 : (R == 0) = false := by simp; omega
                clear HTr ht a1 a2 a3 hp hq hr hi zp zq zr hnn
                go_wp2_with fail
                go_ret
                exact ⟨rfl, HV6.out⟩
            · have zr : ¬ R = 0 := fun h => zp (hi.2 h).1
              have e1 : (P == 0) = false := by simp; omega
              have e3 : (R == 0) = false := by simp; omega
              clear HTr ht a1 a2 a3 hp hq hr hi zp zr hnn
              go_wp2_with fail
              go_ret
              exact ⟨rfl, HV6.out⟩
          · have d1 : decide (P ≤ 0) = true := by simp; omega
            have d2 : decide (Q ≤ 0) = false := by simp; omega
            clear HTr ht a1 a2 a3 hp hq
            go_wp2_with fail
            go_ret
            exact ⟨rfl, HV6.out⟩
        · have d1 : decide (P ≤ 0) = false := by simp; omega
          clear HTr ht a1 a2 a3 hp
          go_wp2_with fail
          go_ret
          exact ⟨rfl, HV6.out⟩
      · have c1 : ((k1 : Int) == 2) = true := by simp; omega
        have c2 : ((k2 : Int) == 2) = true := by simp; omega
        have c3 : ((k3 : Int) == 2) = false := by simp; omega
        clear HTr a1 a2 a3
        go_wp2_with fail
        go_ret
        exact ⟨rfl, HV6.out⟩
      · have c1 : ((k1 : Int) == 2) = true := by simp; omega
        have c2 : ((k2 : Int) == 2) = false := by simp; omega
        have c3 : ((k3 : Int) == 2) = true := by simp; omega
        clear HTr a1 a2 a3
        go_wp2_with fail
        go_ret
        exact ⟨rfl, HV6.out⟩
      · have c1 : ((k1 : Int) == 2) = true := by simp; omega
        have c2 : ((k2 : Int) == 2) = false := by simp; omega
        have c3 : ((k3 : Int) == 2) = false := by simp; omega
        clear HTr a1 a2 a3
        go_wp2_with fail
        go_ret
        exact ⟨rfl, HV6.out⟩
      · have c1 : ((k1 : Int) == 2) = false := by simp; omega
        have c2 : ((k2 : Int) == 2) = true := by simp; omega
        have c3 : ((k3 : Int) == 2) = true := by simp; omega
        clear HTr a1 a2 a3
        go_wp2_with fail
        go_ret
        exact ⟨rfl, HV6.out⟩
      · have c1 : ((k1 : Int) == 2) = false := by simp; omega
        have c2 : ((k2 : Int) == 2) = true := by simp; omega
        have c3 : ((k3 : Int) == 2) = false := by simp; omega
        clear HTr a1 a2 a3
        go_wp2_with fail
        go_ret
        exact ⟨rfl, HV6.out⟩
      · have c1 : ((k1 : Int) == 2) = false := by simp; omega
        have c2 : ((k2 : Int) == 2) = false := by simp; omega
        have c3 : ((k3 : Int) == 2) = true := by simp; omega
        clear HTr a1 a2 a3
        go_wp2_with fail
        go_ret
        exact ⟨rfl, HV6.out⟩
      · have c1 : ((k1 : Int) == 2) = false := by simp; omega
        have c2 : ((k2 : Int) == 2) = false := by simp; omega
        have c3 : ((k3 : Int) == 2) = false := by simp; omega
        have ht : (k1 = 2 ∧ k2 = 2 ∧ k3 = 2) ∨ (k1 ≠ 2 ∧ k2 ≠ 2 ∧ k3 ≠ 2) := by omega
        by_cases hp : P ≤ 0
        · by_cases hq : Q ≤ 0
          · obtain ⟨hr, hi⟩ := HTr.out ht hp hq
            have d1 : decide (P ≤ 0) = true := by simp; omega
            have d2 : decide (Q ≤ 0) = true := by simp; omega
            have d3 : decide (R ≤ 0) = true := by simp; omega
            by_cases zp : P = 0
            · by_cases zq : Q = 0
              · have zr : R = 0 := hi.1 ⟨zp, zq⟩
                have e1 : (P == 0) = true := by simp; omega
                have e2 : (Q == 0) = true := by simp; omega
                have e3 : (R == 0) = true := by simp; omega
                clear HTr ht a1 a2 a3 hp hq hr hi zp zq zr hnn
                go_wp2_with fail
                go_ret
                exact ⟨rfl, HV6.out⟩
              · have zr : ¬ R = 0 := fun h => zq (hi.2 h).2
                have e1 : (P == 0) = true := by simp; omega
                have e2 : (Q == 0) = false := by simp; omega
                have e3 : (R == 0) = false := by simp; omega
                clear HTr ht a1 a2 a3 hp hq hr hi zp zq zr hnn
                go_wp2_with fail
                go_ret
                exact ⟨rfl, HV6.out⟩
            · have zr : ¬ R = 0 := fun h => zp (hi.2 h).1
              have e1 : (P == 0) = false := by simp; omega
              have e3 : (R == 0) = false := by simp; omega
              clear HTr ht a1 a2 a3 hp hq hr hi zp zr hnn
              go_wp2_with fail
              go_ret
              exact ⟨rfl, HV6.out⟩
          · have d1 : decide (P ≤ 0) = true := by simp; omega
            have d2 : decide (Q ≤ 0) = false := by simp; omega
            clear HTr ht a1 a2 a3 hp hq
            go_wp2_with fail
            go_ret
            exact ⟨rfl, HV6.out⟩
        · have d1 : decide (P ≤ 0) = false := by simp; omega
          clear HTr ht a1 a2 a3 hp
          go_wp2_with fail
          go_ret
          exact ⟨rfl, HV6.out⟩
end Go.Proofs.YtjldeckcfdeklaaGreatDoor
