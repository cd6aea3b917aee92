/- threshertop.TopNumbers, walked. -/
import Derived.Test.YtcmpdamfeoaapaaGreatDoorT3
import Derived.Test.YtcmpdamfeoaapaaGreatDoorQ21
import Derived.Test.YtcmpdamfeoaapaaGreatDoorP12
import Derived.Test.YtcmpdamfeoaapaaGreatDoorM11
import Derived.Test.YtcmpdamfeoaapaaGreatDoorG5
namespace Go.Proofs.YtcmpdamfeoaapaaGreatDoor
open Go.RowKit
set_option linter.unusedVariables false

set_option maxRecDepth 100000 in
set_option maxHeartbeats 16000000 in
theorem topnum_any (b : Nat) (m p bl al z : Bool) (wd pr : Int) (vb : Nat) (w : World) (hT : Tabs5 w) (hb : b < 18446744073709551616) (hvb : vb < 256) :
    Calls Tryz.prog 4 #[.int .u64 (b : Nat), .agg (specA m p bl al z wd pr vb)] w fun e w' => e = .returned (.bool true) ∧ Below w.heap.size w w' := by
  have hb0 : Below w.heap.size w (w.alloc (.cells (specA m p bl al z wd pr vb) 30)) := (Below.refl w.heap.size w).alloc (Nat.le_refl _) _
  have HB0 := Lib.hid hb0
  have HE := Lib.hid hT.err
  have HPw := Lib.hid hT.pow
  have HStr : Hid (∀ (x : Nat) (W : World), x < 18446744073709551616 → fin x = true → ErrOk W → PowOk W → Calls Tryz.prog 18 #[.agg #[.int .i64 1, .float .f64 x, .string ⟨#[]⟩], .string ⟨#[37, 46, 49, 55, 103]⟩] W fun e w' => e = .returned (.string (convS x)) ∧ Below W.heap.size W w') := fun x W h1 h2 h3 h4 => Str_num x ⟨#[]⟩ ⟨#[37, 46, 49, 55, 103]⟩ (convS x) W (fun W' h => Conv_g17 x W' h1 h2 (h3.below h) (h4.below h))
  have HS5 := Lib.hid (fun W => HStr.out 4602678819172646912 W (by decide) half_fin)
  rw [ex17_conv] at HS5
  have HO5 := Lib.hid (fun W => Of_any 4602678819172646912 W)
  have HInf := Lib.hid (fun W => IsInf_all b W hb)
  unfold cellA at HO5
  unfold specA at HB0 ⊢
  clear hT hb0
  by_cases hf : fin b = true
  · obtain ⟨o1, o2, o3⟩ := fin_order hb hf
    have oq : (FloatKind.f64.format.order b b != some .eq) = false := by rw [o1]; rfl
    have oi := inf_fin hf
    rw [oi] at HInf
    obtain ⟨wc, hwc⟩ : ∃ wc, wc = min (max wd 0) 100 := ⟨_, rfl⟩
    have hw0 : 0 ≤ wc := by omega
    have hw60 : wc ≤ 100 := by omega
    have HWc := Lib.hid hwc.symm
    have z1 := floatO_size m p bl al z wc 16 101 b w hb hf (by decide) (by omega) HPw.out
    have HN1 := Lib.hid (fun W h => Number_101 m p bl al z wc 16 b W hb hf (by decide) (by decide) hw0 (by omega) h)
    obtain ⟨e1, e2⟩ := back_e m p bl al z wc hb hf
    have e3 := e_looks m p bl al z wc hb hf
    have HIn1 := Lib.hid (fun W => Input_any (floatO m p bl al z wc 16 101 b) W (by omega))
    have hin1 : inA (floatO m p bl al z wc 16 101 b) = cellA 3 b (floatO m p bl al z wc 16 101 b) := by unfold inA; rw [e3, if_pos rfl, e1]
    rw [hin1] at HIn1
    generalize floatO m p bl al z wc 16 101 b = S1 at *
    obtain ⟨c1, c2, c3⟩ := conv_back hb hf
    have HSt := Lib.hid (fun W => HStr.out b W hb hf)
    have z2 : (convS b).size ≤ 100000 := conv_size hb hf HPw.out
    have HIn2 := Lib.hid (fun W => Input_any (convS b) W (by omega))
    have hin2 : inA (convS b) = cellA 3 (prefB (convS b).data.toList) (convS b) := by unfold inA; rw [c1, if_pos rfl]
    rw [hin2] at HIn2
    have oDD := pref_self (convS b).data.toList
    generalize prefB (convS b).data.toList = D at *
    generalize convS b = S2 at *
    have hDn : nanF D = false := by unfold nanF; rw [oDD]; rfl
    have hfb := fin_mod.1 hf
    have k1 := order_key c3 hb (nan_not hDn) (by omega)
    rw [c2] at k1
    have k2 : keyF D = keyF b := by
      have h := (Option.some.inj k1).symm
      exact Int.compare_eq_eq.1 h
    have oD : (FloatKind.f64.format.order D b != some .eq) = false := by rw [c2]; rfl
    have oBD : FloatKind.f64.format.order b D = some .eq := by rw [order_key hb c3 (by omega) (nan_not hDn), Int.compare_eq_eq.2 k2.symm]
    have HOb := Lib.hid (fun W => Of_any b W)
    have HC1 := Lib.hid (fun W => Compare_nums 3 1 b b S1 ⟨#[]⟩ ⟨#[37, 46, 54, 103]⟩ W (.inr rfl) (.inl rfl) o1 o1)
    have HC2 := Lib.hid (fun W => Compare_nums 3 3 b D S1 S2 ⟨#[37, 46, 54, 103]⟩ W (.inr rfl) (.inr rfl) o1 oDD)
    rw [show ordF b b = 0 from by unfold ordF; rw [o1]; rfl] at HC1
    rw [show ordF b D = 0 from by unfold ordF; rw [oBD]; rfl] at HC2
    have HTr := Lib.hid (fun W => True_num b S1 W)
    unfold cellA at HIn1 HIn2 HOb HC1 HC2
    unfold specA at HN1
    clear e1 e2 e3 c1 c2 c3 k1 k2 hDn hfb hwc hin1 hin2 o1 o2 o3 oi oDD oBD hw0 hw60 z1 z2 hf HStr
    go_enter Tryz.func4, Tryz.ntmps4
    go_wp2_with fail
    refine (HO5.out _).mono ?_
    rintro e w1 ⟨rfl, hb1⟩
    have hsp1 : SpAt w1 w.heap.size #[.bool m, .bool p, .bool bl, .bool al, .bool z, .int .i64 wd, .int .i64 pr, .int .u8 (vb : Int)] := SpAt.next (heap_alloc_at w _) hb1
    have HB1 := Lib.hid (HB0.out.trans (hb1.mono (by simp)))
    have hs1 := HB1.out.size
    clear hb1 HB0
    go_wp2_with fail
    refine (HS5.out _ (HE.out.below HB1.out) (HPw.out.below HB1.out)).mono ?_
    rintro e w2 ⟨rfl, hb2⟩
    have hsp2 := hsp1.next hb2
    clear hsp1
    have HB2 := Lib.hid (HB1.out.trans (hb2.mono hs1))
    have hs2 := HB2.out.size
    clear hb2 HB1 hs1
    go_wp2_with fail
    have qf : ∀ j, w2.frozen? ⟨w.heap.size, j, none⟩ = false := Lib.frozen_of_heap hsp2
    have q0 : w2.cell? ⟨w.heap.size, 0, none⟩ = some (.bool m) := hsp2.cell 0
    have q1 : w2.cell? ⟨w.heap.size, 1, none⟩ = some (.bool p) := hsp2.cell 1
    have q2 : w2.cell? ⟨w.heap.size, 2, none⟩ = some (.bool bl) := hsp2.cell 2
    have q3 : w2.cell? ⟨w.heap.size, 3, none⟩ = some (.bool al) := hsp2.cell 3
    have q4 : w2.cell? ⟨w.heap.size, 4, none⟩ = some (.bool z) := hsp2.cell 4
    have q5 : w2.cell? ⟨w.heap.size, 5, none⟩ = some (.int .i64 wd) := hsp2.cell 5
    have q6 : w2.cell? ⟨w.heap.size, 6, none⟩ = some (.int .i64 pr) := hsp2.cell 6
    have q7 : w2.cell? ⟨w.heap.size, 7, none⟩ = some (.int .u8 (vb : Int)) := hsp2.cell 7
    have HSp := Lib.hid hsp2
    clear hsp2
    refine (HInf.out _).mono ?_
    rintro e _ ⟨rfl, rfl⟩
    go_wp2_with fail
    rw [HWc.out]
    generalize hW2 : World.setCell _ _ _ = W2
    have HB3 : Hid (Below w.heap.size w W2) := by rw [← hW2]; exact ((HB2.out.setCell (p := ⟨w.heap.size, 7, none⟩) (Nat.le_refl _) _).setCell (p := ⟨w.heap.size, 6, none⟩) (Nat.le_refl _) _).setCell (p := ⟨w.heap.size, 5, none⟩) (Nat.le_refl _) _
    have hs3 := HB3.out.size
    clear hW2 q0 q1 q2 q3 q4 q5 q6 q7 qf HB2 HSp hs2
    refine (HN1.out _ (HPw.out.below HB3.out)).mono ?_
    rintro e w4 ⟨rfl, hb4⟩
    have HB4 := Lib.hid (HB3.out.trans (hb4.mono hs3))
    have hs4 := HB4.out.size
    clear hb4 HB3 hs3
    go_wp2_with fail
    refine (HIn1.out _).mono ?_
    rintro e w5 ⟨rfl, hb5⟩
    have HB5 := Lib.hid (HB4.out.trans (hb5.mono hs4))
    have hs5 := HB5.out.size
    clear hb5 HB4 hs4
    go_wp2_with fail
    refine (HOb.out _).mono ?_
    rintro e w6 ⟨rfl, hb6⟩
    obtain ⟨b1, hb1e⟩ : ∃ b1, b1 = w5.heap.size := ⟨_, rfl⟩
    have k0 : w6.cell? ⟨w5.heap.size, 0, none⟩ = some (.int .i64 3) := (hb6.cell (p := ⟨w5.heap.size, 0, none⟩) (by simp)).trans (by simp [go_sem])
    have k1 : w6.cell? ⟨w5.heap.size, 1, none⟩ = some (.float .f64 b) := (hb6.cell (p := ⟨w5.heap.size, 1, none⟩) (by simp)).trans (by simp [go_sem])
    have k2 : w6.cell? ⟨w5.heap.size, 2, none⟩ = some (.string S1) := (hb6.cell (p := ⟨w5.heap.size, 2, none⟩) (by simp)).trans (by simp [go_sem])
    have B5a : Below w.heap.size w (w5.alloc (.cells #[.int .i64 3, .float .f64 b, .string S1] 35)) := HB5.out.alloc hs5 _
    have HB6 := Lib.hid (B5a.trans (hb6.mono B5a.size))
    have hs6 := HB6.out.size
    have hb16 : w5.heap.size < w6.heap.size := by have := hb6.size; simp at this; omega
    rw [← hb1e] at k0 k1 k2 hb16
    clear hb6 HB5 B5a
    simp only [← hb1e]
    clear hb1e hs5
    go_wp2_with fail
    refine (HSt.out _ (HE.out.below HB6.out) (HPw.out.below HB6.out)).mono ?_
    rintro e w7 ⟨rfl, hb7⟩
    replace k0 := cell_next hb7 k0
    replace k1 := cell_next hb7 k1
    replace k2 := cell_next hb7 k2
    have HB7 := Lib.hid (HB6.out.trans (hb7.mono hs6))
    have hs7 := HB7.out.size
    have hb17 : b1 < w7.heap.size := Nat.lt_of_lt_of_le hb16 hb7.size
    clear hb7 HB6 hs6 hb16
    go_wp2_with fail
    refine (HIn2.out _).mono ?_
    rintro e w8 ⟨rfl, hb8⟩
    replace k0 := cell_next hb8 k0
    replace k1 := cell_next hb8 k1
    replace k2 := cell_next hb8 k2
    have HB8 := Lib.hid (HB7.out.trans (hb8.mono hs7))
    have hs8 := HB8.out.size
    have hb18 : b1 < w8.heap.size := Nat.lt_of_lt_of_le hb17 hb8.size
    clear hb8 HB7 hs7 hb17
    obtain ⟨W9, hW9⟩ : ∃ W9, W9 = w8.alloc (.cells #[.int .i64 3, .float .f64 D, .string S2] 35) := ⟨_, rfl⟩
    have B9 : Below w8.heap.size w8 W9 := by rw [hW9]; exact (Below.refl _ _).alloc (Nat.le_refl _) _
    have HK9 : Hid (W9.cell? ⟨b1, 0, none⟩ = some (.int .i64 3) ∧ W9.cell? ⟨b1, 1, none⟩ = some (.float .f64 b) ∧ W9.cell? ⟨b1, 2, none⟩ = some (.string S1) ∧ W9.cell? ⟨w8.heap.size, 0, none⟩ = some (.int .i64 3) ∧ W9.cell? ⟨w8.heap.size, 1, none⟩ = some (.float .f64 D) ∧ W9.cell? ⟨w8.heap.size, 2, none⟩ = some (.string S2)) :=
      ⟨(B9.cell (p := ⟨b1, 0, none⟩) hb18).trans k0, (B9.cell (p := ⟨b1, 1, none⟩) hb18).trans k1, (B9.cell (p := ⟨b1, 2, none⟩) hb18).trans k2, by rw [hW9]; simp [go_sem], by rw [hW9]; simp [go_sem], by rw [hW9]; simp [go_sem]⟩
    have HB9 : Hid (Below w.heap.size w W9) := by rw [hW9]; exact HB8.out.alloc hs8 _
    obtain ⟨b2, hb2e⟩ : ∃ b2, b2 = w8.heap.size := ⟨_, rfl⟩
    rw [← hb2e] at HK9
    have HW9 := Lib.hid hW9
    have HB2E := Lib.hid hb2e
    clear B9 hW9 HB8 hs8 hb2e
    go_wp2_with fail
    rw [← HW9.out, ← HB2E.out]
    have k0 := HK9.out.1
    have k1 := HK9.out.2.1
    have k2 := HK9.out.2.2.1
    have k3 := HK9.out.2.2.2.1
    have k4 := HK9.out.2.2.2.2.1
    have k5 := HK9.out.2.2.2.2.2
    have hs9 := HB9.out.size
    refine wp_region_guarded (by kernel_rfl) (by kernel_rfl) (fun a0 V0 L a W => ∃ u : Nat → Value, a = { tmps := (((((((((((((((((((a0.tmps.setIfInBounds 66 (u 0)).setIfInBounds 67 (u 1)).setIfInBounds 68 (u 2)).setIfInBounds 69 (u 3)).setIfInBounds 70 (u 4)).setIfInBounds 71 (u 5)).setIfInBounds 72 (u 6)).setIfInBounds 73 (u 7)).setIfInBounds 74 (u 8)).setIfInBounds 75 (u 9)).setIfInBounds 76 (u 10)).setIfInBounds 77 (u 11)).setIfInBounds 78 (u 12)).setIfInBounds 79 (u 13)).setIfInBounds 80 (u 14)).setIfInBounds 81 (u 15)).setIfInBounds 82 (u 16)).setIfInBounds 83 (u 17)).setIfInBounds 4 (u 18)), defers := a0.defers } ∧ Hid (Below V0.heap.size V0 W) ∧ Hid (∀ i, L i = true → u i = valAt [.agg #[.int .i64 3, .float .f64 b, .string S1], .float .f64 b, .agg #[.int .i64 1, .float .f64 b, .string ⟨#[]⟩], .int .i64 0, .bool true, .bool true, .agg #[.int .i64 3, .float .f64 b, .string S1], .agg #[.int .i64 3, .float .f64 D, .string S2], .int .i64 0, .bool true, .bool true, .bool true, .agg #[.int .i64 3, .float .f64 b, .string S1], .bool (nzF b), .float .f64 b, .bool (nzF b), .bool true, .bool true, .bool true] i)) ?h0 ?hstep ?hdone
    case h0 =>
      refine ⟨valAt [undef, undef, undef, undef, undef, undef, undef, undef, undef, undef, undef, undef, undef, undef, undef, undef, undef, undef, .bool false], ?_, (Below.refl _ _).drew, fun _ h => (by cases h)⟩
      kernel_rfl
    case hstep =>
      refine ⟨?o0, ?o1, ?o2, ?o3, ?o4, ?o5, ?o6, ?o7, ?o8, ?o9, ?o10, ?o11, ?o12, ?o13, ?o14, ?o15, ?o16, ?o17, ?o18, trivial⟩
      case o0 =>
        rintro L a' W ⟨u, rfl, HI, E⟩ hL hd K hK
        have kk0 := cellNext HI.out k0
        have kk1 := cellNext HI.out k1
        have kk2 := cellNext HI.out k2
        simp only [List.setIfInBounds_toArray, List.set_cons_zero, List.set_cons_succ]
        refine ite_take rfl ?_
        clear hL hd
        go_simp
        refine hK _ _ ⟨withVal u 0 (.agg #[.int .i64 3, .float .f64 b, .string S1]), ?_, HI, withVal_next E 0 _ rfl⟩
        kernel_rfl
      case o1 =>
        rintro L a' W ⟨u, rfl, HI, E⟩ hL hd K hK
        simp only [List.setIfInBounds_toArray, List.set_cons_zero, List.set_cons_succ]
        refine ite_take rfl ?_
        clear hL hd
        go_simp
        refine hK _ _ ⟨withVal u 1 (.float .f64 b), ?_, HI, withVal_next E 1 _ rfl⟩
        kernel_rfl
      case o2 =>
        rintro L a' W ⟨u, rfl, HI, E⟩ hL hd K hK
        have e1 : u 1 = .float .f64 b := E.out 1 (hd 1 (List.elem_iff.1 (by kernel_rfl)))
        simp only [List.setIfInBounds_toArray, List.set_cons_zero, List.set_cons_succ, e1]
        refine ite_take rfl ?_
        clear hL hd
        go_simp
        refine (HOb.out W).mono ?_
        rintro e W' ⟨rfl, hb⟩
        refine hK _ _ ⟨withVal (withVal u 1 (.float .f64 b)) 2 (.agg #[.int .i64 1, .float .f64 b, .string ⟨#[]⟩]), ?_, HI.out.trans (hb.mono HI.out.size), withVal_next (withVal_same E 1 _ rfl) 2 _ rfl⟩
        kernel_rfl
      case o3 =>
        rintro L a' W ⟨u, rfl, HI, E⟩ hL hd K hK
        have e0 : u 0 = .agg #[.int .i64 3, .float .f64 b, .string S1] := E.out 0 (hd 0 (List.elem_iff.1 (by kernel_rfl)))
        have e2 : u 2 = .agg #[.int .i64 1, .float .f64 b, .string ⟨#[]⟩] := E.out 2 (hd 2 (List.elem_iff.1 (by kernel_rfl)))
        simp only [List.setIfInBounds_toArray, List.set_cons_zero, List.set_cons_succ, e0, e2]
        refine ite_take rfl ?_
        clear hL hd
        go_simp
        refine (HC1.out W).mono ?_
        rintro e W' ⟨rfl, hb⟩
        refine hK _ _ ⟨withVal (withVal (withVal u 0 (.agg #[.int .i64 3, .float .f64 b, .string S1])) 2 (.agg #[.int .i64 1, .float .f64 b, .string ⟨#[]⟩])) 3 (.int .i64 0), ?_, HI.out.trans (hb.mono HI.out.size), withVal_next (withVal_same (withVal_same E 0 _ rfl) 2 _ rfl) 3 _ rfl⟩
        kernel_rfl
      case o4 =>
        rintro L a' W ⟨u, rfl, HI, E⟩ hL hd K hK
        have e3 : u 3 = .int .i64 0 := E.out 3 (hd 3 (List.elem_iff.1 (by kernel_rfl)))
        simp only [List.setIfInBounds_toArray, List.set_cons_zero, List.set_cons_succ, e3]
        refine ite_take rfl ?_
        clear hL hd
        go_simp
        refine hK _ _ ⟨withVal (withVal u 3 (.int .i64 0)) 4 (.bool true), ?_, HI, withVal_next (withVal_same E 3 _ rfl) 4 _ rfl⟩
        kernel_rfl
      case o5 =>
        rintro L a' W ⟨u, rfl, HI, E⟩ hL hd K hK
        have e4 : u 4 = .bool true := E.out 4 (hd 4 (List.elem_iff.1 (by kernel_rfl)))
        simp only [List.setIfInBounds_toArray, List.set_cons_zero, List.set_cons_succ, e4]
        refine ite_take rfl ?_
        clear hL hd
        go_simp
        refine hK _ _ ⟨withVal (withVal u 4 (.bool true)) 5 (.bool true), ?_, HI, withVal_next (withVal_same E 4 _ rfl) 5 _ rfl⟩
        kernel_rfl
      case o6 =>
        rintro L a' W ⟨u, rfl, HI, E⟩ hL hd K hK
        have e5 : u 5 = .bool true := E.out 5 (hd 5 (List.elem_iff.1 (by kernel_rfl)))
        have kk0 := cellNext HI.out k0
        have kk1 := cellNext HI.out k1
        have kk2 := cellNext HI.out k2
        simp only [List.setIfInBounds_toArray, List.set_cons_zero, List.set_cons_succ, e5]
        refine ite_take rfl ?_
        clear hL hd
        go_simp
        refine hK _ _ ⟨withVal (withVal u 5 (.bool true)) 6 (.agg #[.int .i64 3, .float .f64 b, .string S1]), ?_, HI, withVal_next (withVal_same E 5 _ rfl) 6 _ rfl⟩
        kernel_rfl
      case o7 =>
        rintro L a' W ⟨u, rfl, HI, E⟩ hL hd K hK
        have e5 : u 5 = .bool true := E.out 5 (hd 5 (List.elem_iff.1 (by kernel_rfl)))
        have kk3 := cellNext HI.out k3
        have kk4 := cellNext HI.out k4
        have kk5 := cellNext HI.out k5
        simp only [List.setIfInBounds_toArray, List.set_cons_zero, List.set_cons_succ, e5]
        refine ite_take rfl ?_
        clear hL hd
        go_simp
        refine hK _ _ ⟨withVal (withVal u 5 (.bool true)) 7 (.agg #[.int .i64 3, .float .f64 D, .string S2]), ?_, HI, withVal_next (withVal_same E 5 _ rfl) 7 _ rfl⟩
        kernel_rfl
      case o8 =>
        rintro L a' W ⟨u, rfl, HI, E⟩ hL hd K hK
        have e5 : u 5 = .bool true := E.out 5 (hd 5 (List.elem_iff.1 (by kernel_rfl)))
        have e6 : u 6 = .agg #[.int .i64 3, .float .f64 b, .string S1] := E.out 6 (hd 6 (List.elem_iff.1 (by kernel_rfl)))
        have e7 : u 7 = .agg #[.int .i64 3, .float .f64 D, .string S2] := E.out 7 (hd 7 (List.elem_iff.1 (by kernel_rfl)))
        simp only [List.setIfInBounds_toArray, List.set_cons_zero, List.set_cons_succ, e5, e6, e7]
        refine ite_take rfl ?_
        clear hL hd
        go_simp
        refine (HC2.out W).mono ?_
        rintro e W' ⟨rfl, hb⟩
        refine hK _ _ ⟨withVal (withVal (withVal (withVal u 5 (.bool true)) 6 (.agg #[.int .i64 3, .float .f64 b, .string S1])) 7 (.agg #[.int .i64 3, .float .f64 D, .string S2])) 8 (.int .i64 0), ?_, HI.out.trans (hb.mono HI.out.size), withVal_next (withVal_same (withVal_same (withVal_same E 5 _ rfl) 6 _ rfl) 7 _ rfl) 8 _ rfl⟩
        kernel_rfl
      case o9 =>
        rintro L a' W ⟨u, rfl, HI, E⟩ hL hd K hK
        have e5 : u 5 = .bool true := E.out 5 (hd 5 (List.elem_iff.1 (by kernel_rfl)))
        have e8 : u 8 = .int .i64 0 := E.out 8 (hd 8 (List.elem_iff.1 (by kernel_rfl)))
        simp only [List.setIfInBounds_toArray, List.set_cons_zero, List.set_cons_succ, e5, e8]
        refine ite_take rfl ?_
        clear hL hd
        go_simp
        refine hK _ _ ⟨withVal (withVal (withVal u 5 (.bool true)) 8 (.int .i64 0)) 9 (.bool true), ?_, HI, withVal_next (withVal_same (withVal_same E 5 _ rfl) 8 _ rfl) 9 _ rfl⟩
        kernel_rfl
      case o10 =>
        rintro L a' W ⟨u, rfl, HI, E⟩ hL hd K hK
        have e5 : u 5 = .bool true := E.out 5 (hd 5 (List.elem_iff.1 (by kernel_rfl)))
        have e9 : u 9 = .bool true := E.out 9 (hd 9 (List.elem_iff.1 (by kernel_rfl)))
        simp only [List.setIfInBounds_toArray, List.set_cons_zero, List.set_cons_succ, e5, e9]
        refine ite_take rfl ?_
        clear hL hd
        go_simp
        refine hK _ _ ⟨withVal (withVal (withVal u 5 (.bool true)) 9 (.bool true)) 10 (.bool true), ?_, HI, withVal_next (withVal_same (withVal_same E 5 _ rfl) 9 _ rfl) 10 _ rfl⟩
        kernel_rfl
      case o11 =>
        rintro L a' W ⟨u, rfl, HI, E⟩ hL hd K hK
        have e10 : u 10 = .bool true := E.out 10 (hd 10 (List.elem_iff.1 (by kernel_rfl)))
        simp only [List.setIfInBounds_toArray, List.set_cons_zero, List.set_cons_succ, e10]
        refine ite_take rfl ?_
        clear hL hd
        go_simp
        refine hK _ _ ⟨withVal (withVal u 10 (.bool true)) 11 (.bool true), ?_, HI, withVal_next (withVal_same E 10 _ rfl) 11 _ rfl⟩
        kernel_rfl
      case o12 =>
        rintro L a' W ⟨u, rfl, HI, E⟩ hL hd K hK
        have e11 : u 11 = .bool true := E.out 11 (hd 11 (List.elem_iff.1 (by kernel_rfl)))
        have kk0 := cellNext HI.out k0
        have kk1 := cellNext HI.out k1
        have kk2 := cellNext HI.out k2
        simp only [List.setIfInBounds_toArray, List.set_cons_zero, List.set_cons_succ, e11]
        refine ite_take rfl ?_
        clear hL hd
        go_simp
        refine hK _ _ ⟨withVal (withVal u 11 (.bool true)) 12 (.agg #[.int .i64 3, .float .f64 b, .string S1]), ?_, HI, withVal_next (withVal_same E 11 _ rfl) 12 _ rfl⟩
        kernel_rfl
      case o13 =>
        rintro L a' W ⟨u, rfl, HI, E⟩ hL hd K hK
        have e11 : u 11 = .bool true := E.out 11 (hd 11 (List.elem_iff.1 (by kernel_rfl)))
        have e12 : u 12 = .agg #[.int .i64 3, .float .f64 b, .string S1] := E.out 12 (hd 12 (List.elem_iff.1 (by kernel_rfl)))
        simp only [List.setIfInBounds_toArray, List.set_cons_zero, List.set_cons_succ, e11, e12]
        refine ite_take rfl ?_
        clear hL hd
        go_simp
        refine (HTr.out W).mono ?_
        rintro e W' ⟨rfl, hb⟩
        refine hK _ _ ⟨withVal (withVal (withVal u 11 (.bool true)) 12 (.agg #[.int .i64 3, .float .f64 b, .string S1])) 13 (.bool (nzF b)), ?_, HI.out.trans (hb.mono HI.out.size), withVal_next (withVal_same (withVal_same E 11 _ rfl) 12 _ rfl) 13 _ rfl⟩
        kernel_rfl
      case o14 =>
        rintro L a' W ⟨u, rfl, HI, E⟩ hL hd K hK
        have e11 : u 11 = .bool true := E.out 11 (hd 11 (List.elem_iff.1 (by kernel_rfl)))
        simp only [List.setIfInBounds_toArray, List.set_cons_zero, List.set_cons_succ, e11]
        refine ite_take rfl ?_
        clear hL hd
        go_simp
        refine hK _ _ ⟨withVal (withVal u 11 (.bool true)) 14 (.float .f64 b), ?_, HI, withVal_next (withVal_same E 11 _ rfl) 14 _ rfl⟩
        kernel_rfl
      case o15 =>
        rintro L a' W ⟨u, rfl, HI, E⟩ hL hd K hK
        have e11 : u 11 = .bool true := E.out 11 (hd 11 (List.elem_iff.1 (by kernel_rfl)))
        have e14 : u 14 = .float .f64 b := E.out 14 (hd 14 (List.elem_iff.1 (by kernel_rfl)))
        simp only [List.setIfInBounds_toArray, List.set_cons_zero, List.set_cons_succ, e11, e14]
        refine ite_take rfl ?_
        clear hL hd
        go_simp
        refine hK _ _ ⟨withVal (withVal (withVal u 11 (.bool true)) 14 (.float .f64 b)) 15 (.bool (nzF b)), ?_, HI, withVal_next (withVal_same (withVal_same E 11 _ rfl) 14 _ rfl) 15 _ rfl⟩
        kernel_rfl
      case o16 =>
        rintro L a' W ⟨u, rfl, HI, E⟩ hL hd K hK
        have e11 : u 11 = .bool true := E.out 11 (hd 11 (List.elem_iff.1 (by kernel_rfl)))
        have e13 : u 13 = .bool (nzF b) := E.out 13 (hd 13 (List.elem_iff.1 (by kernel_rfl)))
        have e15 : u 15 = .bool (nzF b) := E.out 15 (hd 15 (List.elem_iff.1 (by kernel_rfl)))
        simp only [List.setIfInBounds_toArray, List.set_cons_zero, List.set_cons_succ, e11, e13, e15]
        refine ite_take rfl ?_
        clear hL hd
        go_simp
        refine hK _ _ ⟨withVal (withVal (withVal (withVal u 11 (.bool true)) 13 (.bool (nzF b))) 15 (.bool (nzF b))) 16 (.bool true), ?_, HI, withVal_next (withVal_same (withVal_same (withVal_same E 11 _ rfl) 13 _ rfl) 15 _ rfl) 16 _ rfl⟩
        kernel_rfl
      case o17 =>
        rintro L a' W ⟨u, rfl, HI, E⟩ hL hd K hK
        have e11 : u 11 = .bool true := E.out 11 (hd 11 (List.elem_iff.1 (by kernel_rfl)))
        have e16 : u 16 = .bool true := E.out 16 (hd 16 (List.elem_iff.1 (by kernel_rfl)))
        simp only [List.setIfInBounds_toArray, List.set_cons_zero, List.set_cons_succ, e11, e16]
        refine ite_take rfl ?_
        clear hL hd
        go_simp
        refine hK _ _ ⟨withVal (withVal (withVal u 11 (.bool true)) 16 (.bool true)) 17 (.bool true), ?_, HI, withVal_next (withVal_same (withVal_same E 11 _ rfl) 16 _ rfl) 17 _ rfl⟩
        kernel_rfl
      case o18 =>
        rintro L a' W ⟨u, rfl, HI, E⟩ hL hd K hK
        have e17 : u 17 = .bool true := E.out 17 (hd 17 (List.elem_iff.1 (by kernel_rfl)))
        simp only [List.setIfInBounds_toArray, List.set_cons_zero, List.set_cons_succ, e17]
        refine ite_take rfl ?_
        clear hL hd
        go_simp
        refine hK _ _ ⟨withVal (withVal u 17 (.bool true)) 18 (.bool true), ?_, HI, withVal_next (withVal_same E 17 _ rfl) 18 _ rfl⟩
        kernel_rfl
    case hdone =>
      rintro L a' W1 hall ⟨u, rfl, HI, E⟩
      have e0 : u 0 = .agg #[.int .i64 3, .float .f64 b, .string S1] := E.out 0 (hall 0 (by decide))
      have e1 : u 1 = .float .f64 b := E.out 1 (hall 1 (by decide))
      have e2 : u 2 = .agg #[.int .i64 1, .float .f64 b, .string ⟨#[]⟩] := E.out 2 (hall 2 (by decide))
      have e3 : u 3 = .int .i64 0 := E.out 3 (hall 3 (by decide))
      have e4 : u 4 = .bool true := E.out 4 (hall 4 (by decide))
      have e5 : u 5 = .bool true := E.out 5 (hall 5 (by decide))
      have e6 : u 6 = .agg #[.int .i64 3, .float .f64 b, .string S1] := E.out 6 (hall 6 (by decide))
      have e7 : u 7 = .agg #[.int .i64 3, .float .f64 D, .string S2] := E.out 7 (hall 7 (by decide))
      have e8 : u 8 = .int .i64 0 := E.out 8 (hall 8 (by decide))
      have e9 : u 9 = .bool true := E.out 9 (hall 9 (by decide))
      have e10 : u 10 = .bool true := E.out 10 (hall 10 (by decide))
      have e11 : u 11 = .bool true := E.out 11 (hall 11 (by decide))
      have e12 : u 12 = .agg #[.int .i64 3, .float .f64 b, .string S1] := E.out 12 (hall 12 (by decide))
      have e13 : u 13 = .bool (nzF b) := E.out 13 (hall 13 (by decide))
      have e14 : u 14 = .float .f64 b := E.out 14 (hall 14 (by decide))
      have e15 : u 15 = .bool (nzF b) := E.out 15 (hall 15 (by decide))
      have e16 : u 16 = .bool true := E.out 16 (hall 16 (by decide))
      have e17 : u 17 = .bool true := E.out 17 (hall 17 (by decide))
      have e18 : u 18 = .bool true := E.out 18 (hall 18 (by decide))
      simp only [List.setIfInBounds_toArray, List.set_cons_zero, List.set_cons_succ, e0, e1, e2, e3, e4, e5, e6, e7, e8, e9, e10, e11, e12, e13, e14, e15, e16, e17, e18]
      rename_i Q' K hKK
      refine hKK _ _ ?_
      clear hKK hall E
      go_wp2_with fail
      go_ret
      exact ⟨rfl, HB9.out.trans (HI.out.mono hs9)⟩
  · have hnf : 9218868437227405312 ≤ b % 9223372036854775808 := by
      rcases Nat.lt_or_ge (b % 9223372036854775808) 9218868437227405312 with h | h
      · exact absurd (fin_mod.2 h) hf
      · exact h
    clear HStr hf
    rcases Nat.lt_or_ge 9218868437227405312 (b % 9223372036854775808) with hnan | hinf
    · have oq : (FloatKind.f64.format.order b b != some .eq) = true := by
        cases h : (FloatKind.f64.format.order b b != some .eq) with
        | true => rfl
        | false =>
          exfalso
          have := nan_not (x := b) h
          omega
      clear HInf hnf hnan
      go_enter Tryz.func4, Tryz.ntmps4
      go_wp2_with fail
      refine (HO5.out _).mono ?_
      rintro e w1 ⟨rfl, hb1⟩
      have HB1 := Lib.hid (HB0.out.trans (hb1.mono (by simp)))
      have hs1 := HB1.out.size
      clear hb1 HB0
      go_wp2_with fail
      refine (HS5.out _ (HE.out.below HB1.out) (HPw.out.below HB1.out)).mono ?_
      rintro e w2 ⟨rfl, hb2⟩
      have HB2 := Lib.hid (HB1.out.trans (hb2.mono hs1))
      have hs2 := HB2.out.size
      clear hb2 HB1 hs1
      go_wp2_with fail
      go_ret
      exact ⟨rfl, HB2.out⟩
    · have hb2 : b = 9218868437227405312 ∨ b = 18442240474082181120 := by omega
      clear hnf hinf
      have d1 : (FloatKind.f64.format.order 9218868437227405312 9218868437227405312 != some .eq) = false := by decide
      have d2 : (FloatKind.f64.format.order 18442240474082181120 18442240474082181120 != some .eq) = false := by decide
      have HI1 : Hid (∀ W, Calls Tryz.prog 20 #[.float .f64 b, .int .i64 0] W fun e w' => e = .returned (.bool true) ∧ W = w') := fun W => by
        have h := HInf.out W
        have e : (FloatKind.f64.format.order (b % 9223372036854775808) 9218868437227405311 == some .gt) = true := by rcases hb2 with rfl | rfl <;> decide
        rw [e] at h
        exact h
      clear HInf
      rcases hb2 with rfl | rfl
      · go_enter Tryz.func4, Tryz.ntmps4
        go_wp2_with fail
        refine (HO5.out _).mono ?_
        rintro e w1 ⟨rfl, hb1⟩
        have HB1 := Lib.hid (HB0.out.trans (hb1.mono (by simp)))
        have hs1 := HB1.out.size
        clear hb1 HB0
        go_wp2_with fail
        refine (HS5.out _ (HE.out.below HB1.out) (HPw.out.below HB1.out)).mono ?_
        rintro e w2 ⟨rfl, hb2⟩
        have HB2 := Lib.hid (HB1.out.trans (hb2.mono hs1))
        have hs2 := HB2.out.size
        clear hb2 HB1 hs1
        go_wp2_with fail
        refine (HI1.out _).mono ?_
        rintro e _ ⟨rfl, rfl⟩
        go_wp2_with fail
        go_ret
        exact ⟨rfl, HB2.out⟩
      · go_enter Tryz.func4, Tryz.ntmps4
        go_wp2_with fail
        refine (HO5.out _).mono ?_
        rintro e w1 ⟨rfl, hb1⟩
        have HB1 := Lib.hid (HB0.out.trans (hb1.mono (by simp)))
        have hs1 := HB1.out.size
        clear hb1 HB0
        go_wp2_with fail
        refine (HS5.out _ (HE.out.below HB1.out) (HPw.out.below HB1.out)).mono ?_
        rintro e w2 ⟨rfl, hb2⟩
        have HB2 := Lib.hid (HB1.out.trans (hb2.mono hs1))
        have hs2 := HB2.out.size
        clear hb2 HB1 hs1
        go_wp2_with fail
        refine (HI1.out _).mono ?_
        rintro e _ ⟨rfl, rfl⟩
        go_wp2_with fail
        go_ret
        exact ⟨rfl, HB2.out⟩
end Go.Proofs.YtcmpdamfeoaapaaGreatDoor
