/- thresherlaw06.CellInput, walked. -/
import Derived.Test.YtcmpdamfeoaapaaGreatDoorQ20
import Derived.Test.YtcmpdamfeoaapaaGreatDoorQ21
import Derived.Test.YtcmpdamfeoaapaaGreatDoorP10
import Derived.Test.YtcmpdamfeoaapaaGreatDoorG5
namespace Go.Proofs.YtcmpdamfeoaapaaGreatDoor
open Go.RowKit
set_option linter.unusedVariables false

set_option maxRecDepth 100000 in
set_option maxHeartbeats 16000000 in
theorem input_any (s : ByteArray) (w : World) (hE : ErrOk w) (hs : s.size ≤ 140737488351232) :
    Calls Tryz.prog 7 #[.string s] w fun e w' => e = .returned (.bool true) ∧ Below w.heap.size w w' := by
  have HF := Lib.hid (fixed6_any w hE)
  clear hE
  by_cases hbig : 3000 < s.size
  · have hI : (3000 : Int) < (s.size : Int) := by omega
    go_enter Tryz.func7, Tryz.ntmps7
    go_wp2_with fail
    refine HF.out.mono ?_
    rintro e w1 ⟨rfl, hb1⟩
    have HB1 := Lib.hid hb1
    clear hb1
    go_wp2_with fail
    go_ret
    exact ⟨rfl, HB1.out⟩
  have hI : (s.size : Int) ≤ 3000 := by omega
  have HIn := Lib.hid (fun W => Input_any s W (by omega))
  have HTx := Lib.hid (fun W => CText_any s W)
  have HLk := Lib.hid (fun W => Looks4_any s W (by omega))
  have HNs := Lib.hid (fun W => Num_str 0 s W (by omega))
  unfold inA at HIn
  unfold cellA at HIn HTx HNs
  cases hl : looksL s.data.toList
  · rw [hl] at HIn HLk
    simp only [Bool.false_eq_true, if_false, if_true] at HIn
    have HVt := Lib.hid (fun W => Valid_str s W)
    have HSc : Hid (∀ W, Calls Tryz.prog 18 #[.agg #[.int .i64 2, .float .f64 0, .string s], .string ⟨#[120]⟩] W fun e w' => e = .returned (.string s) ∧ Below W.heap.size W w') := fun W => Str_str 2 0 s ⟨#[120]⟩ W (by decide)
    have HSt : Hid (∀ W, Calls Tryz.prog 18 #[.agg #[.int .i64 2, .float .f64 0, .string s], .string ⟨#[120]⟩] W fun e w' => e = .returned (.string s) ∧ Below W.heap.size W w') := fun W => Str_str 2 0 s ⟨#[120]⟩ W (by decide)
    have HNs2 := HNs
    generalize prefB s.data.toList = X at *
    clear hl hbig
    go_enter Tryz.func7, Tryz.ntmps7
    go_wp2_with fail
    refine HF.out.mono ?_
    rintro e w1 ⟨rfl, hb1⟩
    have HB1 := Lib.hid hb1
    have hs1 := hb1.size
    clear hb1 HF
    go_wp2_with fail
    refine (HIn.out w1).mono ?_
    rintro e w2 ⟨rfl, hb2⟩
    have HB2 := Lib.hid (HB1.out.trans (hb2.mono hs1))
    have hs2 := HB2.out.size
    clear hb2 HB1 HIn
    go_wp2_with fail
    refine (HTx.out _).mono ?_
    rintro e w3 ⟨rfl, hb3⟩
    obtain ⟨b1, hb1e⟩ : ∃ b1, b1 = w2.heap.size := ⟨_, rfl⟩
    have k0 : w3.cell? ⟨w2.heap.size, 0, none⟩ = some (.int .i64 2) := (hb3.cell (p := ⟨w2.heap.size, 0, none⟩) (by simp)).trans (by simp [go_sem])
    have k1 : w3.cell? ⟨w2.heap.size, 1, none⟩ = some (.float .f64 0) := (hb3.cell (p := ⟨w2.heap.size, 1, none⟩) (by simp)).trans (by simp [go_sem])
    have k2 : w3.cell? ⟨w2.heap.size, 2, none⟩ = some (.string s) := (hb3.cell (p := ⟨w2.heap.size, 2, none⟩) (by simp)).trans (by simp [go_sem])
    have B2a : Below w.heap.size w (w2.alloc (.cells #[.int .i64 2, .float .f64 0, .string s] 35)) := HB2.out.alloc hs2 _
    have HB3 := Lib.hid (B2a.trans (hb3.mono B2a.size))
    have hs3 := HB3.out.size
    have hb13 : w2.heap.size < w3.heap.size := by have := hb3.size; simp at this; omega
    rw [← hb1e] at k0 k1 k2 hb13
    clear hb3 HB2 B2a HTx
    simp only [← hb1e]
    clear hb1e hs2 hs1
    have B3a : Below w3.heap.size w3 (w3.alloc (.cells #[.int .i64 2, .float .f64 0, .string s] 35)) := (Below.refl _ _).alloc (Nat.le_refl _) _
    have j0 := (B3a.cell (p := ⟨b1, 0, none⟩) hb13).trans k0
    have j1 := (B3a.cell (p := ⟨b1, 1, none⟩) hb13).trans k1
    have j2 := (B3a.cell (p := ⟨b1, 2, none⟩) hb13).trans k2
    have j3 : (w3.alloc (.cells #[.int .i64 2, .float .f64 0, .string s] 35)).cell? ⟨w3.heap.size, 0, none⟩ = some (.int .i64 2) := by simp [go_sem]
    have j4 : (w3.alloc (.cells #[.int .i64 2, .float .f64 0, .string s] 35)).cell? ⟨w3.heap.size, 1, none⟩ = some (.float .f64 0) := by simp [go_sem]
    have j5 : (w3.alloc (.cells #[.int .i64 2, .float .f64 0, .string s] 35)).cell? ⟨w3.heap.size, 2, none⟩ = some (.string s) := by simp [go_sem]
    have HB4 := Lib.hid (HB3.out.alloc hs3 (.cells #[.int .i64 2, .float .f64 0, .string s] 35))
    have HJ := Lib.hid (And.intro j0 (And.intro j1 (And.intro j2 (And.intro j3 (And.intro j4 j5)))))
    clear j0 j1 j2 j3 j4 j5 B3a
    go_wp2_with fail
    refine (HVt.out _).mono ?_
    rintro e w5 ⟨rfl, hb5⟩
    obtain ⟨b2, hb2e⟩ : ∃ b2, b2 = w3.heap.size := ⟨_, rfl⟩
    rw [← hb2e] at HJ
    have k0 := cell_next hb5 HJ.out.1
    have k1 := cell_next hb5 HJ.out.2.1
    have k2 := cell_next hb5 HJ.out.2.2.1
    have k3 := cell_next hb5 HJ.out.2.2.2.1
    have k4 := cell_next hb5 HJ.out.2.2.2.2.1
    have k5 := cell_next hb5 HJ.out.2.2.2.2.2
    have HB5 := Lib.hid (HB4.out.trans (hb5.mono HB4.out.size))
    have hs5 := HB5.out.size
    clear hb5 HB4 HJ hb13
    simp only [← hb2e]
    clear hb2e
    go_wp2_with fail
    refine (HVt.out _).mono ?_
    rintro e w6 ⟨rfl, hb6⟩
    replace k0 := cell_next hb6 k0
    replace k1 := cell_next hb6 k1
    replace k2 := cell_next hb6 k2
    replace k3 := cell_next hb6 k3
    replace k4 := cell_next hb6 k4
    replace k5 := cell_next hb6 k5
    have HB6 := Lib.hid (HB5.out.trans (hb6.mono hs5))
    have hs6 := HB6.out.size
    clear hb6 HB5 hs5
    go_wp2_with fail
    refine (HSc.out _).mono ?_
    rintro e w7 ⟨rfl, hb7⟩
    replace k0 := cell_next hb7 k0
    replace k1 := cell_next hb7 k1
    replace k2 := cell_next hb7 k2
    replace k3 := cell_next hb7 k3
    replace k4 := cell_next hb7 k4
    replace k5 := cell_next hb7 k5
    have HB7 := Lib.hid (HB6.out.trans (hb7.mono hs6))
    have hs7 := HB7.out.size
    clear hb7 HB6 hs6
    go_wp2_with fail
    refine (HSt.out _).mono ?_
    rintro e w8 ⟨rfl, hb8⟩
    replace k0 := cell_next hb8 k0
    replace k1 := cell_next hb8 k1
    replace k2 := cell_next hb8 k2
    replace k3 := cell_next hb8 k3
    replace k4 := cell_next hb8 k4
    replace k5 := cell_next hb8 k5
    have HB8 := Lib.hid (HB7.out.trans (hb8.mono hs7))
    have hs8 := HB8.out.size
    clear hb8 HB7 hs7
    go_wp2_with fail
    refine wp_region_guarded (by kernel_rfl) (by kernel_rfl) (fun a0 V0 L a W => ∃ u : Nat → Value, a = { tmps := ((((((((((((((((((((((((((((((((((a0.tmps.setIfInBounds 44 (u 0)).setIfInBounds 45 (u 1)).setIfInBounds 46 (u 2)).setIfInBounds 47 (u 3)).setIfInBounds 48 (u 4)).setIfInBounds 49 (u 5)).setIfInBounds 50 (u 6)).setIfInBounds 51 (u 7)).setIfInBounds 52 (u 8)).setIfInBounds 53 (u 9)).setIfInBounds 54 (u 10)).setIfInBounds 55 (u 11)).setIfInBounds 56 (u 12)).setIfInBounds 57 (u 13)).setIfInBounds 58 (u 14)).setIfInBounds 59 (u 15)).setIfInBounds 60 (u 16)).setIfInBounds 61 (u 17)).setIfInBounds 62 (u 18)).setIfInBounds 63 (u 19)).setIfInBounds 64 (u 20)).setIfInBounds 65 (u 21)).setIfInBounds 66 (u 22)).setIfInBounds 67 (u 23)).setIfInBounds 68 (u 24)).setIfInBounds 69 (u 25)).setIfInBounds 70 (u 26)).setIfInBounds 71 (u 27)).setIfInBounds 72 (u 28)).setIfInBounds 73 (u 29)).setIfInBounds 74 (u 30)).setIfInBounds 75 (u 31)).setIfInBounds 76 (u 32)).setIfInBounds 2 (u 33)), defers := a0.defers } ∧ Hid (Below V0.heap.size V0 W) ∧ Hid (∀ i, L i = true → u i = valAt [.agg #[.int .i64 2, .float .f64 0, .string s], .float .f64 X, .agg #[.int .i64 2, .float .f64 0, .string s], .float .f64 X, .bool true, .bool true, .pointer (some ⟨b1, 0, none⟩), .int .i64 2, .bool false, .string s, .bool false, .bool true, .bool true, .bool true, .agg #[.int .i64 2, .float .f64 0, .string s], .bool (!s.toList.isEmpty), .string s, .bool (!s.toList.isEmpty), .bool true, .bool true, .bool true, .pointer (some ⟨b1, 0, none⟩), .int .i64 2, .bool true, .bool true, undef, undef, undef, undef, undef, undef, .bool true, .bool true, .bool true] i)) ?h0 ?hstep ?hdone
    case h0 =>
      refine ⟨valAt [undef, undef, undef, undef, undef, undef, undef, undef, undef, undef, undef, undef, undef, undef, undef, undef, undef, undef, undef, undef, undef, undef, undef, undef, undef, undef, undef, undef, undef, undef, undef, undef, undef, .bool false], ?_, (Below.refl _ _).drew, fun _ h => (by cases h)⟩
      kernel_rfl
    case hstep =>
      refine ⟨?o0, ?o1, ?o2, ?o3, ?o4, ?o5, ?o6, ?o7, ?o8, ?o9, ?o10, ?o11, ?o12, ?o13, ?o14, ?o15, ?o16, ?o17, ?o18, ?o19, ?o20, ?o21, ?o22, ?o23, ?o24, ?o25, ?o26, ?o27, ?o28, ?o29, ?o30, ?o31, ?o32, ?o33, trivial⟩
      case o0 =>
        rintro L a' W ⟨u, rfl, HI, E⟩ hL hd K hK
        have kk0 := cellNext HI.out k0
        have kk1 := cellNext HI.out k1
        have kk2 := cellNext HI.out k2
        simp only [List.setIfInBounds_toArray, List.set_cons_zero, List.set_cons_succ]
        refine ite_take rfl ?_
        clear hL hd
        go_simp
        refine hK _ _ ⟨withVal u 0 (.agg #[.int .i64 2, .float .f64 0, .string s]), ?_, HI, withVal_next E 0 _ rfl⟩
        kernel_rfl
      case o1 =>
        rintro L a' W ⟨u, rfl, HI, E⟩ hL hd K hK
        have e0 : u 0 = .agg #[.int .i64 2, .float .f64 0, .string s] := E.out 0 (hd 0 (List.elem_iff.1 (by kernel_rfl)))
        simp only [List.setIfInBounds_toArray, List.set_cons_zero, List.set_cons_succ, e0]
        refine ite_take rfl ?_
        clear hL hd
        go_simp
        refine (HNs2.out W).mono ?_
        rintro e W' ⟨rfl, hb⟩
        refine hK _ _ ⟨withVal (withVal u 0 (.agg #[.int .i64 2, .float .f64 0, .string s])) 1 (.float .f64 X), ?_, HI.out.trans (hb.mono HI.out.size), withVal_next (withVal_same E 0 _ rfl) 1 _ rfl⟩
        kernel_rfl
      case o2 =>
        rintro L a' W ⟨u, rfl, HI, E⟩ hL hd K hK
        have kk3 := cellNext HI.out k3
        have kk4 := cellNext HI.out k4
        have kk5 := cellNext HI.out k5
        simp only [List.setIfInBounds_toArray, List.set_cons_zero, List.set_cons_succ]
        refine ite_take rfl ?_
        clear hL hd
        go_simp
        refine hK _ _ ⟨withVal u 2 (.agg #[.int .i64 2, .float .f64 0, .string s]), ?_, HI, withVal_next E 2 _ rfl⟩
        kernel_rfl
      case o3 =>
        rintro L a' W ⟨u, rfl, HI, E⟩ hL hd K hK
        have e2 : u 2 = .agg #[.int .i64 2, .float .f64 0, .string s] := E.out 2 (hd 2 (List.elem_iff.1 (by kernel_rfl)))
        simp only [List.setIfInBounds_toArray, List.set_cons_zero, List.set_cons_succ, e2]
        refine ite_take rfl ?_
        clear hL hd
        go_simp
        refine (HNs.out W).mono ?_
        rintro e W' ⟨rfl, hb⟩
        refine hK _ _ ⟨withVal (withVal u 2 (.agg #[.int .i64 2, .float .f64 0, .string s])) 3 (.float .f64 X), ?_, HI.out.trans (hb.mono HI.out.size), withVal_next (withVal_same E 2 _ rfl) 3 _ rfl⟩
        kernel_rfl
      case o4 =>
        rintro L a' W ⟨u, rfl, HI, E⟩ hL hd K hK
        have e1 : u 1 = .float .f64 X := E.out 1 (hd 1 (List.elem_iff.1 (by kernel_rfl)))
        have e3 : u 3 = .float .f64 X := E.out 3 (hd 3 (List.elem_iff.1 (by kernel_rfl)))
        simp only [List.setIfInBounds_toArray, List.set_cons_zero, List.set_cons_succ, e1, e3]
        refine ite_take rfl ?_
        clear hL hd
        go_simp
        refine (Same4_self X W).mono ?_
        rintro e _ ⟨rfl, rfl⟩
        refine hK _ _ ⟨withVal (withVal (withVal u 1 (.float .f64 X)) 3 (.float .f64 X)) 4 (.bool true), ?_, HI, withVal_next (withVal_same (withVal_same E 1 _ rfl) 3 _ rfl) 4 _ rfl⟩
        kernel_rfl
      case o5 =>
        rintro L a' W ⟨u, rfl, HI, E⟩ hL hd K hK
        have e4 : u 4 = .bool true := E.out 4 (hd 4 (List.elem_iff.1 (by kernel_rfl)))
        simp only [List.setIfInBounds_toArray, List.set_cons_zero, List.set_cons_succ, e4]
        refine ite_take rfl ?_
        clear hL hd
        go_simp
        refine hK _ _ ⟨withVal (withVal u 4 (.bool true)) 5 (.bool true), ?_, HI, withVal_next (withVal_same E 4 _ rfl) 5 _ rfl⟩
        kernel_rfl
      case o6 =>
        rintro L a' W ⟨u, rfl, HI, E⟩ hL hd K hK
        have e5 : u 5 = .bool true := E.out 5 (hd 5 (List.elem_iff.1 (by kernel_rfl)))
        simp only [List.setIfInBounds_toArray, List.set_cons_zero, List.set_cons_succ, e5]
        refine ite_take rfl ?_
        clear hL hd
        go_simp
        refine hK _ _ ⟨withVal (withVal u 5 (.bool true)) 6 (.pointer (some ⟨b1, 0, none⟩)), ?_, HI, withVal_next (withVal_same E 5 _ rfl) 6 _ rfl⟩
        kernel_rfl
      case o7 =>
        rintro L a' W ⟨u, rfl, HI, E⟩ hL hd K hK
        have e5 : u 5 = .bool true := E.out 5 (hd 5 (List.elem_iff.1 (by kernel_rfl)))
        have e6 : u 6 = .pointer (some ⟨b1, 0, none⟩) := E.out 6 (hd 6 (List.elem_iff.1 (by kernel_rfl)))
        have kk0 := cellNext HI.out k0
        simp only [List.setIfInBounds_toArray, List.set_cons_zero, List.set_cons_succ, e5, e6]
        refine ite_take rfl ?_
        clear hL hd
        go_simp
        refine hK _ _ ⟨withVal (withVal (withVal u 5 (.bool true)) 6 (.pointer (some ⟨b1, 0, none⟩))) 7 (.int .i64 2), ?_, HI, withVal_next (withVal_same (withVal_same E 5 _ rfl) 6 _ rfl) 7 _ rfl⟩
        kernel_rfl
      case o8 =>
        rintro L a' W ⟨u, rfl, HI, E⟩ hL hd K hK
        have e5 : u 5 = .bool true := E.out 5 (hd 5 (List.elem_iff.1 (by kernel_rfl)))
        have e7 : u 7 = .int .i64 2 := E.out 7 (hd 7 (List.elem_iff.1 (by kernel_rfl)))
        simp only [List.setIfInBounds_toArray, List.set_cons_zero, List.set_cons_succ, e5, e7]
        refine ite_take rfl ?_
        clear hL hd
        go_simp
        refine hK _ _ ⟨withVal (withVal (withVal u 5 (.bool true)) 7 (.int .i64 2)) 8 (.bool false), ?_, HI, withVal_next (withVal_same (withVal_same E 5 _ rfl) 7 _ rfl) 8 _ rfl⟩
        kernel_rfl
      case o9 =>
        rintro L a' W ⟨u, rfl, HI, E⟩ hL hd K hK
        have e5 : u 5 = .bool true := E.out 5 (hd 5 (List.elem_iff.1 (by kernel_rfl)))
        simp only [List.setIfInBounds_toArray, List.set_cons_zero, List.set_cons_succ, e5]
        refine ite_take rfl ?_
        clear hL hd
        go_simp
        refine hK _ _ ⟨withVal (withVal u 5 (.bool true)) 9 (.string s), ?_, HI, withVal_next (withVal_same E 5 _ rfl) 9 _ rfl⟩
        kernel_rfl
      case o10 =>
        rintro L a' W ⟨u, rfl, HI, E⟩ hL hd K hK
        have e5 : u 5 = .bool true := E.out 5 (hd 5 (List.elem_iff.1 (by kernel_rfl)))
        have e9 : u 9 = .string s := E.out 9 (hd 9 (List.elem_iff.1 (by kernel_rfl)))
        simp only [List.setIfInBounds_toArray, List.set_cons_zero, List.set_cons_succ, e5, e9]
        refine ite_take rfl ?_
        clear hL hd
        go_simp
        refine (HLk.out W).mono ?_
        rintro e W' ⟨rfl, hb⟩
        refine hK _ _ ⟨withVal (withVal (withVal u 5 (.bool true)) 9 (.string s)) 10 (.bool false), ?_, HI.out.trans (hb.mono HI.out.size), withVal_next (withVal_same (withVal_same E 5 _ rfl) 9 _ rfl) 10 _ rfl⟩
        kernel_rfl
      case o11 =>
        rintro L a' W ⟨u, rfl, HI, E⟩ hL hd K hK
        have e5 : u 5 = .bool true := E.out 5 (hd 5 (List.elem_iff.1 (by kernel_rfl)))
        have e8 : u 8 = .bool false := E.out 8 (hd 8 (List.elem_iff.1 (by kernel_rfl)))
        have e10 : u 10 = .bool false := E.out 10 (hd 10 (List.elem_iff.1 (by kernel_rfl)))
        simp only [List.setIfInBounds_toArray, List.set_cons_zero, List.set_cons_succ, e5, e8, e10]
        refine ite_take rfl ?_
        clear hL hd
        go_simp
        refine hK _ _ ⟨withVal (withVal (withVal (withVal u 5 (.bool true)) 8 (.bool false)) 10 (.bool false)) 11 (.bool true), ?_, HI, withVal_next (withVal_same (withVal_same (withVal_same E 5 _ rfl) 8 _ rfl) 10 _ rfl) 11 _ rfl⟩
        kernel_rfl
      case o12 =>
        rintro L a' W ⟨u, rfl, HI, E⟩ hL hd K hK
        have e5 : u 5 = .bool true := E.out 5 (hd 5 (List.elem_iff.1 (by kernel_rfl)))
        have e11 : u 11 = .bool true := E.out 11 (hd 11 (List.elem_iff.1 (by kernel_rfl)))
        simp only [List.setIfInBounds_toArray, List.set_cons_zero, List.set_cons_succ, e5, e11]
        refine ite_take rfl ?_
        clear hL hd
        go_simp
        refine hK _ _ ⟨withVal (withVal (withVal u 5 (.bool true)) 11 (.bool true)) 12 (.bool true), ?_, HI, withVal_next (withVal_same (withVal_same E 5 _ rfl) 11 _ rfl) 12 _ rfl⟩
        kernel_rfl
      case o13 =>
        rintro L a' W ⟨u, rfl, HI, E⟩ hL hd K hK
        have e12 : u 12 = .bool true := E.out 12 (hd 12 (List.elem_iff.1 (by kernel_rfl)))
        simp only [List.setIfInBounds_toArray, List.set_cons_zero, List.set_cons_succ, e12]
        refine ite_take rfl ?_
        clear hL hd
        go_simp
        refine hK _ _ ⟨withVal (withVal u 12 (.bool true)) 13 (.bool true), ?_, HI, withVal_next (withVal_same E 12 _ rfl) 13 _ rfl⟩
        kernel_rfl
      case o14 =>
        rintro L a' W ⟨u, rfl, HI, E⟩ hL hd K hK
        have e13 : u 13 = .bool true := E.out 13 (hd 13 (List.elem_iff.1 (by kernel_rfl)))
        have kk3 := cellNext HI.out k3
        have kk4 := cellNext HI.out k4
        have kk5 := cellNext HI.out k5
        simp only [List.setIfInBounds_toArray, List.set_cons_zero, List.set_cons_succ, e13]
        refine ite_take rfl ?_
        clear hL hd
        go_simp
        refine hK _ _ ⟨withVal (withVal u 13 (.bool true)) 14 (.agg #[.int .i64 2, .float .f64 0, .string s]), ?_, HI, withVal_next (withVal_same E 13 _ rfl) 14 _ rfl⟩
        kernel_rfl
      case o15 =>
        rintro L a' W ⟨u, rfl, HI, E⟩ hL hd K hK
        have e13 : u 13 = .bool true := E.out 13 (hd 13 (List.elem_iff.1 (by kernel_rfl)))
        have e14 : u 14 = .agg #[.int .i64 2, .float .f64 0, .string s] := E.out 14 (hd 14 (List.elem_iff.1 (by kernel_rfl)))
        simp only [List.setIfInBounds_toArray, List.set_cons_zero, List.set_cons_succ, e13, e14]
        refine ite_take rfl ?_
        clear hL hd
        go_simp
        refine (True_str s W).mono ?_
        rintro e W' ⟨rfl, hb⟩
        refine hK _ _ ⟨withVal (withVal (withVal u 13 (.bool true)) 14 (.agg #[.int .i64 2, .float .f64 0, .string s])) 15 (.bool (!s.toList.isEmpty)), ?_, HI.out.trans (hb.mono HI.out.size), withVal_next (withVal_same (withVal_same E 13 _ rfl) 14 _ rfl) 15 _ rfl⟩
        kernel_rfl
      case o16 =>
        rintro L a' W ⟨u, rfl, HI, E⟩ hL hd K hK
        have e13 : u 13 = .bool true := E.out 13 (hd 13 (List.elem_iff.1 (by kernel_rfl)))
        simp only [List.setIfInBounds_toArray, List.set_cons_zero, List.set_cons_succ, e13]
        refine ite_take rfl ?_
        clear hL hd
        go_simp
        refine hK _ _ ⟨withVal (withVal u 13 (.bool true)) 16 (.string s), ?_, HI, withVal_next (withVal_same E 13 _ rfl) 16 _ rfl⟩
        kernel_rfl
      case o17 =>
        rintro L a' W ⟨u, rfl, HI, E⟩ hL hd K hK
        have e13 : u 13 = .bool true := E.out 13 (hd 13 (List.elem_iff.1 (by kernel_rfl)))
        have e16 : u 16 = .string s := E.out 16 (hd 16 (List.elem_iff.1 (by kernel_rfl)))
        simp only [List.setIfInBounds_toArray, List.set_cons_zero, List.set_cons_succ, e13, e16]
        refine ite_take rfl ?_
        clear hL hd
        go_simp
        refine hK _ _ ⟨withVal (withVal (withVal u 13 (.bool true)) 16 (.string s)) 17 (.bool (!s.toList.isEmpty)), ?_, HI, withVal_next (withVal_same (withVal_same E 13 _ rfl) 16 _ rfl) 17 _ rfl⟩
        kernel_rfl
      case o18 =>
        rintro L a' W ⟨u, rfl, HI, E⟩ hL hd K hK
        have e13 : u 13 = .bool true := E.out 13 (hd 13 (List.elem_iff.1 (by kernel_rfl)))
        have e15 : u 15 = .bool (!s.toList.isEmpty) := E.out 15 (hd 15 (List.elem_iff.1 (by kernel_rfl)))
        have e17 : u 17 = .bool (!s.toList.isEmpty) := E.out 17 (hd 17 (List.elem_iff.1 (by kernel_rfl)))
        simp only [List.setIfInBounds_toArray, List.set_cons_zero, List.set_cons_succ, e13, e15, e17]
        refine ite_take rfl ?_
        clear hL hd
        go_simp
        refine hK _ _ ⟨withVal (withVal (withVal (withVal u 13 (.bool true)) 15 (.bool (!s.toList.isEmpty))) 17 (.bool (!s.toList.isEmpty))) 18 (.bool true), ?_, HI, withVal_next (withVal_same (withVal_same (withVal_same E 13 _ rfl) 15 _ rfl) 17 _ rfl) 18 _ rfl⟩
        kernel_rfl
      case o19 =>
        rintro L a' W ⟨u, rfl, HI, E⟩ hL hd K hK
        have e13 : u 13 = .bool true := E.out 13 (hd 13 (List.elem_iff.1 (by kernel_rfl)))
        have e18 : u 18 = .bool true := E.out 18 (hd 18 (List.elem_iff.1 (by kernel_rfl)))
        simp only [List.setIfInBounds_toArray, List.set_cons_zero, List.set_cons_succ, e13, e18]
        refine ite_take rfl ?_
        clear hL hd
        go_simp
        refine hK _ _ ⟨withVal (withVal (withVal u 13 (.bool true)) 18 (.bool true)) 19 (.bool true), ?_, HI, withVal_next (withVal_same (withVal_same E 13 _ rfl) 18 _ rfl) 19 _ rfl⟩
        kernel_rfl
      case o20 =>
        rintro L a' W ⟨u, rfl, HI, E⟩ hL hd K hK
        have e19 : u 19 = .bool true := E.out 19 (hd 19 (List.elem_iff.1 (by kernel_rfl)))
        simp only [List.setIfInBounds_toArray, List.set_cons_zero, List.set_cons_succ, e19]
        refine ite_take rfl ?_
        clear hL hd
        go_simp
        refine hK _ _ ⟨withVal (withVal u 19 (.bool true)) 20 (.bool true), ?_, HI, withVal_next (withVal_same E 19 _ rfl) 20 _ rfl⟩
        kernel_rfl
      case o21 =>
        rintro L a' W ⟨u, rfl, HI, E⟩ hL hd K hK
        have e20 : u 20 = .bool true := E.out 20 (hd 20 (List.elem_iff.1 (by kernel_rfl)))
        simp only [List.setIfInBounds_toArray, List.set_cons_zero, List.set_cons_succ, e20]
        refine ite_take rfl ?_
        clear hL hd
        go_simp
        refine hK _ _ ⟨withVal (withVal u 20 (.bool true)) 21 (.pointer (some ⟨b1, 0, none⟩)), ?_, HI, withVal_next (withVal_same E 20 _ rfl) 21 _ rfl⟩
        kernel_rfl
      case o22 =>
        rintro L a' W ⟨u, rfl, HI, E⟩ hL hd K hK
        have e20 : u 20 = .bool true := E.out 20 (hd 20 (List.elem_iff.1 (by kernel_rfl)))
        have e21 : u 21 = .pointer (some ⟨b1, 0, none⟩) := E.out 21 (hd 21 (List.elem_iff.1 (by kernel_rfl)))
        have kk0 := cellNext HI.out k0
        simp only [List.setIfInBounds_toArray, List.set_cons_zero, List.set_cons_succ, e20, e21]
        refine ite_take rfl ?_
        clear hL hd
        go_simp
        refine hK _ _ ⟨withVal (withVal (withVal u 20 (.bool true)) 21 (.pointer (some ⟨b1, 0, none⟩))) 22 (.int .i64 2), ?_, HI, withVal_next (withVal_same (withVal_same E 20 _ rfl) 21 _ rfl) 22 _ rfl⟩
        kernel_rfl
      case o23 =>
        rintro L a' W ⟨u, rfl, HI, E⟩ hL hd K hK
        have e20 : u 20 = .bool true := E.out 20 (hd 20 (List.elem_iff.1 (by kernel_rfl)))
        have e22 : u 22 = .int .i64 2 := E.out 22 (hd 22 (List.elem_iff.1 (by kernel_rfl)))
        simp only [List.setIfInBounds_toArray, List.set_cons_zero, List.set_cons_succ, e20, e22]
        refine ite_take rfl ?_
        clear hL hd
        go_simp
        refine hK _ _ ⟨withVal (withVal (withVal u 20 (.bool true)) 22 (.int .i64 2)) 23 (.bool true), ?_, HI, withVal_next (withVal_same (withVal_same E 20 _ rfl) 22 _ rfl) 23 _ rfl⟩
        kernel_rfl
      case o24 =>
        rintro L a' W ⟨u, rfl, HI, E⟩ hL hd K hK
        have e20 : u 20 = .bool true := E.out 20 (hd 20 (List.elem_iff.1 (by kernel_rfl)))
        have e23 : u 23 = .bool true := E.out 23 (hd 23 (List.elem_iff.1 (by kernel_rfl)))
        simp only [List.setIfInBounds_toArray, List.set_cons_zero, List.set_cons_succ, e20, e23]
        refine ite_take rfl ?_
        clear hL hd
        go_simp
        refine hK _ _ ⟨withVal (withVal (withVal u 20 (.bool true)) 23 (.bool true)) 24 (.bool true), ?_, HI, withVal_next (withVal_same (withVal_same E 20 _ rfl) 23 _ rfl) 24 _ rfl⟩
        kernel_rfl
      case o25 =>
        rintro L a' W ⟨u, rfl, HI, E⟩ hL hd K hK
        have e24 : u 24 = .bool true := E.out 24 (hd 24 (List.elem_iff.1 (by kernel_rfl)))
        simp only [List.setIfInBounds_toArray, List.set_cons_zero, List.set_cons_succ, e24]
        refine ite_skip (fun h => Bool.false_ne_true h) ?_
        clear hL hd
        go_simp
        refine hK _ _ ⟨withVal (withVal u 24 (.bool true)) 25 (undef), ?_, HI, withVal_next (withVal_same E 24 _ rfl) 25 _ rfl⟩
        kernel_rfl
      case o26 =>
        rintro L a' W ⟨u, rfl, HI, E⟩ hL hd K hK
        have e24 : u 24 = .bool true := E.out 24 (hd 24 (List.elem_iff.1 (by kernel_rfl)))
        simp only [List.setIfInBounds_toArray, List.set_cons_zero, List.set_cons_succ, e24]
        refine ite_skip (fun h => Bool.false_ne_true h) ?_
        clear hL hd
        go_simp
        refine hK _ _ ⟨withVal (withVal u 24 (.bool true)) 26 (undef), ?_, HI, withVal_next (withVal_same E 24 _ rfl) 26 _ rfl⟩
        kernel_rfl
      case o27 =>
        rintro L a' W ⟨u, rfl, HI, E⟩ hL hd K hK
        have e24 : u 24 = .bool true := E.out 24 (hd 24 (List.elem_iff.1 (by kernel_rfl)))
        simp only [List.setIfInBounds_toArray, List.set_cons_zero, List.set_cons_succ, e24]
        refine ite_skip (fun h => Bool.false_ne_true h) ?_
        clear hL hd
        go_simp
        refine hK _ _ ⟨withVal (withVal u 24 (.bool true)) 27 (undef), ?_, HI, withVal_next (withVal_same E 24 _ rfl) 27 _ rfl⟩
        kernel_rfl
      case o28 =>
        rintro L a' W ⟨u, rfl, HI, E⟩ hL hd K hK
        have e24 : u 24 = .bool true := E.out 24 (hd 24 (List.elem_iff.1 (by kernel_rfl)))
        simp only [List.setIfInBounds_toArray, List.set_cons_zero, List.set_cons_succ, e24]
        refine ite_skip (fun h => Bool.false_ne_true h) ?_
        clear hL hd
        go_simp
        refine hK _ _ ⟨withVal (withVal u 24 (.bool true)) 28 (undef), ?_, HI, withVal_next (withVal_same E 24 _ rfl) 28 _ rfl⟩
        kernel_rfl
      case o29 =>
        rintro L a' W ⟨u, rfl, HI, E⟩ hL hd K hK
        have e24 : u 24 = .bool true := E.out 24 (hd 24 (List.elem_iff.1 (by kernel_rfl)))
        simp only [List.setIfInBounds_toArray, List.set_cons_zero, List.set_cons_succ, e24]
        refine ite_skip (fun h => Bool.false_ne_true h) ?_
        clear hL hd
        go_simp
        refine hK _ _ ⟨withVal (withVal u 24 (.bool true)) 29 (undef), ?_, HI, withVal_next (withVal_same E 24 _ rfl) 29 _ rfl⟩
        kernel_rfl
      case o30 =>
        rintro L a' W ⟨u, rfl, HI, E⟩ hL hd K hK
        have e24 : u 24 = .bool true := E.out 24 (hd 24 (List.elem_iff.1 (by kernel_rfl)))
        simp only [List.setIfInBounds_toArray, List.set_cons_zero, List.set_cons_succ, e24]
        refine ite_skip (fun h => Bool.false_ne_true h) ?_
        clear hL hd
        go_simp
        refine hK _ _ ⟨withVal (withVal u 24 (.bool true)) 30 (undef), ?_, HI, withVal_next (withVal_same E 24 _ rfl) 30 _ rfl⟩
        kernel_rfl
      case o31 =>
        rintro L a' W ⟨u, rfl, HI, E⟩ hL hd K hK
        have e20 : u 20 = .bool true := E.out 20 (hd 20 (List.elem_iff.1 (by kernel_rfl)))
        have e24 : u 24 = .bool true := E.out 24 (hd 24 (List.elem_iff.1 (by kernel_rfl)))
        have e30 : u 30 = undef := E.out 30 (hd 30 (List.elem_iff.1 (by kernel_rfl)))
        simp only [List.setIfInBounds_toArray, List.set_cons_zero, List.set_cons_succ, e20, e24, e30]
        refine ite_take rfl ?_
        clear hL hd
        go_simp
        refine hK _ _ ⟨withVal (withVal (withVal (withVal u 20 (.bool true)) 24 (.bool true)) 30 (undef)) 31 (.bool true), ?_, HI, withVal_next (withVal_same (withVal_same (withVal_same E 20 _ rfl) 24 _ rfl) 30 _ rfl) 31 _ rfl⟩
        kernel_rfl
      case o32 =>
        rintro L a' W ⟨u, rfl, HI, E⟩ hL hd K hK
        have e20 : u 20 = .bool true := E.out 20 (hd 20 (List.elem_iff.1 (by kernel_rfl)))
        have e31 : u 31 = .bool true := E.out 31 (hd 31 (List.elem_iff.1 (by kernel_rfl)))
        simp only [List.setIfInBounds_toArray, List.set_cons_zero, List.set_cons_succ, e20, e31]
        refine ite_take rfl ?_
        clear hL hd
        go_simp
        refine hK _ _ ⟨withVal (withVal (withVal u 20 (.bool true)) 31 (.bool true)) 32 (.bool true), ?_, HI, withVal_next (withVal_same (withVal_same E 20 _ rfl) 31 _ rfl) 32 _ rfl⟩
        kernel_rfl
      case o33 =>
        rintro L a' W ⟨u, rfl, HI, E⟩ hL hd K hK
        have e32 : u 32 = .bool true := E.out 32 (hd 32 (List.elem_iff.1 (by kernel_rfl)))
        simp only [List.setIfInBounds_toArray, List.set_cons_zero, List.set_cons_succ, e32]
        refine ite_take rfl ?_
        clear hL hd
        go_simp
        refine hK _ _ ⟨withVal (withVal u 32 (.bool true)) 33 (.bool true), ?_, HI, withVal_next (withVal_same E 32 _ rfl) 33 _ rfl⟩
        kernel_rfl
    case hdone =>
      rintro L a' W1 hall ⟨u, rfl, HI, E⟩
      have e0 : u 0 = .agg #[.int .i64 2, .float .f64 0, .string s] := E.out 0 (hall 0 (by decide))
      have e1 : u 1 = .float .f64 X := E.out 1 (hall 1 (by decide))
      have e2 : u 2 = .agg #[.int .i64 2, .float .f64 0, .string s] := E.out 2 (hall 2 (by decide))
      have e3 : u 3 = .float .f64 X := E.out 3 (hall 3 (by decide))
      have e4 : u 4 = .bool true := E.out 4 (hall 4 (by decide))
      have e5 : u 5 = .bool true := E.out 5 (hall 5 (by decide))
      have e6 : u 6 = .pointer (some ⟨b1, 0, none⟩) := E.out 6 (hall 6 (by decide))
      have e7 : u 7 = .int .i64 2 := E.out 7 (hall 7 (by decide))
      have e8 : u 8 = .bool false := E.out 8 (hall 8 (by decide))
      have e9 : u 9 = .string s := E.out 9 (hall 9 (by decide))
      have e10 : u 10 = .bool false := E.out 10 (hall 10 (by decide))
      have e11 : u 11 = .bool true := E.out 11 (hall 11 (by decide))
      have e12 : u 12 = .bool true := E.out 12 (hall 12 (by decide))
      have e13 : u 13 = .bool true := E.out 13 (hall 13 (by decide))
      have e14 : u 14 = .agg #[.int .i64 2, .float .f64 0, .string s] := E.out 14 (hall 14 (by decide))
      have e15 : u 15 = .bool (!s.toList.isEmpty) := E.out 15 (hall 15 (by decide))
      have e16 : u 16 = .string s := E.out 16 (hall 16 (by decide))
      have e17 : u 17 = .bool (!s.toList.isEmpty) := E.out 17 (hall 17 (by decide))
      have e18 : u 18 = .bool true := E.out 18 (hall 18 (by decide))
      have e19 : u 19 = .bool true := E.out 19 (hall 19 (by decide))
      have e20 : u 20 = .bool true := E.out 20 (hall 20 (by decide))
      have e21 : u 21 = .pointer (some ⟨b1, 0, none⟩) := E.out 21 (hall 21 (by decide))
      have e22 : u 22 = .int .i64 2 := E.out 22 (hall 22 (by decide))
      have e23 : u 23 = .bool true := E.out 23 (hall 23 (by decide))
      have e24 : u 24 = .bool true := E.out 24 (hall 24 (by decide))
      have e25 : u 25 = undef := E.out 25 (hall 25 (by decide))
      have e26 : u 26 = undef := E.out 26 (hall 26 (by decide))
      have e27 : u 27 = undef := E.out 27 (hall 27 (by decide))
      have e28 : u 28 = undef := E.out 28 (hall 28 (by decide))
      have e29 : u 29 = undef := E.out 29 (hall 29 (by decide))
      have e30 : u 30 = undef := E.out 30 (hall 30 (by decide))
      have e31 : u 31 = .bool true := E.out 31 (hall 31 (by decide))
      have e32 : u 32 = .bool true := E.out 32 (hall 32 (by decide))
      have e33 : u 33 = .bool true := E.out 33 (hall 33 (by decide))
      simp only [List.setIfInBounds_toArray, List.set_cons_zero, List.set_cons_succ, e0, e1, e2, e3, e4, e5, e6, e7, e8, e9, e10, e11, e12, e13, e14, e15, e16, e17, e18, e19, e20, e21, e22, e23, e24, e25, e26, e27, e28, e29, e30, e31, e32, e33]
      rename_i Q' K hKK
      refine hKK _ _ ?_
      clear hKK hall E
      go_wp2_with fail
      go_ret
      exact ⟨rfl, HB8.out.trans (HI.out.mono hs8)⟩
  · rw [hl] at HIn HLk
    simp only [Bool.false_eq_true, if_false, if_true] at HIn
    have HVc := Lib.hid (fun W => Valid_in s W (by omega) hl)
    have HNc : Hid (∀ W, Calls Tryz.prog 39 #[.agg #[.int .i64 3, .float .f64 (prefB s.data.toList), .string s]] W fun e w' => e = .returned (.float .f64 (prefB s.data.toList)) ∧ Below W.heap.size W w') := fun W => Num_num 3 (prefB s.data.toList) s W (.inr rfl)
    have HVt := Lib.hid (fun W => Valid_str s W)
    have HSc : Hid (∀ W, Calls Tryz.prog 18 #[.agg #[.int .i64 3, .float .f64 (prefB s.data.toList), .string s], .string ⟨#[120]⟩] W fun e w' => e = .returned (.string s) ∧ Below W.heap.size W w') := fun W => Str_str 3 (prefB s.data.toList) s ⟨#[120]⟩ W (by decide)
    have HSt : Hid (∀ W, Calls Tryz.prog 18 #[.agg #[.int .i64 2, .float .f64 0, .string s], .string ⟨#[120]⟩] W fun e w' => e = .returned (.string s) ∧ Below W.heap.size W w') := fun W => Str_str 2 0 s ⟨#[120]⟩ W (by decide)
    generalize prefB s.data.toList = X at *
    clear hl hbig
    go_enter Tryz.func7, Tryz.ntmps7
    go_wp2_with fail
    refine HF.out.mono ?_
    rintro e w1 ⟨rfl, hb1⟩
    have HB1 := Lib.hid hb1
    have hs1 := hb1.size
    clear hb1 HF
    go_wp2_with fail
    refine (HIn.out w1).mono ?_
    rintro e w2 ⟨rfl, hb2⟩
    have HB2 := Lib.hid (HB1.out.trans (hb2.mono hs1))
    have hs2 := HB2.out.size
    clear hb2 HB1 HIn
    go_wp2_with fail
    refine (HTx.out _).mono ?_
    rintro e w3 ⟨rfl, hb3⟩
    obtain ⟨b1, hb1e⟩ : ∃ b1, b1 = w2.heap.size := ⟨_, rfl⟩
    have k0 : w3.cell? ⟨w2.heap.size, 0, none⟩ = some (.int .i64 3) := (hb3.cell (p := ⟨w2.heap.size, 0, none⟩) (by simp)).trans (by simp [go_sem])
    have k1 : w3.cell? ⟨w2.heap.size, 1, none⟩ = some (.float .f64 X) := (hb3.cell (p := ⟨w2.heap.size, 1, none⟩) (by simp)).trans (by simp [go_sem])
    have k2 : w3.cell? ⟨w2.heap.size, 2, none⟩ = some (.string s) := (hb3.cell (p := ⟨w2.heap.size, 2, none⟩) (by simp)).trans (by simp [go_sem])
    have B2a : Below w.heap.size w (w2.alloc (.cells #[.int .i64 3, .float .f64 X, .string s] 35)) := HB2.out.alloc hs2 _
    have HB3 := Lib.hid (B2a.trans (hb3.mono B2a.size))
    have hs3 := HB3.out.size
    have hb13 : w2.heap.size < w3.heap.size := by have := hb3.size; simp at this; omega
    rw [← hb1e] at k0 k1 k2 hb13
    clear hb3 HB2 B2a HTx
    simp only [← hb1e]
    clear hb1e hs2 hs1
    have B3a : Below w3.heap.size w3 (w3.alloc (.cells #[.int .i64 2, .float .f64 0, .string s] 35)) := (Below.refl _ _).alloc (Nat.le_refl _) _
    have j0 := (B3a.cell (p := ⟨b1, 0, none⟩) hb13).trans k0
    have j1 := (B3a.cell (p := ⟨b1, 1, none⟩) hb13).trans k1
    have j2 := (B3a.cell (p := ⟨b1, 2, none⟩) hb13).trans k2
    have j3 : (w3.alloc (.cells #[.int .i64 2, .float .f64 0, .string s] 35)).cell? ⟨w3.heap.size, 0, none⟩ = some (.int .i64 2) := by simp [go_sem]
    have j4 : (w3.alloc (.cells #[.int .i64 2, .float .f64 0, .string s] 35)).cell? ⟨w3.heap.size, 1, none⟩ = some (.float .f64 0) := by simp [go_sem]
    have j5 : (w3.alloc (.cells #[.int .i64 2, .float .f64 0, .string s] 35)).cell? ⟨w3.heap.size, 2, none⟩ = some (.string s) := by simp [go_sem]
    have HB4 := Lib.hid (HB3.out.alloc hs3 (.cells #[.int .i64 2, .float .f64 0, .string s] 35))
    have HJ := Lib.hid (And.intro j0 (And.intro j1 (And.intro j2 (And.intro j3 (And.intro j4 j5)))))
    clear j0 j1 j2 j3 j4 j5 B3a
    go_wp2_with fail
    refine (HVc.out _).mono ?_
    rintro e w5 ⟨rfl, hb5⟩
    obtain ⟨b2, hb2e⟩ : ∃ b2, b2 = w3.heap.size := ⟨_, rfl⟩
    rw [← hb2e] at HJ
    have k0 := cell_next hb5 HJ.out.1
    have k1 := cell_next hb5 HJ.out.2.1
    have k2 := cell_next hb5 HJ.out.2.2.1
    have k3 := cell_next hb5 HJ.out.2.2.2.1
    have k4 := cell_next hb5 HJ.out.2.2.2.2.1
    have k5 := cell_next hb5 HJ.out.2.2.2.2.2
    have HB5 := Lib.hid (HB4.out.trans (hb5.mono HB4.out.size))
    have hs5 := HB5.out.size
    clear hb5 HB4 HJ hb13
    simp only [← hb2e]
    clear hb2e
    go_wp2_with fail
    refine (HVt.out _).mono ?_
    rintro e w6 ⟨rfl, hb6⟩
    replace k0 := cell_next hb6 k0
    replace k1 := cell_next hb6 k1
    replace k2 := cell_next hb6 k2
    replace k3 := cell_next hb6 k3
    replace k4 := cell_next hb6 k4
    replace k5 := cell_next hb6 k5
    have HB6 := Lib.hid (HB5.out.trans (hb6.mono hs5))
    have hs6 := HB6.out.size
    clear hb6 HB5 hs5
    go_wp2_with fail
    refine (HSc.out _).mono ?_
    rintro e w7 ⟨rfl, hb7⟩
    replace k0 := cell_next hb7 k0
    replace k1 := cell_next hb7 k1
    replace k2 := cell_next hb7 k2
    replace k3 := cell_next hb7 k3
    replace k4 := cell_next hb7 k4
    replace k5 := cell_next hb7 k5
    have HB7 := Lib.hid (HB6.out.trans (hb7.mono hs6))
    have hs7 := HB7.out.size
    clear hb7 HB6 hs6
    go_wp2_with fail
    refine (HSt.out _).mono ?_
    rintro e w8 ⟨rfl, hb8⟩
    replace k0 := cell_next hb8 k0
    replace k1 := cell_next hb8 k1
    replace k2 := cell_next hb8 k2
    replace k3 := cell_next hb8 k3
    replace k4 := cell_next hb8 k4
    replace k5 := cell_next hb8 k5
    have HB8 := Lib.hid (HB7.out.trans (hb8.mono hs7))
    have hs8 := HB8.out.size
    clear hb8 HB7 hs7
    go_wp2_with fail
    refine wp_region_guarded (by kernel_rfl) (by kernel_rfl) (fun a0 V0 L a W => ∃ u : Nat → Value, a = { tmps := ((((((((((((((((((((((((((((((((((a0.tmps.setIfInBounds 44 (u 0)).setIfInBounds 45 (u 1)).setIfInBounds 46 (u 2)).setIfInBounds 47 (u 3)).setIfInBounds 48 (u 4)).setIfInBounds 49 (u 5)).setIfInBounds 50 (u 6)).setIfInBounds 51 (u 7)).setIfInBounds 52 (u 8)).setIfInBounds 53 (u 9)).setIfInBounds 54 (u 10)).setIfInBounds 55 (u 11)).setIfInBounds 56 (u 12)).setIfInBounds 57 (u 13)).setIfInBounds 58 (u 14)).setIfInBounds 59 (u 15)).setIfInBounds 60 (u 16)).setIfInBounds 61 (u 17)).setIfInBounds 62 (u 18)).setIfInBounds 63 (u 19)).setIfInBounds 64 (u 20)).setIfInBounds 65 (u 21)).setIfInBounds 66 (u 22)).setIfInBounds 67 (u 23)).setIfInBounds 68 (u 24)).setIfInBounds 69 (u 25)).setIfInBounds 70 (u 26)).setIfInBounds 71 (u 27)).setIfInBounds 72 (u 28)).setIfInBounds 73 (u 29)).setIfInBounds 74 (u 30)).setIfInBounds 75 (u 31)).setIfInBounds 76 (u 32)).setIfInBounds 2 (u 33)), defers := a0.defers } ∧ Hid (Below V0.heap.size V0 W) ∧ Hid (∀ i, L i = true → u i = valAt [.agg #[.int .i64 3, .float .f64 X, .string s], .float .f64 X, .agg #[.int .i64 2, .float .f64 0, .string s], .float .f64 X, .bool true, .bool true, .pointer (some ⟨b1, 0, none⟩), .int .i64 3, .bool true, .string s, .bool true, .bool true, .bool true, .bool true, .agg #[.int .i64 2, .float .f64 0, .string s], .bool (!s.toList.isEmpty), .string s, .bool (!s.toList.isEmpty), .bool true, .bool true, .bool true, .pointer (some ⟨b1, 0, none⟩), .int .i64 3, .bool false, .bool false, .agg #[.int .i64 3, .float .f64 X, .string s], .bool (nzF X), .pointer (some ⟨b1, 1, none⟩), .float .f64 X, .bool (nzF X), .bool true, .bool true, .bool true, .bool true] i)) ?h0 ?hstep ?hdone
    case h0 =>
      refine ⟨valAt [undef, undef, undef, undef, undef, undef, undef, undef, undef, undef, undef, undef, undef, undef, undef, undef, undef, undef, undef, undef, undef, undef, undef, undef, undef, undef, undef, undef, undef, undef, undef, undef, undef, .bool false], ?_, (Below.refl _ _).drew, fun _ h => (by cases h)⟩
      kernel_rfl
    case hstep =>
      refine ⟨?o0, ?o1, ?o2, ?o3, ?o4, ?o5, ?o6, ?o7, ?o8, ?o9, ?o10, ?o11, ?o12, ?o13, ?o14, ?o15, ?o16, ?o17, ?o18, ?o19, ?o20, ?o21, ?o22, ?o23, ?o24, ?o25, ?o26, ?o27, ?o28, ?o29, ?o30, ?o31, ?o32, ?o33, trivial⟩
      case o0 =>
        rintro L a' W ⟨u, rfl, HI, E⟩ hL hd K hK
        have kk0 := cellNext HI.out k0
        have kk1 := cellNext HI.out k1
        have kk2 := cellNext HI.out k2
        simp only [List.setIfInBounds_toArray, List.set_cons_zero, List.set_cons_succ]
        refine ite_take rfl ?_
        clear hL hd
        go_simp
        refine hK _ _ ⟨withVal u 0 (.agg #[.int .i64 3, .float .f64 X, .string s]), ?_, HI, withVal_next E 0 _ rfl⟩
        kernel_rfl
      case o1 =>
        rintro L a' W ⟨u, rfl, HI, E⟩ hL hd K hK
        have e0 : u 0 = .agg #[.int .i64 3, .float .f64 X, .string s] := E.out 0 (hd 0 (List.elem_iff.1 (by kernel_rfl)))
        simp only [List.setIfInBounds_toArray, List.set_cons_zero, List.set_cons_succ, e0]
        refine ite_take rfl ?_
        clear hL hd
        go_simp
        refine (HNc.out W).mono ?_
        rintro e W' ⟨rfl, hb⟩
        refine hK _ _ ⟨withVal (withVal u 0 (.agg #[.int .i64 3, .float .f64 X, .string s])) 1 (.float .f64 X), ?_, HI.out.trans (hb.mono HI.out.size), withVal_next (withVal_same E 0 _ rfl) 1 _ rfl⟩
        kernel_rfl
      case o2 =>
        rintro L a' W ⟨u, rfl, HI, E⟩ hL hd K hK
        have kk3 := cellNext HI.out k3
        have kk4 := cellNext HI.out k4
        have kk5 := cellNext HI.out k5
        simp only [List.setIfInBounds_toArray, List.set_cons_zero, List.set_cons_succ]
        refine ite_take rfl ?_
        clear hL hd
        go_simp
        refine hK _ _ ⟨withVal u 2 (.agg #[.int .i64 2, .float .f64 0, .string s]), ?_, HI, withVal_next E 2 _ rfl⟩
        kernel_rfl
      case o3 =>
        rintro L a' W ⟨u, rfl, HI, E⟩ hL hd K hK
        have e2 : u 2 = .agg #[.int .i64 2, .float .f64 0, .string s] := E.out 2 (hd 2 (List.elem_iff.1 (by kernel_rfl)))
        simp only [List.setIfInBounds_toArray, List.set_cons_zero, List.set_cons_succ, e2]
        refine ite_take rfl ?_
        clear hL hd
        go_simp
        refine (HNs.out W).mono ?_
        rintro e W' ⟨rfl, hb⟩
        refine hK _ _ ⟨withVal (withVal u 2 (.agg #[.int .i64 2, .float .f64 0, .string s])) 3 (.float .f64 X), ?_, HI.out.trans (hb.mono HI.out.size), withVal_next (withVal_same E 2 _ rfl) 3 _ rfl⟩
        kernel_rfl
      case o4 =>
        rintro L a' W ⟨u, rfl, HI, E⟩ hL hd K hK
        have e1 : u 1 = .float .f64 X := E.out 1 (hd 1 (List.elem_iff.1 (by kernel_rfl)))
        have e3 : u 3 = .float .f64 X := E.out 3 (hd 3 (List.elem_iff.1 (by kernel_rfl)))
        simp only [List.setIfInBounds_toArray, List.set_cons_zero, List.set_cons_succ, e1, e3]
        refine ite_take rfl ?_
        clear hL hd
        go_simp
        refine (Same4_self X W).mono ?_
        rintro e _ ⟨rfl, rfl⟩
        refine hK _ _ ⟨withVal (withVal (withVal u 1 (.float .f64 X)) 3 (.float .f64 X)) 4 (.bool true), ?_, HI, withVal_next (withVal_same (withVal_same E 1 _ rfl) 3 _ rfl) 4 _ rfl⟩
        kernel_rfl
      case o5 =>
        rintro L a' W ⟨u, rfl, HI, E⟩ hL hd K hK
        have e4 : u 4 = .bool true := E.out 4 (hd 4 (List.elem_iff.1 (by kernel_rfl)))
        simp only [List.setIfInBounds_toArray, List.set_cons_zero, List.set_cons_succ, e4]
        refine ite_take rfl ?_
        clear hL hd
        go_simp
        refine hK _ _ ⟨withVal (withVal u 4 (.bool true)) 5 (.bool true), ?_, HI, withVal_next (withVal_same E 4 _ rfl) 5 _ rfl⟩
        kernel_rfl
      case o6 =>
        rintro L a' W ⟨u, rfl, HI, E⟩ hL hd K hK
        have e5 : u 5 = .bool true := E.out 5 (hd 5 (List.elem_iff.1 (by kernel_rfl)))
        simp only [List.setIfInBounds_toArray, List.set_cons_zero, List.set_cons_succ, e5]
        refine ite_take rfl ?_
        clear hL hd
        go_simp
        refine hK _ _ ⟨withVal (withVal u 5 (.bool true)) 6 (.pointer (some ⟨b1, 0, none⟩)), ?_, HI, withVal_next (withVal_same E 5 _ rfl) 6 _ rfl⟩
        kernel_rfl
      case o7 =>
        rintro L a' W ⟨u, rfl, HI, E⟩ hL hd K hK
        have e5 : u 5 = .bool true := E.out 5 (hd 5 (List.elem_iff.1 (by kernel_rfl)))
        have e6 : u 6 = .pointer (some ⟨b1, 0, none⟩) := E.out 6 (hd 6 (List.elem_iff.1 (by kernel_rfl)))
        have kk0 := cellNext HI.out k0
        simp only [List.setIfInBounds_toArray, List.set_cons_zero, List.set_cons_succ, e5, e6]
        refine ite_take rfl ?_
        clear hL hd
        go_simp
        refine hK _ _ ⟨withVal (withVal (withVal u 5 (.bool true)) 6 (.pointer (some ⟨b1, 0, none⟩))) 7 (.int .i64 3), ?_, HI, withVal_next (withVal_same (withVal_same E 5 _ rfl) 6 _ rfl) 7 _ rfl⟩
        kernel_rfl
      case o8 =>
        rintro L a' W ⟨u, rfl, HI, E⟩ hL hd K hK
        have e5 : u 5 = .bool true := E.out 5 (hd 5 (List.elem_iff.1 (by kernel_rfl)))
        have e7 : u 7 = .int .i64 3 := E.out 7 (hd 7 (List.elem_iff.1 (by kernel_rfl)))
        simp only [List.setIfInBounds_toArray, List.set_cons_zero, List.set_cons_succ, e5, e7]
        refine ite_take rfl ?_
        clear hL hd
        go_simp
        refine hK _ _ ⟨withVal (withVal (withVal u 5 (.bool true)) 7 (.int .i64 3)) 8 (.bool true), ?_, HI, withVal_next (withVal_same (withVal_same E 5 _ rfl) 7 _ rfl) 8 _ rfl⟩
        kernel_rfl
      case o9 =>
        rintro L a' W ⟨u, rfl, HI, E⟩ hL hd K hK
        have e5 : u 5 = .bool true := E.out 5 (hd 5 (List.elem_iff.1 (by kernel_rfl)))
        simp only [List.setIfInBounds_toArray, List.set_cons_zero, List.set_cons_succ, e5]
        refine ite_take rfl ?_
        clear hL hd
        go_simp
        refine hK _ _ ⟨withVal (withVal u 5 (.bool true)) 9 (.string s), ?_, HI, withVal_next (withVal_same E 5 _ rfl) 9 _ rfl⟩
        kernel_rfl
      case o10 =>
        rintro L a' W ⟨u, rfl, HI, E⟩ hL hd K hK
        have e5 : u 5 = .bool true := E.out 5 (hd 5 (List.elem_iff.1 (by kernel_rfl)))
        have e9 : u 9 = .string s := E.out 9 (hd 9 (List.elem_iff.1 (by kernel_rfl)))
        simp only [List.setIfInBounds_toArray, List.set_cons_zero, List.set_cons_succ, e5, e9]
        refine ite_take rfl ?_
        clear hL hd
        go_simp
        refine (HLk.out W).mono ?_
        rintro e W' ⟨rfl, hb⟩
        refine hK _ _ ⟨withVal (withVal (withVal u 5 (.bool true)) 9 (.string s)) 10 (.bool true), ?_, HI.out.trans (hb.mono HI.out.size), withVal_next (withVal_same (withVal_same E 5 _ rfl) 9 _ rfl) 10 _ rfl⟩
        kernel_rfl
      case o11 =>
        rintro L a' W ⟨u, rfl, HI, E⟩ hL hd K hK
        have e5 : u 5 = .bool true := E.out 5 (hd 5 (List.elem_iff.1 (by kernel_rfl)))
        have e8 : u 8 = .bool true := E.out 8 (hd 8 (List.elem_iff.1 (by kernel_rfl)))
        have e10 : u 10 = .bool true := E.out 10 (hd 10 (List.elem_iff.1 (by kernel_rfl)))
        simp only [List.setIfInBounds_toArray, List.set_cons_zero, List.set_cons_succ, e5, e8, e10]
        refine ite_take rfl ?_
        clear hL hd
        go_simp
        refine hK _ _ ⟨withVal (withVal (withVal (withVal u 5 (.bool true)) 8 (.bool true)) 10 (.bool true)) 11 (.bool true), ?_, HI, withVal_next (withVal_same (withVal_same (withVal_same E 5 _ rfl) 8 _ rfl) 10 _ rfl) 11 _ rfl⟩
        kernel_rfl
      case o12 =>
        rintro L a' W ⟨u, rfl, HI, E⟩ hL hd K hK
        have e5 : u 5 = .bool true := E.out 5 (hd 5 (List.elem_iff.1 (by kernel_rfl)))
        have e11 : u 11 = .bool true := E.out 11 (hd 11 (List.elem_iff.1 (by kernel_rfl)))
        simp only [List.setIfInBounds_toArray, List.set_cons_zero, List.set_cons_succ, e5, e11]
        refine ite_take rfl ?_
        clear hL hd
        go_simp
        refine hK _ _ ⟨withVal (withVal (withVal u 5 (.bool true)) 11 (.bool true)) 12 (.bool true), ?_, HI, withVal_next (withVal_same (withVal_same E 5 _ rfl) 11 _ rfl) 12 _ rfl⟩
        kernel_rfl
      case o13 =>
        rintro L a' W ⟨u, rfl, HI, E⟩ hL hd K hK
        have e12 : u 12 = .bool true := E.out 12 (hd 12 (List.elem_iff.1 (by kernel_rfl)))
        simp only [List.setIfInBounds_toArray, List.set_cons_zero, List.set_cons_succ, e12]
        refine ite_take rfl ?_
        clear hL hd
        go_simp
        refine hK _ _ ⟨withVal (withVal u 12 (.bool true)) 13 (.bool true), ?_, HI, withVal_next (withVal_same E 12 _ rfl) 13 _ rfl⟩
        kernel_rfl
      case o14 =>
        rintro L a' W ⟨u, rfl, HI, E⟩ hL hd K hK
        have e13 : u 13 = .bool true := E.out 13 (hd 13 (List.elem_iff.1 (by kernel_rfl)))
        have kk3 := cellNext HI.out k3
        have kk4 := cellNext HI.out k4
        have kk5 := cellNext HI.out k5
        simp only [List.setIfInBounds_toArray, List.set_cons_zero, List.set_cons_succ, e13]
        refine ite_take rfl ?_
        clear hL hd
        go_simp
        refine hK _ _ ⟨withVal (withVal u 13 (.bool true)) 14 (.agg #[.int .i64 2, .float .f64 0, .string s]), ?_, HI, withVal_next (withVal_same E 13 _ rfl) 14 _ rfl⟩
        kernel_rfl
      case o15 =>
        rintro L a' W ⟨u, rfl, HI, E⟩ hL hd K hK
        have e13 : u 13 = .bool true := E.out 13 (hd 13 (List.elem_iff.1 (by kernel_rfl)))
        have e14 : u 14 = .agg #[.int .i64 2, .float .f64 0, .string s] := E.out 14 (hd 14 (List.elem_iff.1 (by kernel_rfl)))
        simp only [List.setIfInBounds_toArray, List.set_cons_zero, List.set_cons_succ, e13, e14]
        refine ite_take rfl ?_
        clear hL hd
        go_simp
        refine (True_str s W).mono ?_
        rintro e W' ⟨rfl, hb⟩
        refine hK _ _ ⟨withVal (withVal (withVal u 13 (.bool true)) 14 (.agg #[.int .i64 2, .float .f64 0, .string s])) 15 (.bool (!s.toList.isEmpty)), ?_, HI.out.trans (hb.mono HI.out.size), withVal_next (withVal_same (withVal_same E 13 _ rfl) 14 _ rfl) 15 _ rfl⟩
        kernel_rfl
      case o16 =>
        rintro L a' W ⟨u, rfl, HI, E⟩ hL hd K hK
        have e13 : u 13 = .bool true := E.out 13 (hd 13 (List.elem_iff.1 (by kernel_rfl)))
        simp only [List.setIfInBounds_toArray, List.set_cons_zero, List.set_cons_succ, e13]
        refine ite_take rfl ?_
        clear hL hd
        go_simp
        refine hK _ _ ⟨withVal (withVal u 13 (.bool true)) 16 (.string s), ?_, HI, withVal_next (withVal_same E 13 _ rfl) 16 _ rfl⟩
        kernel_rfl
      case o17 =>
        rintro L a' W ⟨u, rfl, HI, E⟩ hL hd K hK
        have e13 : u 13 = .bool true := E.out 13 (hd 13 (List.elem_iff.1 (by kernel_rfl)))
        have e16 : u 16 = .string s := E.out 16 (hd 16 (List.elem_iff.1 (by kernel_rfl)))
        simp only [List.setIfInBounds_toArray, List.set_cons_zero, List.set_cons_succ, e13, e16]
        refine ite_take rfl ?_
        clear hL hd
        go_simp
        refine hK _ _ ⟨withVal (withVal (withVal u 13 (.bool true)) 16 (.string s)) 17 (.bool (!s.toList.isEmpty)), ?_, HI, withVal_next (withVal_same (withVal_same E 13 _ rfl) 16 _ rfl) 17 _ rfl⟩
        kernel_rfl
      case o18 =>
        rintro L a' W ⟨u, rfl, HI, E⟩ hL hd K hK
        have e13 : u 13 = .bool true := E.out 13 (hd 13 (List.elem_iff.1 (by kernel_rfl)))
        have e15 : u 15 = .bool (!s.toList.isEmpty) := E.out 15 (hd 15 (List.elem_iff.1 (by kernel_rfl)))
        have e17 : u 17 = .bool (!s.toList.isEmpty) := E.out 17 (hd 17 (List.elem_iff.1 (by kernel_rfl)))
        simp only [List.setIfInBounds_toArray, List.set_cons_zero, List.set_cons_succ, e13, e15, e17]
        refine ite_take rfl ?_
        clear hL hd
        go_simp
        refine hK _ _ ⟨withVal (withVal (withVal (withVal u 13 (.bool true)) 15 (.bool (!s.toList.isEmpty))) 17 (.bool (!s.toList.isEmpty))) 18 (.bool true), ?_, HI, withVal_next (withVal_same (withVal_same (withVal_same E 13 _ rfl) 15 _ rfl) 17 _ rfl) 18 _ rfl⟩
        kernel_rfl
      case o19 =>
        rintro L a' W ⟨u, rfl, HI, E⟩ hL hd K hK
        have e13 : u 13 = .bool true := E.out 13 (hd 13 (List.elem_iff.1 (by kernel_rfl)))
        have e18 : u 18 = .bool true := E.out 18 (hd 18 (List.elem_iff.1 (by kernel_rfl)))
        simp only [List.setIfInBounds_toArray, List.set_cons_zero, List.set_cons_succ, e13, e18]
        refine ite_take rfl ?_
        clear hL hd
        go_simp
        refine hK _ _ ⟨withVal (withVal (withVal u 13 (.bool true)) 18 (.bool true)) 19 (.bool true), ?_, HI, withVal_next (withVal_same (withVal_same E 13 _ rfl) 18 _ rfl) 19 _ rfl⟩
        kernel_rfl
      case o20 =>
        rintro L a' W ⟨u, rfl, HI, E⟩ hL hd K hK
        have e19 : u 19 = .bool true := E.out 19 (hd 19 (List.elem_iff.1 (by kernel_rfl)))
        simp only [List.setIfInBounds_toArray, List.set_cons_zero, List.set_cons_succ, e19]
        refine ite_take rfl ?_
        clear hL hd
        go_simp
        refine hK _ _ ⟨withVal (withVal u 19 (.bool true)) 20 (.bool true), ?_, HI, withVal_next (withVal_same E 19 _ rfl) 20 _ rfl⟩
        kernel_rfl
      case o21 =>
        rintro L a' W ⟨u, rfl, HI, E⟩ hL hd K hK
        have e20 : u 20 = .bool true := E.out 20 (hd 20 (List.elem_iff.1 (by kernel_rfl)))
        simp only [List.setIfInBounds_toArray, List.set_cons_zero, List.set_cons_succ, e20]
        refine ite_take rfl ?_
        clear hL hd
        go_simp
        refine hK _ _ ⟨withVal (withVal u 20 (.bool true)) 21 (.pointer (some ⟨b1, 0, none⟩)), ?_, HI, withVal_next (withVal_same E 20 _ rfl) 21 _ rfl⟩
        kernel_rfl
      case o22 =>
        rintro L a' W ⟨u, rfl, HI, E⟩ hL hd K hK
        have e20 : u 20 = .bool true := E.out 20 (hd 20 (List.elem_iff.1 (by kernel_rfl)))
        have e21 : u 21 = .pointer (some ⟨b1, 0, none⟩) := E.out 21 (hd 21 (List.elem_iff.1 (by kernel_rfl)))
        have kk0 := cellNext HI.out k0
        simp only [List.setIfInBounds_toArray, List.set_cons_zero, List.set_cons_succ, e20, e21]
        refine ite_take rfl ?_
        clear hL hd
        go_simp
        refine hK _ _ ⟨withVal (withVal (withVal u 20 (.bool true)) 21 (.pointer (some ⟨b1, 0, none⟩))) 22 (.int .i64 3), ?_, HI, withVal_next (withVal_same (withVal_same E 20 _ rfl) 21 _ rfl) 22 _ rfl⟩
        kernel_rfl
      case o23 =>
        rintro L a' W ⟨u, rfl, HI, E⟩ hL hd K hK
        have e20 : u 20 = .bool true := E.out 20 (hd 20 (List.elem_iff.1 (by kernel_rfl)))
        have e22 : u 22 = .int .i64 3 := E.out 22 (hd 22 (List.elem_iff.1 (by kernel_rfl)))
        simp only [List.setIfInBounds_toArray, List.set_cons_zero, List.set_cons_succ, e20, e22]
        refine ite_take rfl ?_
        clear hL hd
        go_simp
        refine hK _ _ ⟨withVal (withVal (withVal u 20 (.bool true)) 22 (.int .i64 3)) 23 (.bool false), ?_, HI, withVal_next (withVal_same (withVal_same E 20 _ rfl) 22 _ rfl) 23 _ rfl⟩
        kernel_rfl
      case o24 =>
        rintro L a' W ⟨u, rfl, HI, E⟩ hL hd K hK
        have e20 : u 20 = .bool true := E.out 20 (hd 20 (List.elem_iff.1 (by kernel_rfl)))
        have e23 : u 23 = .bool false := E.out 23 (hd 23 (List.elem_iff.1 (by kernel_rfl)))
        simp only [List.setIfInBounds_toArray, List.set_cons_zero, List.set_cons_succ, e20, e23]
        refine ite_take rfl ?_
        clear hL hd
        go_simp
        refine hK _ _ ⟨withVal (withVal (withVal u 20 (.bool true)) 23 (.bool false)) 24 (.bool false), ?_, HI, withVal_next (withVal_same (withVal_same E 20 _ rfl) 23 _ rfl) 24 _ rfl⟩
        kernel_rfl
      case o25 =>
        rintro L a' W ⟨u, rfl, HI, E⟩ hL hd K hK
        have e24 : u 24 = .bool false := E.out 24 (hd 24 (List.elem_iff.1 (by kernel_rfl)))
        have kk0 := cellNext HI.out k0
        have kk1 := cellNext HI.out k1
        have kk2 := cellNext HI.out k2
        simp only [List.setIfInBounds_toArray, List.set_cons_zero, List.set_cons_succ, e24]
        refine ite_take rfl ?_
        clear hL hd
        go_simp
        refine hK _ _ ⟨withVal (withVal u 24 (.bool false)) 25 (.agg #[.int .i64 3, .float .f64 X, .string s]), ?_, HI, withVal_next (withVal_same E 24 _ rfl) 25 _ rfl⟩
        kernel_rfl
      case o26 =>
        rintro L a' W ⟨u, rfl, HI, E⟩ hL hd K hK
        have e24 : u 24 = .bool false := E.out 24 (hd 24 (List.elem_iff.1 (by kernel_rfl)))
        have e25 : u 25 = .agg #[.int .i64 3, .float .f64 X, .string s] := E.out 25 (hd 25 (List.elem_iff.1 (by kernel_rfl)))
        simp only [List.setIfInBounds_toArray, List.set_cons_zero, List.set_cons_succ, e24, e25]
        refine ite_take rfl ?_
        clear hL hd
        go_simp
        refine (True_num X s W).mono ?_
        rintro e W' ⟨rfl, hb⟩
        refine hK _ _ ⟨withVal (withVal (withVal u 24 (.bool false)) 25 (.agg #[.int .i64 3, .float .f64 X, .string s])) 26 (.bool (nzF X)), ?_, HI.out.trans (hb.mono HI.out.size), withVal_next (withVal_same (withVal_same E 24 _ rfl) 25 _ rfl) 26 _ rfl⟩
        kernel_rfl
      case o27 =>
        rintro L a' W ⟨u, rfl, HI, E⟩ hL hd K hK
        have e24 : u 24 = .bool false := E.out 24 (hd 24 (List.elem_iff.1 (by kernel_rfl)))
        simp only [List.setIfInBounds_toArray, List.set_cons_zero, List.set_cons_succ, e24]
        refine ite_take rfl ?_
        clear hL hd
        go_simp
        refine hK _ _ ⟨withVal (withVal u 24 (.bool false)) 27 (.pointer (some ⟨b1, 1, none⟩)), ?_, HI, withVal_next (withVal_same E 24 _ rfl) 27 _ rfl⟩
        kernel_rfl
      case o28 =>
        rintro L a' W ⟨u, rfl, HI, E⟩ hL hd K hK
        have e24 : u 24 = .bool false := E.out 24 (hd 24 (List.elem_iff.1 (by kernel_rfl)))
        have e27 : u 27 = .pointer (some ⟨b1, 1, none⟩) := E.out 27 (hd 27 (List.elem_iff.1 (by kernel_rfl)))
        have kk1 := cellNext HI.out k1
        simp only [List.setIfInBounds_toArray, List.set_cons_zero, List.set_cons_succ, e24, e27]
        refine ite_take rfl ?_
        clear hL hd
        go_simp
        refine hK _ _ ⟨withVal (withVal (withVal u 24 (.bool false)) 27 (.pointer (some ⟨b1, 1, none⟩))) 28 (.float .f64 X), ?_, HI, withVal_next (withVal_same (withVal_same E 24 _ rfl) 27 _ rfl) 28 _ rfl⟩
        kernel_rfl
      case o29 =>
        rintro L a' W ⟨u, rfl, HI, E⟩ hL hd K hK
        have e24 : u 24 = .bool false := E.out 24 (hd 24 (List.elem_iff.1 (by kernel_rfl)))
        have e28 : u 28 = .float .f64 X := E.out 28 (hd 28 (List.elem_iff.1 (by kernel_rfl)))
        simp only [List.setIfInBounds_toArray, List.set_cons_zero, List.set_cons_succ, e24, e28]
        refine ite_take rfl ?_
        clear hL hd
        go_simp
        refine hK _ _ ⟨withVal (withVal (withVal u 24 (.bool false)) 28 (.float .f64 X)) 29 (.bool (nzF X)), ?_, HI, withVal_next (withVal_same (withVal_same E 24 _ rfl) 28 _ rfl) 29 _ rfl⟩
        kernel_rfl
      case o30 =>
        rintro L a' W ⟨u, rfl, HI, E⟩ hL hd K hK
        have e24 : u 24 = .bool false := E.out 24 (hd 24 (List.elem_iff.1 (by kernel_rfl)))
        have e26 : u 26 = .bool (nzF X) := E.out 26 (hd 26 (List.elem_iff.1 (by kernel_rfl)))
        have e29 : u 29 = .bool (nzF X) := E.out 29 (hd 29 (List.elem_iff.1 (by kernel_rfl)))
        simp only [List.setIfInBounds_toArray, List.set_cons_zero, List.set_cons_succ, e24, e26, e29]
        refine ite_take rfl ?_
        clear hL hd
        go_simp
        refine hK _ _ ⟨withVal (withVal (withVal (withVal u 24 (.bool false)) 26 (.bool (nzF X))) 29 (.bool (nzF X))) 30 (.bool true), ?_, HI, withVal_next (withVal_same (withVal_same (withVal_same E 24 _ rfl) 26 _ rfl) 29 _ rfl) 30 _ rfl⟩
        kernel_rfl
      case o31 =>
        rintro L a' W ⟨u, rfl, HI, E⟩ hL hd K hK
        have e20 : u 20 = .bool true := E.out 20 (hd 20 (List.elem_iff.1 (by kernel_rfl)))
        have e24 : u 24 = .bool false := E.out 24 (hd 24 (List.elem_iff.1 (by kernel_rfl)))
        have e30 : u 30 = .bool true := E.out 30 (hd 30 (List.elem_iff.1 (by kernel_rfl)))
        simp only [List.setIfInBounds_toArray, List.set_cons_zero, List.set_cons_succ, e20, e24, e30]
        refine ite_take rfl ?_
        clear hL hd
        go_simp
        refine hK _ _ ⟨withVal (withVal (withVal (withVal u 20 (.bool true)) 24 (.bool false)) 30 (.bool true)) 31 (.bool true), ?_, HI, withVal_next (withVal_same (withVal_same (withVal_same E 20 _ rfl) 24 _ rfl) 30 _ rfl) 31 _ rfl⟩
        kernel_rfl
      case o32 =>
        rintro L a' W ⟨u, rfl, HI, E⟩ hL hd K hK
        have e20 : u 20 = .bool true := E.out 20 (hd 20 (List.elem_iff.1 (by kernel_rfl)))
        have e31 : u 31 = .bool true := E.out 31 (hd 31 (List.elem_iff.1 (by kernel_rfl)))
        simp only [List.setIfInBounds_toArray, List.set_cons_zero, List.set_cons_succ, e20, e31]
        refine ite_take rfl ?_
        clear hL hd
        go_simp
        refine hK _ _ ⟨withVal (withVal (withVal u 20 (.bool true)) 31 (.bool true)) 32 (.bool true), ?_, HI, withVal_next (withVal_same (withVal_same E 20 _ rfl) 31 _ rfl) 32 _ rfl⟩
        kernel_rfl
      case o33 =>
        rintro L a' W ⟨u, rfl, HI, E⟩ hL hd K hK
        have e32 : u 32 = .bool true := E.out 32 (hd 32 (List.elem_iff.1 (by kernel_rfl)))
        simp only [List.setIfInBounds_toArray, List.set_cons_zero, List.set_cons_succ, e32]
        refine ite_take rfl ?_
        clear hL hd
        go_simp
        refine hK _ _ ⟨withVal (withVal u 32 (.bool true)) 33 (.bool true), ?_, HI, withVal_next (withVal_same E 32 _ rfl) 33 _ rfl⟩
        kernel_rfl
    case hdone =>
      rintro L a' W1 hall ⟨u, rfl, HI, E⟩
      have e0 : u 0 = .agg #[.int .i64 3, .float .f64 X, .string s] := E.out 0 (hall 0 (by decide))
      have e1 : u 1 = .float .f64 X := E.out 1 (hall 1 (by decide))
      have e2 : u 2 = .agg #[.int .i64 2, .float .f64 0, .string s] := E.out 2 (hall 2 (by decide))
      have e3 : u 3 = .float .f64 X := E.out 3 (hall 3 (by decide))
      have e4 : u 4 = .bool true := E.out 4 (hall 4 (by decide))
      have e5 : u 5 = .bool true := E.out 5 (hall 5 (by decide))
      have e6 : u 6 = .pointer (some ⟨b1, 0, none⟩) := E.out 6 (hall 6 (by decide))
      have e7 : u 7 = .int .i64 3 := E.out 7 (hall 7 (by decide))
      have e8 : u 8 = .bool true := E.out 8 (hall 8 (by decide))
      have e9 : u 9 = .string s := E.out 9 (hall 9 (by decide))
      have e10 : u 10 = .bool true := E.out 10 (hall 10 (by decide))
      have e11 : u 11 = .bool true := E.out 11 (hall 11 (by decide))
      have e12 : u 12 = .bool true := E.out 12 (hall 12 (by decide))
      have e13 : u 13 = .bool true := E.out 13 (hall 13 (by decide))
      have e14 : u 14 = .agg #[.int .i64 2, .float .f64 0, .string s] := E.out 14 (hall 14 (by decide))
      have e15 : u 15 = .bool (!s.toList.isEmpty) := E.out 15 (hall 15 (by decide))
      have e16 : u 16 = .string s := E.out 16 (hall 16 (by decide))
      have e17 : u 17 = .bool (!s.toList.isEmpty) := E.out 17 (hall 17 (by decide))
      have e18 : u 18 = .bool true := E.out 18 (hall 18 (by decide))
      have e19 : u 19 = .bool true := E.out 19 (hall 19 (by decide))
      have e20 : u 20 = .bool true := E.out 20 (hall 20 (by decide))
      have e21 : u 21 = .pointer (some ⟨b1, 0, none⟩) := E.out 21 (hall 21 (by decide))
      have e22 : u 22 = .int .i64 3 := E.out 22 (hall 22 (by decide))
      have e23 : u 23 = .bool false := E.out 23 (hall 23 (by decide))
      have e24 : u 24 = .bool false := E.out 24 (hall 24 (by decide))
      have e25 : u 25 = .agg #[.int .i64 3, .float .f64 X, .string s] := E.out 25 (hall 25 (by decide))
      have e26 : u 26 = .bool (nzF X) := E.out 26 (hall 26 (by decide))
      have e27 : u 27 = .pointer (some ⟨b1, 1, none⟩) := E.out 27 (hall 27 (by decide))
      have e28 : u 28 = .float .f64 X := E.out 28 (hall 28 (by decide))
      have e29 : u 29 = .bool (nzF X) := E.out 29 (hall 29 (by decide))
      have e30 : u 30 = .bool true := E.out 30 (hall 30 (by decide))
      have e31 : u 31 = .bool true := E.out 31 (hall 31 (by decide))
      have e32 : u 32 = .bool true := E.out 32 (hall 32 (by decide))
      have e33 : u 33 = .bool true := E.out 33 (hall 33 (by decide))
      simp only [List.setIfInBounds_toArray, List.set_cons_zero, List.set_cons_succ, e0, e1, e2, e3, e4, e5, e6, e7, e8, e9, e10, e11, e12, e13, e14, e15, e16, e17, e18, e19, e20, e21, e22, e23, e24, e25, e26, e27, e28, e29, e30, e31, e32, e33]
      rename_i Q' K hKK
      refine hKK _ _ ?_
      clear hKK hall E
      go_wp2_with fail
      go_ret
      exact ⟨rfl, HB8.out.trans (HI.out.mono hs8)⟩
end Go.Proofs.YtcmpdamfeoaapaaGreatDoor
