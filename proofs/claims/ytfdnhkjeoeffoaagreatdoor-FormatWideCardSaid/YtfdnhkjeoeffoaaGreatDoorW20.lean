/- FormatWide, walked. -/
import Derived.Test.YtfdnhkjeoeffoaaGreatDoorW19
import Derived.Test.YtfdnhkjeoeffoaaGreatDoorW21
import Derived.Test.YtfdnhkjeoeffoaaGreatDoorU5
import Derived.Test.YtfdnhkjeoeffoaaGreatDoorAW2
import Derived.Test.YtfdnhkjeoeffoaaGreatDoorM9
import Derived.BigRegion
import Derived.Test.YtfdnhkjeoeffoaaGreatDoorZ1
namespace Go.Proofs.YtfdnhkjeoeffoaaGreatDoor
open Go.RowKit
set_option linter.unusedVariables false

theorem numO_none {m p bl al z : Bool} {wd pr : Int} {vb b : Nat} (h : ¬ (okS wd pr vb = true ∧ isNum vb = true)) : numO m p bl al z wd pr vb b = ⟨#[]⟩ ∧ numE wd pr vb = 50 := by
  unfold numO numE
  rw [if_neg h, if_neg h]
  exact ⟨rfl, rfl⟩
theorem SpAt.put {W : World} {B : Nat} {A : Array Value} (h : SpAt W B A) (i : Nat) (v : Value) : SpAt (W.setCell ⟨B, i, none⟩ v) B (A.setIfInBounds i v) := setCell_heap_same h i v
set_option maxHeartbeats 16000000 in
set_option maxRecDepth 1000000 in
theorem wide5_any (b : Nat) (m p bl al z : Bool) (wd pr : Int) (vb : Nat) (w : World) (hT : Tabs5 w) (hb : b < 18446744073709551616) (hvb : vb < 256) :
    Calls Tryz.prog 4 #[.agg (specA m p bl al z wd pr vb), .int .u64 (b : Nat)] w fun e w' => e = .returned (.bool true) ∧ Below w.heap.size w w' := by
  have hb0 : Below w.heap.size w (w.alloc (.cells (specA m p bl al z wd pr vb) 35)) := (Below.refl w.heap.size w).alloc (Nat.le_refl _) _
  have HF := Lib.hid (fixed5_any (w.alloc (.cells (specA m p bl al z wd pr vb) 35)) (hT.err.below hb0) (hT.pow.below hb0) (hT.utf.below hb0))
  have HB0 := Lib.hid hb0
  have HPw := Lib.hid hT.pow
  have HN1 := Lib.hid (fun W h => Number_any m p bl al z wd pr vb b W hvb hb h)
  obtain ⟨VB, hVB⟩ : ∃ VB : Int, VB = (vb : Int) := ⟨_, rfl⟩
  have hq0 : SpAt (w.alloc (.cells (specA m p bl al z wd pr vb) 35)) w.heap.size (specA m p bl al z wd pr vb) := heap_alloc_at w _
  have HQ0 := Lib.hid hq0
  unfold specA at HF HB0 HN1 HQ0 ⊢
  rw [← hVB] at HF HB0 HN1 HQ0 ⊢
  by_cases hk : okS wd pr vb = true ∧ isNum vb = true
  · have hnE : numE wd pr vb = 0 := by unfold numE; rw [if_pos hk]
    have hnE0 : numE 0 pr vb = 0 := by unfold numE; rw [if_pos ⟨okS_zero hk.1, hk.2⟩]
    have HN2 := Lib.hid (fun W h => Number_any m p bl al z 0 pr vb b W hvb hb h)
    rw [hnE] at HN1
    rw [hnE0] at HN2
    unfold specA at HN2
    rw [← hVB] at HN2
    obtain ⟨T, S, k, e1, e2, h1, h2, h3, h4⟩ := wide_law (m := m) (p := p) (bl := bl) (al := al) (z := z) (b := b) hk.2 hk.1
    rw [e1] at HN1
    rw [e2] at HN2
    have hTm : T.length ≤ 1000000 ∧ S.length ≤ 1000000 := by
      have s1 := numO_size m p bl al z wd pr vb b w hb hT.pow
      have s2 := numO_size m p bl al z 0 pr vb b w hb hT.pow
      rw [e1] at s1
      rw [e2] at s2
      have s3 : S.length ≤ 20000 := s1
      have s4 : T.length ≤ 20000 := s2
      omega
    obtain ⟨TB, hTB⟩ : ∃ TB : ByteArray, TB = ⟨T.toArray⟩ := ⟨_, rfl⟩
    obtain ⟨SB, hSB⟩ : ∃ SB : ByteArray, SB = ⟨S.toArray⟩ := ⟨_, rfl⟩
    have zT : TB.size = T.length := by rw [hTB]; rfl
    have zS : SB.size = S.length := by rw [hSB]; rfl
    obtain ⟨tn, htn⟩ : ∃ tn, tn = T.length := ⟨_, rfl⟩
    obtain ⟨sn, hsn⟩ : ∃ sn, sn = S.length := ⟨_, rfl⟩
    rw [← htn] at zT h1 h2 hTm
    rw [← hsn] at zS h1 h2 hTm
    rw [← hTB] at HN2
    rw [← hSB] at HN1
    have hmx : ((sn : Int) != max (tn : Int) wd) = false := by simp; omega
    have hts : tn ≤ sn := by omega
    have htsI : (tn : Int) ≤ (sn : Int) := by omega
    have hdf : IntKind.i64.wrap ((sn : Int) - (tn : Int)) = (k : Int) := by rw [IntKind.wrap_i64]; omega
    have ht1 : IntKind.i64.wrap ((tn : Int) + 1) = (tn : Int) + 1 := by rw [IntKind.wrap_i64]; omega
    have hs1 : IntKind.i64.wrap ((sn : Int) + 1) = (sn : Int) + 1 := by rw [IntKind.wrap_i64]; omega
    have HBl : Hid (∀ W, Calls Tryz.prog 26 #[.int .i64 (k : Int)] W fun e w' => e = .returned (.string (blanksB k)) ∧ Below W.heap.size W w') := fun W => blanks_any k W (by omega)
    have HSu : Hid (∀ W, Calls Tryz.prog 25 #[.string SB, .int .i64 ((tn : Int) + 1), .int .i64 ((sn : Int) + 1), .bool true] W fun e w' => e = .returned (.string (SB.extract tn sn)) ∧ Below W.heap.size W w') := fun W => Sub2_any SB tn sn W hts (by omega) (by omega)
    have hZ : Hid (SB.size = sn ∧ TB.size = tn) := ⟨zS, zT⟩
    have x1 : m = true → SB.extract 0 tn = TB ∧ SB.extract tn sn = blanksB k := by
      intro hm
      have h5 := h3 hm
      constructor
      · refine bytes_ext ?_
        rw [hSB, hTB, ext_list, h5]
        show ((T ++ List.replicate k 32).drop 0).take (tn - 0) = T
        rw [List.drop_zero, Nat.sub_zero, htn, List.take_left]
      · refine bytes_ext ?_
        rw [hSB, ext_list, h5]
        show ((T ++ List.replicate k 32).drop tn).take (sn - tn) = List.replicate k 32
        rw [htn, List.drop_left, List.take_of_length_le (by rw [List.length_replicate]; omega)]
    have x2 : m = false → z = false → SB.extract k sn = TB ∧ SB.extract 0 k = blanksB k := by
      intro hm hz
      have h5 := h4 hm hz
      constructor
      · refine bytes_ext ?_
        rw [hSB, hTB, ext_list, h5]
        show ((List.replicate k 32 ++ T).drop k).take (sn - k) = T
        rw [List.drop_left' (by rw [List.length_replicate]), List.take_of_length_le (by omega)]
      · refine bytes_ext ?_
        rw [hSB, ext_list, h5]
        show ((List.replicate k 32 ++ T).drop 0).take (k - 0) = List.replicate k 32
        rw [List.drop_zero, Nat.sub_zero, List.take_left' (by rw [List.length_replicate])]
    have hkI : (k : Int) ≤ (sn : Int) := by omega
    have X1 := Lib.hid x1
    have X2 := Lib.hid x2
    clear hT hb0 hk hnE hnE0 e1 e2 h1 h2 h3 h4 hTm hTB hSB htn hsn x1 x2 hq0 hVB hb hvb
    cases m
    · cases z
      · have X := Lib.hid (X2.out rfl rfl)
        clear X1 X2
        go_enter Tryz.func4, Tryz.ntmps4
        go_wp2_with fail
        refine HF.out.mono ?_
        rintro e w1 ⟨rfl, hb1⟩
        have hsp : SpAt w1 w.heap.size #[.bool false, .bool p, .bool bl, .bool al, .bool false, .int .i64 wd, .int .i64 pr, .int .u8 VB] := SpAt.next HQ0.out hb1
        have HB1 := Lib.hid (HB0.out.trans (hb1.mono (by simp)))
        have HSp := Lib.hid hsp
        have q0 : w1.cell? ⟨w.heap.size, 0, none⟩ = some (.bool false) := hsp.cell 0
        have q1 : w1.cell? ⟨w.heap.size, 1, none⟩ = some (.bool p) := hsp.cell 1
        have q2 : w1.cell? ⟨w.heap.size, 2, none⟩ = some (.bool bl) := hsp.cell 2
        have q3 : w1.cell? ⟨w.heap.size, 3, none⟩ = some (.bool al) := hsp.cell 3
        have q4 : w1.cell? ⟨w.heap.size, 4, none⟩ = some (.bool false) := hsp.cell 4
        have q5 : w1.cell? ⟨w.heap.size, 5, none⟩ = some (.int .i64 wd) := hsp.cell 5
        have q6 : w1.cell? ⟨w.heap.size, 6, none⟩ = some (.int .i64 pr) := hsp.cell 6
        have q7 : w1.cell? ⟨w.heap.size, 7, none⟩ = some (.int .u8 VB) := hsp.cell 7
        clear hb1 hsp
        go_wp2_with fail
        refine (HN1.out _ (HPw.out.below HB1.out)).mono ?_
        rintro e w3 ⟨rfl, hb3⟩
        have hs3 := HSp.out.next hb3
        have HB3 := Lib.hid (HB1.out.trans (hb3.mono HB1.out.size))
        have hlt3 : w.heap.size < w3.heap.size := lt_of_heap hs3
        have HS3 := Lib.hid hs3
        clear q0 q1 q2 q3 q4 q5 q6 q7
        have q0 : w3.cell? ⟨w.heap.size, 0, none⟩ = some (.bool false) := hs3.cell 0
        have q1 : w3.cell? ⟨w.heap.size, 1, none⟩ = some (.bool p) := hs3.cell 1
        have q2 : w3.cell? ⟨w.heap.size, 2, none⟩ = some (.bool bl) := hs3.cell 2
        have q3 : w3.cell? ⟨w.heap.size, 3, none⟩ = some (.bool al) := hs3.cell 3
        have q4 : w3.cell? ⟨w.heap.size, 4, none⟩ = some (.bool false) := hs3.cell 4
        have q5 : w3.cell? ⟨w.heap.size, 5, none⟩ = some (.int .i64 wd) := hs3.cell 5
        have q6 : w3.cell? ⟨w.heap.size, 6, none⟩ = some (.int .i64 pr) := hs3.cell 6
        have q7 : w3.cell? ⟨w.heap.size, 7, none⟩ = some (.int .u8 VB) := hs3.cell 7
        clear hb3 hs3
        go_wp2_with fail
        have hal4 := (Below.refl w3.heap.size w3).alloc (Nat.le_refl _) (.cells #[.bool false, .bool p, .bool bl, .bool al, .bool false, .int .i64 0, .int .i64 pr, .int .u8 VB] 35)
        have HB4 := Lib.hid (HB3.out.alloc HB3.out.size (.cells #[.bool false, .bool p, .bool bl, .bool al, .bool false, .int .i64 0, .int .i64 pr, .int .u8 VB] 35))
        have hp4 : SpAt (w3.alloc (.cells #[.bool false, .bool p, .bool bl, .bool al, .bool false, .int .i64 0, .int .i64 pr, .int .u8 VB] 35)) w.heap.size #[.bool false, .bool p, .bool bl, .bool al, .bool false, .int .i64 wd, .int .i64 pr, .int .u8 VB] := SpAt.next HS3.out hal4
        clear q0 q1 q2 q3 q4 q5 q6 q7 HS3 hal4
        refine (HN2.out _ (HPw.out.below HB4.out)).mono ?_
        rintro e w5 ⟨rfl, hb5⟩
        have hp5 := hp4.next hb5
        have HB5 := Lib.hid (HB4.out.trans (hb5.mono HB4.out.size))
        have q0 : w5.cell? ⟨w.heap.size, 0, none⟩ = some (.bool false) := hp5.cell 0
        have q1 : w5.cell? ⟨w.heap.size, 1, none⟩ = some (.bool p) := hp5.cell 1
        have q2 : w5.cell? ⟨w.heap.size, 2, none⟩ = some (.bool bl) := hp5.cell 2
        have q3 : w5.cell? ⟨w.heap.size, 3, none⟩ = some (.bool al) := hp5.cell 3
        have q4 : w5.cell? ⟨w.heap.size, 4, none⟩ = some (.bool false) := hp5.cell 4
        have q5 : w5.cell? ⟨w.heap.size, 5, none⟩ = some (.int .i64 wd) := hp5.cell 5
        have q6 : w5.cell? ⟨w.heap.size, 6, none⟩ = some (.int .i64 pr) := hp5.cell 6
        have q7 : w5.cell? ⟨w.heap.size, 7, none⟩ = some (.int .u8 VB) := hp5.cell 7
        clear hb5 hp4 hp5
        go_wp2_with fail
        refine wp_region_guarded (by kernel_rfl) (by kernel_rfl) (fun a0 V0 L a W => ∃ u : Nat → Value, a = { tmps := ((((((((((((((((((((((((((((((a0.tmps.setIfInBounds 70 (u 0)).setIfInBounds 71 (u 1)).setIfInBounds 72 (u 2)).setIfInBounds 73 (u 3)).setIfInBounds 74 (u 4)).setIfInBounds 75 (u 5)).setIfInBounds 76 (u 6)).setIfInBounds 77 (u 7)).setIfInBounds 78 (u 8)).setIfInBounds 79 (u 9)).setIfInBounds 80 (u 10)).setIfInBounds 81 (u 11)).setIfInBounds 82 (u 12)).setIfInBounds 83 (u 13)).setIfInBounds 84 (u 14)).setIfInBounds 85 (u 15)).setIfInBounds 86 (u 16)).setIfInBounds 87 (u 17)).setIfInBounds 88 (u 18)).setIfInBounds 89 (u 19)).setIfInBounds 90 (u 20)).setIfInBounds 91 (u 21)).setIfInBounds 92 (u 22)).setIfInBounds 93 (u 23)).setIfInBounds 94 (u 24)).setIfInBounds 95 (u 25)).setIfInBounds 96 (u 26)).setIfInBounds 97 (u 27)).setIfInBounds 98 (u 28)).setIfInBounds 4 (u 29)), defers := a0.defers } ∧ Hid (Below V0.heap.size V0 W) ∧ Hid (∀ i, L i = true → u i = valAt [.pointer (some ⟨w.heap.size, 4, none⟩), .bool false, .bool false, .string SB, .string SB, .int .i64 (sn : Int), .string TB, .int .i64 (tn : Int), .int .i64 (k : Int), .string (SB.extract k sn), .string TB, .bool true, .bool true, .string SB, .string SB, .int .i64 (sn : Int), .string TB, .int .i64 (tn : Int), .int .i64 (k : Int), .string (SB.extract 0 k), .string SB, .int .i64 (sn : Int), .string TB, .int .i64 (tn : Int), .int .i64 (k : Int), .string (blanksB k), .bool true, .bool true, .bool true, .bool true] i)) ?h0 ?hstep ?hdone
        case h0 =>
          refine ⟨valAt [undef, undef, undef, undef, undef, undef, undef, undef, undef, undef, undef, undef, undef, undef, undef, undef, undef, undef, undef, undef, undef, undef, undef, undef, undef, undef, undef, undef, undef, .bool false], ?_, (Below.refl _ _).drew, fun _ h => (by cases h)⟩
          kernel_rfl
        case hstep =>
          refine ⟨?o0, ?o1, ?o2, ?o3, ?o4, ?o5, ?o6, ?o7, ?o8, ?o9, ?o10, ?o11, ?o12, ?o13, ?o14, ?o15, ?o16, ?o17, ?o18, ?o19, ?o20, ?o21, ?o22, ?o23, ?o24, ?o25, ?o26, ?o27, ?o28, ?o29, trivial⟩
          case o0 =>
            rintro L a' W ⟨u, rfl, HI, E⟩ hL hd K hK
            simp only [List.setIfInBounds_toArray, List.set_cons_zero, List.set_cons_succ]
            refine ite_take rfl ?_
            clear hL hd
            go_simp
            refine hK _ _ ⟨withVal u 0 (.pointer (some ⟨w.heap.size, 4, none⟩)), ?_, HI, withVal_next E 0 _ rfl⟩
            kernel_rfl
          case o1 =>
            rintro L a' W ⟨u, rfl, HI, E⟩ hL hd K hK
            have e0 : u 0 = .pointer (some ⟨w.heap.size, 4, none⟩) := E.out 0 (hd 0 (List.elem_iff.1 (by kernel_rfl)))
            have kq4 := cellNext HI.out q4
            simp only [List.setIfInBounds_toArray, List.set_cons_zero, List.set_cons_succ, e0]
            refine ite_take rfl ?_
            clear hL hd
            go_simp
            refine hK _ _ ⟨withVal (withVal u 0 (.pointer (some ⟨w.heap.size, 4, none⟩))) 1 (.bool false), ?_, HI, withVal_next (withVal_same E 0 _ rfl) 1 _ rfl⟩
            kernel_rfl
          case o2 =>
            rintro L a' W ⟨u, rfl, HI, E⟩ hL hd K hK
            have e1 : u 1 = .bool false := E.out 1 (hd 1 (List.elem_iff.1 (by kernel_rfl)))
            simp only [List.setIfInBounds_toArray, List.set_cons_zero, List.set_cons_succ, e1]
            refine ite_take rfl ?_
            clear hL hd
            go_simp
            refine hK _ _ ⟨withVal (withVal u 1 (.bool false)) 2 (.bool false), ?_, HI, withVal_next (withVal_same E 1 _ rfl) 2 _ rfl⟩
            kernel_rfl
          case o3 =>
            rintro L a' W ⟨u, rfl, HI, E⟩ hL hd K hK
            have e2 : u 2 = .bool false := E.out 2 (hd 2 (List.elem_iff.1 (by kernel_rfl)))
            simp only [List.setIfInBounds_toArray, List.set_cons_zero, List.set_cons_succ, e2]
            refine ite_take rfl ?_
            clear hL hd
            go_simp
            refine hK _ _ ⟨withVal (withVal u 2 (.bool false)) 3 (.string SB), ?_, HI, withVal_next (withVal_same E 2 _ rfl) 3 _ rfl⟩
            kernel_rfl
          case o4 =>
            rintro L a' W ⟨u, rfl, HI, E⟩ hL hd K hK
            have e2 : u 2 = .bool false := E.out 2 (hd 2 (List.elem_iff.1 (by kernel_rfl)))
            simp only [List.setIfInBounds_toArray, List.set_cons_zero, List.set_cons_succ, e2]
            refine ite_take rfl ?_
            clear hL hd
            go_simp
            refine hK _ _ ⟨withVal (withVal u 2 (.bool false)) 4 (.string SB), ?_, HI, withVal_next (withVal_same E 2 _ rfl) 4 _ rfl⟩
            kernel_rfl
          case o5 =>
            rintro L a' W ⟨u, rfl, HI, E⟩ hL hd K hK
            have e2 : u 2 = .bool false := E.out 2 (hd 2 (List.elem_iff.1 (by kernel_rfl)))
            have e4 : u 4 = .string SB := E.out 4 (hd 4 (List.elem_iff.1 (by kernel_rfl)))
            simp only [List.setIfInBounds_toArray, List.set_cons_zero, List.set_cons_succ, e2, e4]
            refine ite_take rfl ?_
            clear hL hd
            go_simp
            refine hK _ _ ⟨withVal (withVal (withVal u 2 (.bool false)) 4 (.string SB)) 5 (.int .i64 (sn : Int)), ?_, HI, withVal_next (withVal_same (withVal_same E 2 _ rfl) 4 _ rfl) 5 _ rfl⟩
            kernel_rfl
          case o6 =>
            rintro L a' W ⟨u, rfl, HI, E⟩ hL hd K hK
            have e2 : u 2 = .bool false := E.out 2 (hd 2 (List.elem_iff.1 (by kernel_rfl)))
            simp only [List.setIfInBounds_toArray, List.set_cons_zero, List.set_cons_succ, e2]
            refine ite_take rfl ?_
            clear hL hd
            go_simp
            refine hK _ _ ⟨withVal (withVal u 2 (.bool false)) 6 (.string TB), ?_, HI, withVal_next (withVal_same E 2 _ rfl) 6 _ rfl⟩
            kernel_rfl
          case o7 =>
            rintro L a' W ⟨u, rfl, HI, E⟩ hL hd K hK
            have e2 : u 2 = .bool false := E.out 2 (hd 2 (List.elem_iff.1 (by kernel_rfl)))
            have e6 : u 6 = .string TB := E.out 6 (hd 6 (List.elem_iff.1 (by kernel_rfl)))
            simp only [List.setIfInBounds_toArray, List.set_cons_zero, List.set_cons_succ, e2, e6]
            refine ite_take rfl ?_
            clear hL hd
            go_simp
            refine hK _ _ ⟨withVal (withVal (withVal u 2 (.bool false)) 6 (.string TB)) 7 (.int .i64 (tn : Int)), ?_, HI, withVal_next (withVal_same (withVal_same E 2 _ rfl) 6 _ rfl) 7 _ rfl⟩
            kernel_rfl
          case o8 =>
            rintro L a' W ⟨u, rfl, HI, E⟩ hL hd K hK
            have e2 : u 2 = .bool false := E.out 2 (hd 2 (List.elem_iff.1 (by kernel_rfl)))
            have e5 : u 5 = .int .i64 (sn : Int) := E.out 5 (hd 5 (List.elem_iff.1 (by kernel_rfl)))
            have e7 : u 7 = .int .i64 (tn : Int) := E.out 7 (hd 7 (List.elem_iff.1 (by kernel_rfl)))
            simp only [List.setIfInBounds_toArray, List.set_cons_zero, List.set_cons_succ, e2, e5, e7]
            refine ite_take rfl ?_
            clear hL hd
            go_simp
            refine hK _ _ ⟨withVal (withVal (withVal (withVal u 2 (.bool false)) 5 (.int .i64 (sn : Int))) 7 (.int .i64 (tn : Int))) 8 (.int .i64 (k : Int)), ?_, HI, withVal_next (withVal_same (withVal_same (withVal_same E 2 _ rfl) 5 _ rfl) 7 _ rfl) 8 _ rfl⟩
            kernel_rfl
          case o9 =>
            rintro L a' W ⟨u, rfl, HI, E⟩ hL hd K hK
            have e2 : u 2 = .bool false := E.out 2 (hd 2 (List.elem_iff.1 (by kernel_rfl)))
            have e3 : u 3 = .string SB := E.out 3 (hd 3 (List.elem_iff.1 (by kernel_rfl)))
            have e8 : u 8 = .int .i64 (k : Int) := E.out 8 (hd 8 (List.elem_iff.1 (by kernel_rfl)))
            simp only [List.setIfInBounds_toArray, List.set_cons_zero, List.set_cons_succ, e2, e3, e8]
            refine ite_take rfl ?_
            clear hL hd
            go_simp
            refine hK _ _ ⟨withVal (withVal (withVal (withVal u 2 (.bool false)) 3 (.string SB)) 8 (.int .i64 (k : Int))) 9 (.string (SB.extract k sn)), ?_, HI, withVal_next (withVal_same (withVal_same (withVal_same E 2 _ rfl) 3 _ rfl) 8 _ rfl) 9 _ rfl⟩
            kernel_rfl
          case o10 =>
            rintro L a' W ⟨u, rfl, HI, E⟩ hL hd K hK
            have e2 : u 2 = .bool false := E.out 2 (hd 2 (List.elem_iff.1 (by kernel_rfl)))
            simp only [List.setIfInBounds_toArray, List.set_cons_zero, List.set_cons_succ, e2]
            refine ite_take rfl ?_
            clear hL hd
            go_simp
            refine hK _ _ ⟨withVal (withVal u 2 (.bool false)) 10 (.string TB), ?_, HI, withVal_next (withVal_same E 2 _ rfl) 10 _ rfl⟩
            kernel_rfl
          case o11 =>
            rintro L a' W ⟨u, rfl, HI, E⟩ hL hd K hK
            have e2 : u 2 = .bool false := E.out 2 (hd 2 (List.elem_iff.1 (by kernel_rfl)))
            have e9 : u 9 = .string (SB.extract k sn) := E.out 9 (hd 9 (List.elem_iff.1 (by kernel_rfl)))
            have e10 : u 10 = .string TB := E.out 10 (hd 10 (List.elem_iff.1 (by kernel_rfl)))
            have hx : ((SB.extract k sn).toList == TB.toList) = true := by rw [X.out.1]; simp
            simp only [List.setIfInBounds_toArray, List.set_cons_zero, List.set_cons_succ, e2, e9, e10]
            refine ite_take rfl ?_
            clear hL hd
            go_simp
            refine hK _ _ ⟨withVal (withVal (withVal (withVal u 2 (.bool false)) 9 (.string (SB.extract k sn))) 10 (.string TB)) 11 (.bool true), ?_, HI, withVal_next (withVal_same (withVal_same (withVal_same E 2 _ rfl) 9 _ rfl) 10 _ rfl) 11 _ rfl⟩
            kernel_rfl
          case o12 =>
            rintro L a' W ⟨u, rfl, HI, E⟩ hL hd K hK
            have e2 : u 2 = .bool false := E.out 2 (hd 2 (List.elem_iff.1 (by kernel_rfl)))
            have e11 : u 11 = .bool true := E.out 11 (hd 11 (List.elem_iff.1 (by kernel_rfl)))
            simp only [List.setIfInBounds_toArray, List.set_cons_zero, List.set_cons_succ, e2, e11]
            refine ite_take rfl ?_
            clear hL hd
            go_simp
            refine hK _ _ ⟨withVal (withVal (withVal u 2 (.bool false)) 11 (.bool true)) 12 (.bool true), ?_, HI, withVal_next (withVal_same (withVal_same E 2 _ rfl) 11 _ rfl) 12 _ rfl⟩
            kernel_rfl
          case o13 =>
            rintro L a' W ⟨u, rfl, HI, E⟩ hL hd K hK
            have e12 : u 12 = .bool true := E.out 12 (hd 12 (List.elem_iff.1 (by kernel_rfl)))
            simp only [List.setIfInBounds_toArray, List.set_cons_zero, List.set_cons_succ, e12]
            refine ite_take rfl ?_
            clear hL hd
            go_simp
            refine hK _ _ ⟨withVal (withVal u 12 (.bool true)) 13 (.string SB), ?_, HI, withVal_next (withVal_same E 12 _ rfl) 13 _ rfl⟩
            kernel_rfl
          case o14 =>
            rintro L a' W ⟨u, rfl, HI, E⟩ hL hd K hK
            have e12 : u 12 = .bool true := E.out 12 (hd 12 (List.elem_iff.1 (by kernel_rfl)))
            simp only [List.setIfInBounds_toArray, List.set_cons_zero, List.set_cons_succ, e12]
            refine ite_take rfl ?_
            clear hL hd
            go_simp
            refine hK _ _ ⟨withVal (withVal u 12 (.bool true)) 14 (.string SB), ?_, HI, withVal_next (withVal_same E 12 _ rfl) 14 _ rfl⟩
            kernel_rfl
          case o15 =>
            rintro L a' W ⟨u, rfl, HI, E⟩ hL hd K hK
            have e12 : u 12 = .bool true := E.out 12 (hd 12 (List.elem_iff.1 (by kernel_rfl)))
            have e14 : u 14 = .string SB := E.out 14 (hd 14 (List.elem_iff.1 (by kernel_rfl)))
            simp only [List.setIfInBounds_toArray, List.set_cons_zero, List.set_cons_succ, e12, e14]
            refine ite_take rfl ?_
            clear hL hd
            go_simp
            refine hK _ _ ⟨withVal (withVal (withVal u 12 (.bool true)) 14 (.string SB)) 15 (.int .i64 (sn : Int)), ?_, HI, withVal_next (withVal_same (withVal_same E 12 _ rfl) 14 _ rfl) 15 _ rfl⟩
            kernel_rfl
          case o16 =>
            rintro L a' W ⟨u, rfl, HI, E⟩ hL hd K hK
            have e12 : u 12 = .bool true := E.out 12 (hd 12 (List.elem_iff.1 (by kernel_rfl)))
            simp only [List.setIfInBounds_toArray, List.set_cons_zero, List.set_cons_succ, e12]
            refine ite_take rfl ?_
            clear hL hd
            go_simp
            refine hK _ _ ⟨withVal (withVal u 12 (.bool true)) 16 (.string TB), ?_, HI, withVal_next (withVal_same E 12 _ rfl) 16 _ rfl⟩
            kernel_rfl
          case o17 =>
            rintro L a' W ⟨u, rfl, HI, E⟩ hL hd K hK
            have e12 : u 12 = .bool true := E.out 12 (hd 12 (List.elem_iff.1 (by kernel_rfl)))
            have e16 : u 16 = .string TB := E.out 16 (hd 16 (List.elem_iff.1 (by kernel_rfl)))
            simp only [List.setIfInBounds_toArray, List.set_cons_zero, List.set_cons_succ, e12, e16]
            refine ite_take rfl ?_
            clear hL hd
            go_simp
            refine hK _ _ ⟨withVal (withVal (withVal u 12 (.bool true)) 16 (.string TB)) 17 (.int .i64 (tn : Int)), ?_, HI, withVal_next (withVal_same (withVal_same E 12 _ rfl) 16 _ rfl) 17 _ rfl⟩
            kernel_rfl
          case o18 =>
            rintro L a' W ⟨u, rfl, HI, E⟩ hL hd K hK
            have e12 : u 12 = .bool true := E.out 12 (hd 12 (List.elem_iff.1 (by kernel_rfl)))
            have e15 : u 15 = .int .i64 (sn : Int) := E.out 15 (hd 15 (List.elem_iff.1 (by kernel_rfl)))
            have e17 : u 17 = .int .i64 (tn : Int) := E.out 17 (hd 17 (List.elem_iff.1 (by kernel_rfl)))
            simp only [List.setIfInBounds_toArray, List.set_cons_zero, List.set_cons_succ, e12, e15, e17]
            refine ite_take rfl ?_
            clear hL hd
            go_simp
            refine hK _ _ ⟨withVal (withVal (withVal (withVal u 12 (.bool true)) 15 (.int .i64 (sn : Int))) 17 (.int .i64 (tn : Int))) 18 (.int .i64 (k : Int)), ?_, HI, withVal_next (withVal_same (withVal_same (withVal_same E 12 _ rfl) 15 _ rfl) 17 _ rfl) 18 _ rfl⟩
            kernel_rfl
          case o19 =>
            rintro L a' W ⟨u, rfl, HI, E⟩ hL hd K hK
            have e12 : u 12 = .bool true := E.out 12 (hd 12 (List.elem_iff.1 (by kernel_rfl)))
            have e13 : u 13 = .string SB := E.out 13 (hd 13 (List.elem_iff.1 (by kernel_rfl)))
            have e18 : u 18 = .int .i64 (k : Int) := E.out 18 (hd 18 (List.elem_iff.1 (by kernel_rfl)))
            simp only [List.setIfInBounds_toArray, List.set_cons_zero, List.set_cons_succ, e12, e13, e18]
            refine ite_take rfl ?_
            clear hL hd
            go_simp
            refine hK _ _ ⟨withVal (withVal (withVal (withVal u 12 (.bool true)) 13 (.string SB)) 18 (.int .i64 (k : Int))) 19 (.string (SB.extract 0 k)), ?_, HI, withVal_next (withVal_same (withVal_same (withVal_same E 12 _ rfl) 13 _ rfl) 18 _ rfl) 19 _ rfl⟩
            kernel_rfl
          case o20 =>
            rintro L a' W ⟨u, rfl, HI, E⟩ hL hd K hK
            have e12 : u 12 = .bool true := E.out 12 (hd 12 (List.elem_iff.1 (by kernel_rfl)))
            simp only [List.setIfInBounds_toArray, List.set_cons_zero, List.set_cons_succ, e12]
            refine ite_take rfl ?_
            clear hL hd
            go_simp
            refine hK _ _ ⟨withVal (withVal u 12 (.bool true)) 20 (.string SB), ?_, HI, withVal_next (withVal_same E 12 _ rfl) 20 _ rfl⟩
            kernel_rfl
          case o21 =>
            rintro L a' W ⟨u, rfl, HI, E⟩ hL hd K hK
            have e12 : u 12 = .bool true := E.out 12 (hd 12 (List.elem_iff.1 (by kernel_rfl)))
            have e20 : u 20 = .string SB := E.out 20 (hd 20 (List.elem_iff.1 (by kernel_rfl)))
            simp only [List.setIfInBounds_toArray, List.set_cons_zero, List.set_cons_succ, e12, e20]
            refine ite_take rfl ?_
            clear hL hd
            go_simp
            refine hK _ _ ⟨withVal (withVal (withVal u 12 (.bool true)) 20 (.string SB)) 21 (.int .i64 (sn : Int)), ?_, HI, withVal_next (withVal_same (withVal_same E 12 _ rfl) 20 _ rfl) 21 _ rfl⟩
            kernel_rfl
          case o22 =>
            rintro L a' W ⟨u, rfl, HI, E⟩ hL hd K hK
            have e12 : u 12 = .bool true := E.out 12 (hd 12 (List.elem_iff.1 (by kernel_rfl)))
            simp only [List.setIfInBounds_toArray, List.set_cons_zero, List.set_cons_succ, e12]
            refine ite_take rfl ?_
            clear hL hd
            go_simp
            refine hK _ _ ⟨withVal (withVal u 12 (.bool true)) 22 (.string TB), ?_, HI, withVal_next (withVal_same E 12 _ rfl) 22 _ rfl⟩
            kernel_rfl
          case o23 =>
            rintro L a' W ⟨u, rfl, HI, E⟩ hL hd K hK
            have e12 : u 12 = .bool true := E.out 12 (hd 12 (List.elem_iff.1 (by kernel_rfl)))
            have e22 : u 22 = .string TB := E.out 22 (hd 22 (List.elem_iff.1 (by kernel_rfl)))
            simp only [List.setIfInBounds_toArray, List.set_cons_zero, List.set_cons_succ, e12, e22]
            refine ite_take rfl ?_
            clear hL hd
            go_simp
            refine hK _ _ ⟨withVal (withVal (withVal u 12 (.bool true)) 22 (.string TB)) 23 (.int .i64 (tn : Int)), ?_, HI, withVal_next (withVal_same (withVal_same E 12 _ rfl) 22 _ rfl) 23 _ rfl⟩
            kernel_rfl
          case o24 =>
            rintro L a' W ⟨u, rfl, HI, E⟩ hL hd K hK
            have e12 : u 12 = .bool true := E.out 12 (hd 12 (List.elem_iff.1 (by kernel_rfl)))
            have e21 : u 21 = .int .i64 (sn : Int) := E.out 21 (hd 21 (List.elem_iff.1 (by kernel_rfl)))
            have e23 : u 23 = .int .i64 (tn : Int) := E.out 23 (hd 23 (List.elem_iff.1 (by kernel_rfl)))
            simp only [List.setIfInBounds_toArray, List.set_cons_zero, List.set_cons_succ, e12, e21, e23]
            refine ite_take rfl ?_
            clear hL hd
            go_simp
            refine hK _ _ ⟨withVal (withVal (withVal (withVal u 12 (.bool true)) 21 (.int .i64 (sn : Int))) 23 (.int .i64 (tn : Int))) 24 (.int .i64 (k : Int)), ?_, HI, withVal_next (withVal_same (withVal_same (withVal_same E 12 _ rfl) 21 _ rfl) 23 _ rfl) 24 _ rfl⟩
            kernel_rfl
          case o25 =>
            rintro L a' W ⟨u, rfl, HI, E⟩ hL hd K hK
            have e12 : u 12 = .bool true := E.out 12 (hd 12 (List.elem_iff.1 (by kernel_rfl)))
            have e24 : u 24 = .int .i64 (k : Int) := E.out 24 (hd 24 (List.elem_iff.1 (by kernel_rfl)))
            simp only [List.setIfInBounds_toArray, List.set_cons_zero, List.set_cons_succ, e12, e24]
            refine ite_take rfl ?_
            clear hL hd
            go_simp
            refine (HBl.out W).mono ?_
            rintro e W' ⟨rfl, hb⟩
            refine hK _ _ ⟨withVal (withVal (withVal u 12 (.bool true)) 24 (.int .i64 (k : Int))) 25 (.string (blanksB k)), ?_, HI.out.trans (hb.mono HI.out.size), withVal_next (withVal_same (withVal_same E 12 _ rfl) 24 _ rfl) 25 _ rfl⟩
            kernel_rfl
          case o26 =>
            rintro L a' W ⟨u, rfl, HI, E⟩ hL hd K hK
            have e12 : u 12 = .bool true := E.out 12 (hd 12 (List.elem_iff.1 (by kernel_rfl)))
            have e19 : u 19 = .string (SB.extract 0 k) := E.out 19 (hd 19 (List.elem_iff.1 (by kernel_rfl)))
            have e25 : u 25 = .string (blanksB k) := E.out 25 (hd 25 (List.elem_iff.1 (by kernel_rfl)))
            have hx : ((SB.extract 0 k).toList == (blanksB k).toList) = true := by rw [X.out.2]; simp
            simp only [List.setIfInBounds_toArray, List.set_cons_zero, List.set_cons_succ, e12, e19, e25]
            refine ite_take rfl ?_
            clear hL hd
            go_simp
            refine hK _ _ ⟨withVal (withVal (withVal (withVal u 12 (.bool true)) 19 (.string (SB.extract 0 k))) 25 (.string (blanksB k))) 26 (.bool true), ?_, HI, withVal_next (withVal_same (withVal_same (withVal_same E 12 _ rfl) 19 _ rfl) 25 _ rfl) 26 _ rfl⟩
            kernel_rfl
          case o27 =>
            rintro L a' W ⟨u, rfl, HI, E⟩ hL hd K hK
            have e2 : u 2 = .bool false := E.out 2 (hd 2 (List.elem_iff.1 (by kernel_rfl)))
            have e12 : u 12 = .bool true := E.out 12 (hd 12 (List.elem_iff.1 (by kernel_rfl)))
            have e26 : u 26 = .bool true := E.out 26 (hd 26 (List.elem_iff.1 (by kernel_rfl)))
            simp only [List.setIfInBounds_toArray, List.set_cons_zero, List.set_cons_succ, e2, e12, e26]
            refine ite_take rfl ?_
            clear hL hd
            go_simp
            refine hK _ _ ⟨withVal (withVal (withVal (withVal u 2 (.bool false)) 12 (.bool true)) 26 (.bool true)) 27 (.bool true), ?_, HI, withVal_next (withVal_same (withVal_same (withVal_same E 2 _ rfl) 12 _ rfl) 26 _ rfl) 27 _ rfl⟩
            kernel_rfl
          case o28 =>
            rintro L a' W ⟨u, rfl, HI, E⟩ hL hd K hK
            have e2 : u 2 = .bool false := E.out 2 (hd 2 (List.elem_iff.1 (by kernel_rfl)))
            have e27 : u 27 = .bool true := E.out 27 (hd 27 (List.elem_iff.1 (by kernel_rfl)))
            simp only [List.setIfInBounds_toArray, List.set_cons_zero, List.set_cons_succ, e2, e27]
            refine ite_take rfl ?_
            clear hL hd
            go_simp
            refine hK _ _ ⟨withVal (withVal (withVal u 2 (.bool false)) 27 (.bool true)) 28 (.bool true), ?_, HI, withVal_next (withVal_same (withVal_same E 2 _ rfl) 27 _ rfl) 28 _ rfl⟩
            kernel_rfl
          case o29 =>
            rintro L a' W ⟨u, rfl, HI, E⟩ hL hd K hK
            have e28 : u 28 = .bool true := E.out 28 (hd 28 (List.elem_iff.1 (by kernel_rfl)))
            simp only [List.setIfInBounds_toArray, List.set_cons_zero, List.set_cons_succ, e28]
            refine ite_take rfl ?_
            clear hL hd
            go_simp
            refine hK _ _ ⟨withVal (withVal u 28 (.bool true)) 29 (.bool true), ?_, HI, withVal_next (withVal_same E 28 _ rfl) 29 _ rfl⟩
            kernel_rfl
        case hdone =>
          rintro L a' W1 hall ⟨u, rfl, HI, E⟩
          have e0 : u 0 = .pointer (some ⟨w.heap.size, 4, none⟩) := E.out 0 (hall 0 (by decide))
          have e1 : u 1 = .bool false := E.out 1 (hall 1 (by decide))
          have e2 : u 2 = .bool false := E.out 2 (hall 2 (by decide))
          have e3 : u 3 = .string SB := E.out 3 (hall 3 (by decide))
          have e4 : u 4 = .string SB := E.out 4 (hall 4 (by decide))
          have e5 : u 5 = .int .i64 (sn : Int) := E.out 5 (hall 5 (by decide))
          have e6 : u 6 = .string TB := E.out 6 (hall 6 (by decide))
          have e7 : u 7 = .int .i64 (tn : Int) := E.out 7 (hall 7 (by decide))
          have e8 : u 8 = .int .i64 (k : Int) := E.out 8 (hall 8 (by decide))
          have e9 : u 9 = .string (SB.extract k sn) := E.out 9 (hall 9 (by decide))
          have e10 : u 10 = .string TB := E.out 10 (hall 10 (by decide))
          have e11 : u 11 = .bool true := E.out 11 (hall 11 (by decide))
          have e12 : u 12 = .bool true := E.out 12 (hall 12 (by decide))
          have e13 : u 13 = .string SB := E.out 13 (hall 13 (by decide))
          have e14 : u 14 = .string SB := E.out 14 (hall 14 (by decide))
          have e15 : u 15 = .int .i64 (sn : Int) := E.out 15 (hall 15 (by decide))
          have e16 : u 16 = .string TB := E.out 16 (hall 16 (by decide))
          have e17 : u 17 = .int .i64 (tn : Int) := E.out 17 (hall 17 (by decide))
          have e18 : u 18 = .int .i64 (k : Int) := E.out 18 (hall 18 (by decide))
          have e19 : u 19 = .string (SB.extract 0 k) := E.out 19 (hall 19 (by decide))
          have e20 : u 20 = .string SB := E.out 20 (hall 20 (by decide))
          have e21 : u 21 = .int .i64 (sn : Int) := E.out 21 (hall 21 (by decide))
          have e22 : u 22 = .string TB := E.out 22 (hall 22 (by decide))
          have e23 : u 23 = .int .i64 (tn : Int) := E.out 23 (hall 23 (by decide))
          have e24 : u 24 = .int .i64 (k : Int) := E.out 24 (hall 24 (by decide))
          have e25 : u 25 = .string (blanksB k) := E.out 25 (hall 25 (by decide))
          have e26 : u 26 = .bool true := E.out 26 (hall 26 (by decide))
          have e27 : u 27 = .bool true := E.out 27 (hall 27 (by decide))
          have e28 : u 28 = .bool true := E.out 28 (hall 28 (by decide))
          have e29 : u 29 = .bool true := E.out 29 (hall 29 (by decide))
          simp only [List.setIfInBounds_toArray, List.set_cons_zero, List.set_cons_succ, e0, e1, e2, e3, e4, e5, e6, e7, e8, e9, e10, e11, e12, e13, e14, e15, e16, e17, e18, e19, e20, e21, e22, e23, e24, e25, e26, e27, e28, e29]
          clear hall E
          go_wp2_with fail
          go_ret
          exact ⟨rfl, HB5.out.trans (HI.out.mono HB5.out.size)⟩
      · clear X1 X2
        go_enter Tryz.func4, Tryz.ntmps4
        go_wp2_with fail
        refine HF.out.mono ?_
        rintro e w1 ⟨rfl, hb1⟩
        have hsp : SpAt w1 w.heap.size #[.bool false, .bool p, .bool bl, .bool al, .bool true, .int .i64 wd, .int .i64 pr, .int .u8 VB] := SpAt.next HQ0.out hb1
        have HB1 := Lib.hid (HB0.out.trans (hb1.mono (by simp)))
        have HSp := Lib.hid hsp
        have q0 : w1.cell? ⟨w.heap.size, 0, none⟩ = some (.bool false) := hsp.cell 0
        have q1 : w1.cell? ⟨w.heap.size, 1, none⟩ = some (.bool p) := hsp.cell 1
        have q2 : w1.cell? ⟨w.heap.size, 2, none⟩ = some (.bool bl) := hsp.cell 2
        have q3 : w1.cell? ⟨w.heap.size, 3, none⟩ = some (.bool al) := hsp.cell 3
        have q4 : w1.cell? ⟨w.heap.size, 4, none⟩ = some (.bool true) := hsp.cell 4
        have q5 : w1.cell? ⟨w.heap.size, 5, none⟩ = some (.int .i64 wd) := hsp.cell 5
        have q6 : w1.cell? ⟨w.heap.size, 6, none⟩ = some (.int .i64 pr) := hsp.cell 6
        have q7 : w1.cell? ⟨w.heap.size, 7, none⟩ = some (.int .u8 VB) := hsp.cell 7
        clear hb1 hsp
        go_wp2_with fail
        refine (HN1.out _ (HPw.out.below HB1.out)).mono ?_
        rintro e w3 ⟨rfl, hb3⟩
        have hs3 := HSp.out.next hb3
        have HB3 := Lib.hid (HB1.out.trans (hb3.mono HB1.out.size))
        have hlt3 : w.heap.size < w3.heap.size := lt_of_heap hs3
        have HS3 := Lib.hid hs3
        clear q0 q1 q2 q3 q4 q5 q6 q7
        have q0 : w3.cell? ⟨w.heap.size, 0, none⟩ = some (.bool false) := hs3.cell 0
        have q1 : w3.cell? ⟨w.heap.size, 1, none⟩ = some (.bool p) := hs3.cell 1
        have q2 : w3.cell? ⟨w.heap.size, 2, none⟩ = some (.bool bl) := hs3.cell 2
        have q3 : w3.cell? ⟨w.heap.size, 3, none⟩ = some (.bool al) := hs3.cell 3
        have q4 : w3.cell? ⟨w.heap.size, 4, none⟩ = some (.bool true) := hs3.cell 4
        have q5 : w3.cell? ⟨w.heap.size, 5, none⟩ = some (.int .i64 wd) := hs3.cell 5
        have q6 : w3.cell? ⟨w.heap.size, 6, none⟩ = some (.int .i64 pr) := hs3.cell 6
        have q7 : w3.cell? ⟨w.heap.size, 7, none⟩ = some (.int .u8 VB) := hs3.cell 7
        clear hb3 hs3
        go_wp2_with fail
        have hal4 := (Below.refl w3.heap.size w3).alloc (Nat.le_refl _) (.cells #[.bool false, .bool p, .bool bl, .bool al, .bool true, .int .i64 0, .int .i64 pr, .int .u8 VB] 35)
        have HB4 := Lib.hid (HB3.out.alloc HB3.out.size (.cells #[.bool false, .bool p, .bool bl, .bool al, .bool true, .int .i64 0, .int .i64 pr, .int .u8 VB] 35))
        have hp4 : SpAt (w3.alloc (.cells #[.bool false, .bool p, .bool bl, .bool al, .bool true, .int .i64 0, .int .i64 pr, .int .u8 VB] 35)) w.heap.size #[.bool false, .bool p, .bool bl, .bool al, .bool true, .int .i64 wd, .int .i64 pr, .int .u8 VB] := SpAt.next HS3.out hal4
        clear q0 q1 q2 q3 q4 q5 q6 q7 HS3 hal4
        refine (HN2.out _ (HPw.out.below HB4.out)).mono ?_
        rintro e w5 ⟨rfl, hb5⟩
        have hp5 := hp4.next hb5
        have HB5 := Lib.hid (HB4.out.trans (hb5.mono HB4.out.size))
        have q0 : w5.cell? ⟨w.heap.size, 0, none⟩ = some (.bool false) := hp5.cell 0
        have q1 : w5.cell? ⟨w.heap.size, 1, none⟩ = some (.bool p) := hp5.cell 1
        have q2 : w5.cell? ⟨w.heap.size, 2, none⟩ = some (.bool bl) := hp5.cell 2
        have q3 : w5.cell? ⟨w.heap.size, 3, none⟩ = some (.bool al) := hp5.cell 3
        have q4 : w5.cell? ⟨w.heap.size, 4, none⟩ = some (.bool true) := hp5.cell 4
        have q5 : w5.cell? ⟨w.heap.size, 5, none⟩ = some (.int .i64 wd) := hp5.cell 5
        have q6 : w5.cell? ⟨w.heap.size, 6, none⟩ = some (.int .i64 pr) := hp5.cell 6
        have q7 : w5.cell? ⟨w.heap.size, 7, none⟩ = some (.int .u8 VB) := hp5.cell 7
        clear hb5 hp4 hp5
        go_wp2_with fail
        refine wp_region_guarded (by kernel_rfl) (by kernel_rfl) (fun a0 V0 L a W => ∃ u : Nat → Value, a = { tmps := ((((((((((((((((((((((((((((((a0.tmps.setIfInBounds 70 (u 0)).setIfInBounds 71 (u 1)).setIfInBounds 72 (u 2)).setIfInBounds 73 (u 3)).setIfInBounds 74 (u 4)).setIfInBounds 75 (u 5)).setIfInBounds 76 (u 6)).setIfInBounds 77 (u 7)).setIfInBounds 78 (u 8)).setIfInBounds 79 (u 9)).setIfInBounds 80 (u 10)).setIfInBounds 81 (u 11)).setIfInBounds 82 (u 12)).setIfInBounds 83 (u 13)).setIfInBounds 84 (u 14)).setIfInBounds 85 (u 15)).setIfInBounds 86 (u 16)).setIfInBounds 87 (u 17)).setIfInBounds 88 (u 18)).setIfInBounds 89 (u 19)).setIfInBounds 90 (u 20)).setIfInBounds 91 (u 21)).setIfInBounds 92 (u 22)).setIfInBounds 93 (u 23)).setIfInBounds 94 (u 24)).setIfInBounds 95 (u 25)).setIfInBounds 96 (u 26)).setIfInBounds 97 (u 27)).setIfInBounds 98 (u 28)).setIfInBounds 4 (u 29)), defers := a0.defers } ∧ Hid (Below V0.heap.size V0 W) ∧ Hid (∀ i, L i = true → u i = valAt [.pointer (some ⟨w.heap.size, 4, none⟩), .bool true, .bool true, undef, undef, undef, undef, undef, undef, undef, undef, undef, undef, undef, undef, undef, undef, undef, undef, undef, undef, undef, undef, undef, undef, undef, undef, undef, .bool true, .bool true] i)) ?h0 ?hstep ?hdone
        case h0 =>
          refine ⟨valAt [undef, undef, undef, undef, undef, undef, undef, undef, undef, undef, undef, undef, undef, undef, undef, undef, undef, undef, undef, undef, undef, undef, undef, undef, undef, undef, undef, undef, undef, .bool false], ?_, (Below.refl _ _).drew, fun _ h => (by cases h)⟩
          kernel_rfl
        case hstep =>
          refine ⟨?o0, ?o1, ?o2, ?o3, ?o4, ?o5, ?o6, ?o7, ?o8, ?o9, ?o10, ?o11, ?o12, ?o13, ?o14, ?o15, ?o16, ?o17, ?o18, ?o19, ?o20, ?o21, ?o22, ?o23, ?o24, ?o25, ?o26, ?o27, ?o28, ?o29, trivial⟩
          case o0 =>
            rintro L a' W ⟨u, rfl, HI, E⟩ hL hd K hK
            simp only [List.setIfInBounds_toArray, List.set_cons_zero, List.set_cons_succ]
            refine ite_take rfl ?_
            clear hL hd
            go_simp
            refine hK _ _ ⟨withVal u 0 (.pointer (some ⟨w.heap.size, 4, none⟩)), ?_, HI, withVal_next E 0 _ rfl⟩
            kernel_rfl
          case o1 =>
            rintro L a' W ⟨u, rfl, HI, E⟩ hL hd K hK
            have e0 : u 0 = .pointer (some ⟨w.heap.size, 4, none⟩) := E.out 0 (hd 0 (List.elem_iff.1 (by kernel_rfl)))
            have kq4 := cellNext HI.out q4
            simp only [List.setIfInBounds_toArray, List.set_cons_zero, List.set_cons_succ, e0]
            refine ite_take rfl ?_
            clear hL hd
            go_simp
            refine hK _ _ ⟨withVal (withVal u 0 (.pointer (some ⟨w.heap.size, 4, none⟩))) 1 (.bool true), ?_, HI, withVal_next (withVal_same E 0 _ rfl) 1 _ rfl⟩
            kernel_rfl
          case o2 =>
            rintro L a' W ⟨u, rfl, HI, E⟩ hL hd K hK
            have e1 : u 1 = .bool true := E.out 1 (hd 1 (List.elem_iff.1 (by kernel_rfl)))
            simp only [List.setIfInBounds_toArray, List.set_cons_zero, List.set_cons_succ, e1]
            refine ite_take rfl ?_
            clear hL hd
            go_simp
            refine hK _ _ ⟨withVal (withVal u 1 (.bool true)) 2 (.bool true), ?_, HI, withVal_next (withVal_same E 1 _ rfl) 2 _ rfl⟩
            kernel_rfl
          case o3 =>
            rintro L a' W ⟨u, rfl, HI, E⟩ hL hd K hK
            have e2 : u 2 = .bool true := E.out 2 (hd 2 (List.elem_iff.1 (by kernel_rfl)))
            simp only [List.setIfInBounds_toArray, List.set_cons_zero, List.set_cons_succ, e2]
            refine ite_skip (fun h => Bool.false_ne_true h) ?_
            clear hL hd
            go_simp
            refine hK _ _ ⟨withVal (withVal u 2 (.bool true)) 3 (undef), ?_, HI, withVal_next (withVal_same E 2 _ rfl) 3 _ rfl⟩
            kernel_rfl
          case o4 =>
            rintro L a' W ⟨u, rfl, HI, E⟩ hL hd K hK
            have e2 : u 2 = .bool true := E.out 2 (hd 2 (List.elem_iff.1 (by kernel_rfl)))
            simp only [List.setIfInBounds_toArray, List.set_cons_zero, List.set_cons_succ, e2]
            refine ite_skip (fun h => Bool.false_ne_true h) ?_
            clear hL hd
            go_simp
            refine hK _ _ ⟨withVal (withVal u 2 (.bool true)) 4 (undef), ?_, HI, withVal_next (withVal_same E 2 _ rfl) 4 _ rfl⟩
            kernel_rfl
          case o5 =>
            rintro L a' W ⟨u, rfl, HI, E⟩ hL hd K hK
            have e2 : u 2 = .bool true := E.out 2 (hd 2 (List.elem_iff.1 (by kernel_rfl)))
            simp only [List.setIfInBounds_toArray, List.set_cons_zero, List.set_cons_succ, e2]
            refine ite_skip (fun h => Bool.false_ne_true h) ?_
            clear hL hd
            go_simp
            refine hK _ _ ⟨withVal (withVal u 2 (.bool true)) 5 (undef), ?_, HI, withVal_next (withVal_same E 2 _ rfl) 5 _ rfl⟩
            kernel_rfl
          case o6 =>
            rintro L a' W ⟨u, rfl, HI, E⟩ hL hd K hK
            have e2 : u 2 = .bool true := E.out 2 (hd 2 (List.elem_iff.1 (by kernel_rfl)))
            simp only [List.setIfInBounds_toArray, List.set_cons_zero, List.set_cons_succ, e2]
            refine ite_skip (fun h => Bool.false_ne_true h) ?_
            clear hL hd
            go_simp
            refine hK _ _ ⟨withVal (withVal u 2 (.bool true)) 6 (undef), ?_, HI, withVal_next (withVal_same E 2 _ rfl) 6 _ rfl⟩
            kernel_rfl
          case o7 =>
            rintro L a' W ⟨u, rfl, HI, E⟩ hL hd K hK
            have e2 : u 2 = .bool true := E.out 2 (hd 2 (List.elem_iff.1 (by kernel_rfl)))
            simp only [List.setIfInBounds_toArray, List.set_cons_zero, List.set_cons_succ, e2]
            refine ite_skip (fun h => Bool.false_ne_true h) ?_
            clear hL hd
            go_simp
            refine hK _ _ ⟨withVal (withVal u 2 (.bool true)) 7 (undef), ?_, HI, withVal_next (withVal_same E 2 _ rfl) 7 _ rfl⟩
            kernel_rfl
          case o8 =>
            rintro L a' W ⟨u, rfl, HI, E⟩ hL hd K hK
            have e2 : u 2 = .bool true := E.out 2 (hd 2 (List.elem_iff.1 (by kernel_rfl)))
            simp only [List.setIfInBounds_toArray, List.set_cons_zero, List.set_cons_succ, e2]
            refine ite_skip (fun h => Bool.false_ne_true h) ?_
            clear hL hd
            go_simp
            refine hK _ _ ⟨withVal (withVal u 2 (.bool true)) 8 (undef), ?_, HI, withVal_next (withVal_same E 2 _ rfl) 8 _ rfl⟩
            kernel_rfl
          case o9 =>
            rintro L a' W ⟨u, rfl, HI, E⟩ hL hd K hK
            have e2 : u 2 = .bool true := E.out 2 (hd 2 (List.elem_iff.1 (by kernel_rfl)))
            simp only [List.setIfInBounds_toArray, List.set_cons_zero, List.set_cons_succ, e2]
            refine ite_skip (fun h => Bool.false_ne_true h) ?_
            clear hL hd
            go_simp
            refine hK _ _ ⟨withVal (withVal u 2 (.bool true)) 9 (undef), ?_, HI, withVal_next (withVal_same E 2 _ rfl) 9 _ rfl⟩
            kernel_rfl
          case o10 =>
            rintro L a' W ⟨u, rfl, HI, E⟩ hL hd K hK
            have e2 : u 2 = .bool true := E.out 2 (hd 2 (List.elem_iff.1 (by kernel_rfl)))
            simp only [List.setIfInBounds_toArray, List.set_cons_zero, List.set_cons_succ, e2]
            refine ite_skip (fun h => Bool.false_ne_true h) ?_
            clear hL hd
            go_simp
            refine hK _ _ ⟨withVal (withVal u 2 (.bool true)) 10 (undef), ?_, HI, withVal_next (withVal_same E 2 _ rfl) 10 _ rfl⟩
            kernel_rfl
          case o11 =>
            rintro L a' W ⟨u, rfl, HI, E⟩ hL hd K hK
            have e2 : u 2 = .bool true := E.out 2 (hd 2 (List.elem_iff.1 (by kernel_rfl)))
            simp only [List.setIfInBounds_toArray, List.set_cons_zero, List.set_cons_succ, e2]
            refine ite_skip (fun h => Bool.false_ne_true h) ?_
            clear hL hd
            go_simp
            refine hK _ _ ⟨withVal (withVal u 2 (.bool true)) 11 (undef), ?_, HI, withVal_next (withVal_same E 2 _ rfl) 11 _ rfl⟩
            kernel_rfl
          case o12 =>
            rintro L a' W ⟨u, rfl, HI, E⟩ hL hd K hK
            have e2 : u 2 = .bool true := E.out 2 (hd 2 (List.elem_iff.1 (by kernel_rfl)))
            simp only [List.setIfInBounds_toArray, List.set_cons_zero, List.set_cons_succ, e2]
            refine ite_skip (fun h => Bool.false_ne_true h) ?_
            clear hL hd
            go_simp
            refine hK _ _ ⟨withVal (withVal u 2 (.bool true)) 12 (undef), ?_, HI, withVal_next (withVal_same E 2 _ rfl) 12 _ rfl⟩
            kernel_rfl
          case o13 =>
            rintro L a' W ⟨u, rfl, HI, E⟩ hL hd K hK
            have e12 : u 12 = undef := E.out 12 (hd 12 (List.elem_iff.1 (by kernel_rfl)))
            simp only [List.setIfInBounds_toArray, List.set_cons_zero, List.set_cons_succ, e12]
            refine ite_skip (fun h => Bool.false_ne_true h) ?_
            clear hL hd
            go_simp
            refine hK _ _ ⟨withVal (withVal u 12 (undef)) 13 (undef), ?_, HI, withVal_next (withVal_same E 12 _ rfl) 13 _ rfl⟩
            kernel_rfl
          case o14 =>
            rintro L a' W ⟨u, rfl, HI, E⟩ hL hd K hK
            have e12 : u 12 = undef := E.out 12 (hd 12 (List.elem_iff.1 (by kernel_rfl)))
            simp only [List.setIfInBounds_toArray, List.set_cons_zero, List.set_cons_succ, e12]
            refine ite_skip (fun h => Bool.false_ne_true h) ?_
            clear hL hd
            go_simp
            refine hK _ _ ⟨withVal (withVal u 12 (undef)) 14 (undef), ?_, HI, withVal_next (withVal_same E 12 _ rfl) 14 _ rfl⟩
            kernel_rfl
          case o15 =>
            rintro L a' W ⟨u, rfl, HI, E⟩ hL hd K hK
            have e12 : u 12 = undef := E.out 12 (hd 12 (List.elem_iff.1 (by kernel_rfl)))
            simp only [List.setIfInBounds_toArray, List.set_cons_zero, List.set_cons_succ, e12]
            refine ite_skip (fun h => Bool.false_ne_true h) ?_
            clear hL hd
            go_simp
            refine hK _ _ ⟨withVal (withVal u 12 (undef)) 15 (undef), ?_, HI, withVal_next (withVal_same E 12 _ rfl) 15 _ rfl⟩
            kernel_rfl
          case o16 =>
            rintro L a' W ⟨u, rfl, HI, E⟩ hL hd K hK
            have e12 : u 12 = undef := E.out 12 (hd 12 (List.elem_iff.1 (by kernel_rfl)))
            simp only [List.setIfInBounds_toArray, List.set_cons_zero, List.set_cons_succ, e12]
            refine ite_skip (fun h => Bool.false_ne_true h) ?_
            clear hL hd
            go_simp
            refine hK _ _ ⟨withVal (withVal u 12 (undef)) 16 (undef), ?_, HI, withVal_next (withVal_same E 12 _ rfl) 16 _ rfl⟩
            kernel_rfl
          case o17 =>
            rintro L a' W ⟨u, rfl, HI, E⟩ hL hd K hK
            have e12 : u 12 = undef := E.out 12 (hd 12 (List.elem_iff.1 (by kernel_rfl)))
            simp only [List.setIfInBounds_toArray, List.set_cons_zero, List.set_cons_succ, e12]
            refine ite_skip (fun h => Bool.false_ne_true h) ?_
            clear hL hd
            go_simp
            refine hK _ _ ⟨withVal (withVal u 12 (undef)) 17 (undef), ?_, HI, withVal_next (withVal_same E 12 _ rfl) 17 _ rfl⟩
            kernel_rfl
          case o18 =>
            rintro L a' W ⟨u, rfl, HI, E⟩ hL hd K hK
            have e12 : u 12 = undef := E.out 12 (hd 12 (List.elem_iff.1 (by kernel_rfl)))
            simp only [List.setIfInBounds_toArray, List.set_cons_zero, List.set_cons_succ, e12]
            refine ite_skip (fun h => Bool.false_ne_true h) ?_
            clear hL hd
            go_simp
            refine hK _ _ ⟨withVal (withVal u 12 (undef)) 18 (undef), ?_, HI, withVal_next (withVal_same E 12 _ rfl) 18 _ rfl⟩
            kernel_rfl
          case o19 =>
            rintro L a' W ⟨u, rfl, HI, E⟩ hL hd K hK
            have e12 : u 12 = undef := E.out 12 (hd 12 (List.elem_iff.1 (by kernel_rfl)))
            simp only [List.setIfInBounds_toArray, List.set_cons_zero, List.set_cons_succ, e12]
            refine ite_skip (fun h => Bool.false_ne_true h) ?_
            clear hL hd
            go_simp
            refine hK _ _ ⟨withVal (withVal u 12 (undef)) 19 (undef), ?_, HI, withVal_next (withVal_same E 12 _ rfl) 19 _ rfl⟩
            kernel_rfl
          case o20 =>
            rintro L a' W ⟨u, rfl, HI, E⟩ hL hd K hK
            have e12 : u 12 = undef := E.out 12 (hd 12 (List.elem_iff.1 (by kernel_rfl)))
            simp only [List.setIfInBounds_toArray, List.set_cons_zero, List.set_cons_succ, e12]
            refine ite_skip (fun h => Bool.false_ne_true h) ?_
            clear hL hd
            go_simp
            refine hK _ _ ⟨withVal (withVal u 12 (undef)) 20 (undef), ?_, HI, withVal_next (withVal_same E 12 _ rfl) 20 _ rfl⟩
            kernel_rfl
          case o21 =>
            rintro L a' W ⟨u, rfl, HI, E⟩ hL hd K hK
            have e12 : u 12 = undef := E.out 12 (hd 12 (List.elem_iff.1 (by kernel_rfl)))
            simp only [List.setIfInBounds_toArray, List.set_cons_zero, List.set_cons_succ, e12]
            refine ite_skip (fun h => Bool.false_ne_true h) ?_
            clear hL hd
            go_simp
            refine hK _ _ ⟨withVal (withVal u 12 (undef)) 21 (undef), ?_, HI, withVal_next (withVal_same E 12 _ rfl) 21 _ rfl⟩
            kernel_rfl
          case o22 =>
            rintro L a' W ⟨u, rfl, HI, E⟩ hL hd K hK
            have e12 : u 12 = undef := E.out 12 (hd 12 (List.elem_iff.1 (by kernel_rfl)))
            simp only [List.setIfInBounds_toArray, List.set_cons_zero, List.set_cons_succ, e12]
            refine ite_skip (fun h => Bool.false_ne_true h) ?_
            clear hL hd
            go_simp
            refine hK _ _ ⟨withVal (withVal u 12 (undef)) 22 (undef), ?_, HI, withVal_next (withVal_same E 12 _ rfl) 22 _ rfl⟩
            kernel_rfl
          case o23 =>
            rintro L a' W ⟨u, rfl, HI, E⟩ hL hd K hK
            have e12 : u 12 = undef := E.out 12 (hd 12 (List.elem_iff.1 (by kernel_rfl)))
            simp only [List.setIfInBounds_toArray, List.set_cons_zero, List.set_cons_succ, e12]
            refine ite_skip (fun h => Bool.false_ne_true h) ?_
            clear hL hd
            go_simp
            refine hK _ _ ⟨withVal (withVal u 12 (undef)) 23 (undef), ?_, HI, withVal_next (withVal_same E 12 _ rfl) 23 _ rfl⟩
            kernel_rfl
          case o24 =>
            rintro L a' W ⟨u, rfl, HI, E⟩ hL hd K hK
            have e12 : u 12 = undef := E.out 12 (hd 12 (List.elem_iff.1 (by kernel_rfl)))
            simp only [List.setIfInBounds_toArray, List.set_cons_zero, List.set_cons_succ, e12]
            refine ite_skip (fun h => Bool.false_ne_true h) ?_
            clear hL hd
            go_simp
            refine hK _ _ ⟨withVal (withVal u 12 (undef)) 24 (undef), ?_, HI, withVal_next (withVal_same E 12 _ rfl) 24 _ rfl⟩
            kernel_rfl
          case o25 =>
            rintro L a' W ⟨u, rfl, HI, E⟩ hL hd K hK
            have e12 : u 12 = undef := E.out 12 (hd 12 (List.elem_iff.1 (by kernel_rfl)))
            simp only [List.setIfInBounds_toArray, List.set_cons_zero, List.set_cons_succ, e12]
            refine ite_skip (fun h => Bool.false_ne_true h) ?_
            clear hL hd
            go_simp
            refine hK _ _ ⟨withVal (withVal u 12 (undef)) 25 (undef), ?_, HI, withVal_next (withVal_same E 12 _ rfl) 25 _ rfl⟩
            kernel_rfl
          case o26 =>
            rintro L a' W ⟨u, rfl, HI, E⟩ hL hd K hK
            have e12 : u 12 = undef := E.out 12 (hd 12 (List.elem_iff.1 (by kernel_rfl)))
            simp only [List.setIfInBounds_toArray, List.set_cons_zero, List.set_cons_succ, e12]
            refine ite_skip (fun h => Bool.false_ne_true h) ?_
            clear hL hd
            go_simp
            refine hK _ _ ⟨withVal (withVal u 12 (undef)) 26 (undef), ?_, HI, withVal_next (withVal_same E 12 _ rfl) 26 _ rfl⟩
            kernel_rfl
          case o27 =>
            rintro L a' W ⟨u, rfl, HI, E⟩ hL hd K hK
            have e2 : u 2 = .bool true := E.out 2 (hd 2 (List.elem_iff.1 (by kernel_rfl)))
            simp only [List.setIfInBounds_toArray, List.set_cons_zero, List.set_cons_succ, e2]
            refine ite_skip (fun h => Bool.false_ne_true h) ?_
            clear hL hd
            go_simp
            refine hK _ _ ⟨withVal (withVal u 2 (.bool true)) 27 (undef), ?_, HI, withVal_next (withVal_same E 2 _ rfl) 27 _ rfl⟩
            kernel_rfl
          case o28 =>
            rintro L a' W ⟨u, rfl, HI, E⟩ hL hd K hK
            have e2 : u 2 = .bool true := E.out 2 (hd 2 (List.elem_iff.1 (by kernel_rfl)))
            have e27 : u 27 = undef := E.out 27 (hd 27 (List.elem_iff.1 (by kernel_rfl)))
            simp only [List.setIfInBounds_toArray, List.set_cons_zero, List.set_cons_succ, e2, e27]
            refine ite_take rfl ?_
            clear hL hd
            go_simp
            refine hK _ _ ⟨withVal (withVal (withVal u 2 (.bool true)) 27 (undef)) 28 (.bool true), ?_, HI, withVal_next (withVal_same (withVal_same E 2 _ rfl) 27 _ rfl) 28 _ rfl⟩
            kernel_rfl
          case o29 =>
            rintro L a' W ⟨u, rfl, HI, E⟩ hL hd K hK
            have e28 : u 28 = .bool true := E.out 28 (hd 28 (List.elem_iff.1 (by kernel_rfl)))
            simp only [List.setIfInBounds_toArray, List.set_cons_zero, List.set_cons_succ, e28]
            refine ite_take rfl ?_
            clear hL hd
            go_simp
            refine hK _ _ ⟨withVal (withVal u 28 (.bool true)) 29 (.bool true), ?_, HI, withVal_next (withVal_same E 28 _ rfl) 29 _ rfl⟩
            kernel_rfl
        case hdone =>
          rintro L a' W1 hall ⟨u, rfl, HI, E⟩
          have e0 : u 0 = .pointer (some ⟨w.heap.size, 4, none⟩) := E.out 0 (hall 0 (by decide))
          have e1 : u 1 = .bool true := E.out 1 (hall 1 (by decide))
          have e2 : u 2 = .bool true := E.out 2 (hall 2 (by decide))
          have e3 : u 3 = undef := E.out 3 (hall 3 (by decide))
          have e4 : u 4 = undef := E.out 4 (hall 4 (by decide))
          have e5 : u 5 = undef := E.out 5 (hall 5 (by decide))
          have e6 : u 6 = undef := E.out 6 (hall 6 (by decide))
          have e7 : u 7 = undef := E.out 7 (hall 7 (by decide))
          have e8 : u 8 = undef := E.out 8 (hall 8 (by decide))
          have e9 : u 9 = undef := E.out 9 (hall 9 (by decide))
          have e10 : u 10 = undef := E.out 10 (hall 10 (by decide))
          have e11 : u 11 = undef := E.out 11 (hall 11 (by decide))
          have e12 : u 12 = undef := E.out 12 (hall 12 (by decide))
          have e13 : u 13 = undef := E.out 13 (hall 13 (by decide))
          have e14 : u 14 = undef := E.out 14 (hall 14 (by decide))
          have e15 : u 15 = undef := E.out 15 (hall 15 (by decide))
          have e16 : u 16 = undef := E.out 16 (hall 16 (by decide))
          have e17 : u 17 = undef := E.out 17 (hall 17 (by decide))
          have e18 : u 18 = undef := E.out 18 (hall 18 (by decide))
          have e19 : u 19 = undef := E.out 19 (hall 19 (by decide))
          have e20 : u 20 = undef := E.out 20 (hall 20 (by decide))
          have e21 : u 21 = undef := E.out 21 (hall 21 (by decide))
          have e22 : u 22 = undef := E.out 22 (hall 22 (by decide))
          have e23 : u 23 = undef := E.out 23 (hall 23 (by decide))
          have e24 : u 24 = undef := E.out 24 (hall 24 (by decide))
          have e25 : u 25 = undef := E.out 25 (hall 25 (by decide))
          have e26 : u 26 = undef := E.out 26 (hall 26 (by decide))
          have e27 : u 27 = undef := E.out 27 (hall 27 (by decide))
          have e28 : u 28 = .bool true := E.out 28 (hall 28 (by decide))
          have e29 : u 29 = .bool true := E.out 29 (hall 29 (by decide))
          simp only [List.setIfInBounds_toArray, List.set_cons_zero, List.set_cons_succ, e0, e1, e2, e3, e4, e5, e6, e7, e8, e9, e10, e11, e12, e13, e14, e15, e16, e17, e18, e19, e20, e21, e22, e23, e24, e25, e26, e27, e28, e29]
          clear hall E
          go_wp2_with fail
          go_ret
          exact ⟨rfl, HB5.out.trans (HI.out.mono HB5.out.size)⟩
    · obtain ⟨hx1, hx2⟩ := X1.out rfl
      clear X1 X2
      go_enter Tryz.func4, Tryz.ntmps4
      go_wp2_with fail
      refine HF.out.mono ?_
      rintro e w1 ⟨rfl, hb1⟩
      have hsp : SpAt w1 w.heap.size #[.bool true, .bool p, .bool bl, .bool al, .bool z, .int .i64 wd, .int .i64 pr, .int .u8 VB] := SpAt.next HQ0.out hb1
      have HB1 := Lib.hid (HB0.out.trans (hb1.mono (by simp)))
      have HSp := Lib.hid hsp
      have q0 : w1.cell? ⟨w.heap.size, 0, none⟩ = some (.bool true) := hsp.cell 0
      have q1 : w1.cell? ⟨w.heap.size, 1, none⟩ = some (.bool p) := hsp.cell 1
      have q2 : w1.cell? ⟨w.heap.size, 2, none⟩ = some (.bool bl) := hsp.cell 2
      have q3 : w1.cell? ⟨w.heap.size, 3, none⟩ = some (.bool al) := hsp.cell 3
      have q4 : w1.cell? ⟨w.heap.size, 4, none⟩ = some (.bool z) := hsp.cell 4
      have q5 : w1.cell? ⟨w.heap.size, 5, none⟩ = some (.int .i64 wd) := hsp.cell 5
      have q6 : w1.cell? ⟨w.heap.size, 6, none⟩ = some (.int .i64 pr) := hsp.cell 6
      have q7 : w1.cell? ⟨w.heap.size, 7, none⟩ = some (.int .u8 VB) := hsp.cell 7
      clear hb1 hsp
      go_wp2_with fail
      refine (HN1.out _ (HPw.out.below HB1.out)).mono ?_
      rintro e w3 ⟨rfl, hb3⟩
      have hs3 := HSp.out.next hb3
      have HB3 := Lib.hid (HB1.out.trans (hb3.mono HB1.out.size))
      have hlt3 : w.heap.size < w3.heap.size := lt_of_heap hs3
      have HS3 := Lib.hid hs3
      clear q0 q1 q2 q3 q4 q5 q6 q7
      have q0 : w3.cell? ⟨w.heap.size, 0, none⟩ = some (.bool true) := hs3.cell 0
      have q1 : w3.cell? ⟨w.heap.size, 1, none⟩ = some (.bool p) := hs3.cell 1
      have q2 : w3.cell? ⟨w.heap.size, 2, none⟩ = some (.bool bl) := hs3.cell 2
      have q3 : w3.cell? ⟨w.heap.size, 3, none⟩ = some (.bool al) := hs3.cell 3
      have q4 : w3.cell? ⟨w.heap.size, 4, none⟩ = some (.bool z) := hs3.cell 4
      have q5 : w3.cell? ⟨w.heap.size, 5, none⟩ = some (.int .i64 wd) := hs3.cell 5
      have q6 : w3.cell? ⟨w.heap.size, 6, none⟩ = some (.int .i64 pr) := hs3.cell 6
      have q7 : w3.cell? ⟨w.heap.size, 7, none⟩ = some (.int .u8 VB) := hs3.cell 7
      clear hb3 hs3
      go_wp2_with fail
      have hal4 := (Below.refl w3.heap.size w3).alloc (Nat.le_refl _) (.cells #[.bool true, .bool p, .bool bl, .bool al, .bool z, .int .i64 0, .int .i64 pr, .int .u8 VB] 35)
      have HB4 := Lib.hid (HB3.out.alloc HB3.out.size (.cells #[.bool true, .bool p, .bool bl, .bool al, .bool z, .int .i64 0, .int .i64 pr, .int .u8 VB] 35))
      have hp4 : SpAt (w3.alloc (.cells #[.bool true, .bool p, .bool bl, .bool al, .bool z, .int .i64 0, .int .i64 pr, .int .u8 VB] 35)) w.heap.size #[.bool true, .bool p, .bool bl, .bool al, .bool z, .int .i64 wd, .int .i64 pr, .int .u8 VB] := SpAt.next HS3.out hal4
      clear q0 q1 q2 q3 q4 q5 q6 q7 HS3 hal4
      refine (HN2.out _ (HPw.out.below HB4.out)).mono ?_
      rintro e w5 ⟨rfl, hb5⟩
      have hp5 := hp4.next hb5
      have HB5 := Lib.hid (HB4.out.trans (hb5.mono HB4.out.size))
      have q0 : w5.cell? ⟨w.heap.size, 0, none⟩ = some (.bool true) := hp5.cell 0
      have q1 : w5.cell? ⟨w.heap.size, 1, none⟩ = some (.bool p) := hp5.cell 1
      have q2 : w5.cell? ⟨w.heap.size, 2, none⟩ = some (.bool bl) := hp5.cell 2
      have q3 : w5.cell? ⟨w.heap.size, 3, none⟩ = some (.bool al) := hp5.cell 3
      have q4 : w5.cell? ⟨w.heap.size, 4, none⟩ = some (.bool z) := hp5.cell 4
      have q5 : w5.cell? ⟨w.heap.size, 5, none⟩ = some (.int .i64 wd) := hp5.cell 5
      have q6 : w5.cell? ⟨w.heap.size, 6, none⟩ = some (.int .i64 pr) := hp5.cell 6
      have q7 : w5.cell? ⟨w.heap.size, 7, none⟩ = some (.int .u8 VB) := hp5.cell 7
      clear hb5 hp4 hp5
      go_wp2_with fail
      rw [← hx2] at HBl
      refine (HSu.out _).mono ?_
      rintro e w6 ⟨rfl, hb6⟩
      have HB6 := Lib.hid (HB5.out.trans (hb6.mono HB5.out.size))
      clear hb6
      go_wp2_with fail
      refine (HBl.out _).mono ?_
      rintro e w7 ⟨rfl, hb7⟩
      have HB7 := Lib.hid (HB6.out.trans (hb7.mono HB6.out.size))
      clear hb7
      go_wp2_with fail
      go_ret
      exact ⟨by simp, HB7.out⟩
  · obtain ⟨n1, n2⟩ := numO_none (m := m) (p := p) (bl := bl) (al := al) (z := z) (b := b) hk
    rw [n1, n2] at HN1
    clear hT hb0 hk n1 n2 hq0 hVB hb hvb
    go_enter Tryz.func4, Tryz.ntmps4
    go_wp2_with fail
    refine HF.out.mono ?_
    rintro e w1 ⟨rfl, hb1⟩
    have hsp : SpAt w1 w.heap.size #[.bool m, .bool p, .bool bl, .bool al, .bool z, .int .i64 wd, .int .i64 pr, .int .u8 VB] := SpAt.next HQ0.out hb1
    have HB1 := Lib.hid (HB0.out.trans (hb1.mono (by simp)))
    have HSp := Lib.hid hsp
    have q0 : w1.cell? ⟨w.heap.size, 0, none⟩ = some (.bool m) := hsp.cell 0
    have q1 : w1.cell? ⟨w.heap.size, 1, none⟩ = some (.bool p) := hsp.cell 1
    have q2 : w1.cell? ⟨w.heap.size, 2, none⟩ = some (.bool bl) := hsp.cell 2
    have q3 : w1.cell? ⟨w.heap.size, 3, none⟩ = some (.bool al) := hsp.cell 3
    have q4 : w1.cell? ⟨w.heap.size, 4, none⟩ = some (.bool z) := hsp.cell 4
    have q5 : w1.cell? ⟨w.heap.size, 5, none⟩ = some (.int .i64 wd) := hsp.cell 5
    have q6 : w1.cell? ⟨w.heap.size, 6, none⟩ = some (.int .i64 pr) := hsp.cell 6
    have q7 : w1.cell? ⟨w.heap.size, 7, none⟩ = some (.int .u8 VB) := hsp.cell 7
    clear hb1 hsp
    go_wp2_with fail
    refine (HN1.out _ (HPw.out.below HB1.out)).mono ?_
    rintro e w3 ⟨rfl, hb3⟩
    have hs3 := HSp.out.next hb3
    have HB3 := Lib.hid (HB1.out.trans (hb3.mono HB1.out.size))
    have hlt3 : w.heap.size < w3.heap.size := lt_of_heap hs3
    have HS3 := Lib.hid hs3
    clear q0 q1 q2 q3 q4 q5 q6 q7
    have q0 : w3.cell? ⟨w.heap.size, 0, none⟩ = some (.bool m) := hs3.cell 0
    have q1 : w3.cell? ⟨w.heap.size, 1, none⟩ = some (.bool p) := hs3.cell 1
    have q2 : w3.cell? ⟨w.heap.size, 2, none⟩ = some (.bool bl) := hs3.cell 2
    have q3 : w3.cell? ⟨w.heap.size, 3, none⟩ = some (.bool al) := hs3.cell 3
    have q4 : w3.cell? ⟨w.heap.size, 4, none⟩ = some (.bool z) := hs3.cell 4
    have q5 : w3.cell? ⟨w.heap.size, 5, none⟩ = some (.int .i64 wd) := hs3.cell 5
    have q6 : w3.cell? ⟨w.heap.size, 6, none⟩ = some (.int .i64 pr) := hs3.cell 6
    have q7 : w3.cell? ⟨w.heap.size, 7, none⟩ = some (.int .u8 VB) := hs3.cell 7
    clear hb3 hs3
    go_wp2_with fail
    go_ret
    exact ⟨rfl, HB3.out⟩
theorem wide5_law (m p bl al z : Bool) (wd pr : Int) (vb b : Nat) (w : World) (hT : Tabs5 w) (hvb : vb < 256) (hb : b < 18446744073709551616) :
    Calls Tryz.prog 4 #[.agg (specA m p bl al z wd pr vb), .int .u64 (b : Nat)] w fun e w' => e = .returned (.bool true) ∧ Below w.heap.size w w' := wide5_any b m p bl al z wd pr vb w hT hb hvb
end Go.Proofs.YtfdnhkjeoeffoaaGreatDoor
