/- What a law wants besides of the texts that are merged (C). -/
import Derived.Test.YtfdnhkjeoeffoaaGreatDoorZ3
set_option linter.unusedVariables false
set_option linter.unusedSimpArgs false
section
namespace Go.Proofs.YtfdnhkjeoeffoaaGreatDoor
open Go.RowKit
set_option linter.unusedVariables false
set_option maxHeartbeats 8000000 in
set_option maxRecDepth 1000000 in
theorem float_70 (m p bl al z : Bool) (wd pr : Int) (b : Nat) (w : World) (hb : b < 18446744073709551616) (hf : fin b = true) (hp1 : -1 ≤ pr) (hp2 : pr ≤ 190) (hw : 0 ≤ wd) (hw2 : wd ≤ 1024) (hT : PowOk w) :
 Calls Tryz.prog 73 #[.agg (specA m p bl al z wd pr 70), .float .f64 b] w fun e w' => e = .returned (.string (floatO m p bl al z wd pr 70 b)) ∧ Below w.heap.size w w' := by
 have HT := Lib.hid hT
 have HSg := Lib.hid (fun W => sign_any m p bl al z (decide (9223372036854775808 ≤ b)) wd pr 70 W)
 obtain ⟨sg, hsg⟩ : ∃ sg : ByteArray, sg = ⟨(signL p bl (decide (9223372036854775808 ≤ b))).toArray⟩ := ⟨_, rfl⟩
 have hsl := signL_size5 p bl (decide (9223372036854775808 ≤ b))
 have hsa := signL_asc p bl (decide (9223372036854775808 ≤ b))
 have hsg1 : sg.size ≤ 1 := by rw [sz_list, hsg]; exact hsl
 have hsgl : sg.data.toList = signL p bl (decide (9223372036854775808 ≤ b)) := by rw [hsg]
 rw [← hsg] at HSg
 obtain ⟨q, hq⟩ : ∃ q, q = precF pr := ⟨_, rfl⟩
 have hq190 := precF_le hp2
 rw [← hq] at hq190
 have hbo := bodyF_ok al 70 hb hf hq190 hT
 have hFO : floatO m p bl al z wd pr 70 b = ⟨(Lib.toUpperA (padO m p bl al z wd pr 70 b)).toArray⟩ := rfl
 rw [hFO]
 unfold padO
 rw [← hq, ← hsgl]
 rw [← hsgl] at hsa
 obtain ⟨fx, hfx⟩ : ∃ fx, fx = bodyF al 70 q b := ⟨_, rfl⟩
 rw [← hfx] at hbo ⊢
 have hPd0 : ∀ W, _ := fun W => padded_any m p bl al z z wd pr 70 sg fx W hw hw2 (by omega) (by omega)
 have HPd := Lib.hid hPd0
 clear hPd0
 have hoa := padL_asc (m := m) (z := z) (wd := wd) hsa hbo.1
 have hol := padL_size5 (m := m) (z := z) (h := sg.data.toList) (s := fx.data.toList) hw2
 rw [← sz_list, ← sz_list] at hol
 generalize padL m z wd sg.data.toList fx.data.toList = out at *
 have HUp := Lib.hid (fun W => Tryz.strings_ToUpper_ascii ⟨out.toArray⟩ W (by rw [sz_list]; show out.length ≤ _; omega) (fun j c hj => hoa c (List.mem_of_getElem? hj)))
 have hsh : (((b : Int) / 9223372036854775808) == 1) = decide (9223372036854775808 ≤ b) := by
  by_cases h9 : 9223372036854775808 ≤ b
  ·rw [decide_eq_true h9, beq_iff_eq]; omega
  ·rw [decide_eq_false h9, beq_eq_false_iff_ne]; omega
 clear hoa hol hsl hsa hsgl hsg hFO hT
 have hfs := hbo.2
 clear hbo
 rcases Int.lt_or_le pr 0 with hn | hn
 ·have hd : decide (pr < 0) = true := by simp; omega
  obtain rfl : q = 6 := by rw [hq]; unfold precF; rw [if_pos hn]
  clear hq hn hq190
  have HFx := Lib.hid (fun W => Fixed_det b 6 W hb hf (by omega))
  generalize decide (9223372036854775808 ≤ b) = ng at *
  unfold specA at HSg HPd ⊢
  cases al
  ·obtain rfl : fx = ⟨(fixT b 6).toArray⟩ := by rw [hfx]; unfold bodyF; rw [if_pos (by decide), if_neg (fun h => by cases h.1)]
   clear hfx
   go_enter Tryz.func73, Tryz.ntmps73
   go_wp2_with fail
   refine (HFx.out _).mono ?_
   rintro e w1 ⟨rfl, hb1⟩
   have HB1 := Lib.hid (((Below.refl w.heap.size w).alloc (Nat.le_refl _) (.cells #[.bool m, .bool p, .bool bl, .bool false, .bool z, .int .i64 wd, .int .i64 pr, .int .u8 70] 35)).trans (hb1.mono (by simp)))
   have hsp : SpAt w1 w.heap.size #[.bool m, .bool p, .bool bl, .bool false, .bool z, .int .i64 wd, .int .i64 pr, .int .u8 70] := SpAt.next (heap_alloc_at w _) hb1
   have k0 : w1.cell? ⟨w.heap.size, 0, none⟩ = some (.bool m) := hsp.cell 0
   have k1 : w1.cell? ⟨w.heap.size, 1, none⟩ = some (.bool p) := hsp.cell 1
   have k2 : w1.cell? ⟨w.heap.size, 2, none⟩ = some (.bool bl) := hsp.cell 2
   have k3 : w1.cell? ⟨w.heap.size, 3, none⟩ = some (.bool false) := hsp.cell 3
   have k4 : w1.cell? ⟨w.heap.size, 4, none⟩ = some (.bool z) := hsp.cell 4
   have k5 : w1.cell? ⟨w.heap.size, 5, none⟩ = some (.int .i64 wd) := hsp.cell 5
   have k6 : w1.cell? ⟨w.heap.size, 6, none⟩ = some (.int .i64 pr) := hsp.cell 6
   have k7 : w1.cell? ⟨w.heap.size, 7, none⟩ = some (.int .u8 70) := hsp.cell 7
   clear hb1 hsp
   go_wp2_with fail
   go_region_held3 (fun w' => w'.cell? ⟨w.heap.size, 0, none⟩ = some (.bool m) ∧ w'.cell? ⟨w.heap.size, 1, none⟩ = some (.bool p) ∧ w'.cell? ⟨w.heap.size, 2, none⟩ = some (.bool bl) ∧ w'.cell? ⟨w.heap.size, 3, none⟩ = some (.bool false) ∧ w'.cell? ⟨w.heap.size, 4, none⟩ = some (.bool z) ∧ w'.cell? ⟨w.heap.size, 5, none⟩ = some (.int .i64 wd) ∧ w'.cell? ⟨w.heap.size, 6, none⟩ = some (.int .i64 pr) ∧ w'.cell? ⟨w.heap.size, 7, none⟩ = some (.int .u8 70)) (first | exact ⟨k0, k1, k2, k3, k4, k5, k6, k7⟩ | exact ⟨j0, j1, j2, j3, j4, j5, j6, j7⟩)
    (first
     | (go_at_call 128; refine (HSg.out _).mono ?_; rintro e w2 ⟨rfl, hb2⟩; have j0 := cell_next hb2 k0; have j1 := cell_next hb2 k1; have j2 := cell_next hb2 k2; have j3 := cell_next hb2 k3; have j4 := cell_next hb2 k4; have j5 := cell_next hb2 k5; have j6 := cell_next hb2 k6; have j7 := cell_next hb2 k7; have HB2 := Lib.hid (below_next (Nat.le_refl _) HB1.out hb2 (by first | exact .inl rfl | exact .inr rfl)))
     | (go_at_call 70; refine (HPd.out _).mono ?_; rintro e w3 ⟨rfl, hb3⟩; have j0 := cell_next hb3 j0; have j1 := cell_next hb3 j1; have j2 := cell_next hb3 j2; have j3 := cell_next hb3 j3; have j4 := cell_next hb3 j4; have j5 := cell_next hb3 j5; have j6 := cell_next hb3 j6; have j7 := cell_next hb3 j7; have HB3 := Lib.hid (below_next (Nat.le_refl _) HB2.out hb3 (by first | exact .inl rfl | exact .inr rfl))))
   all_goals go_wp2_with fail
   all_goals refine (HUp.out _).mono ?_
   all_goals rintro e w4 ⟨rfl, hb4⟩
   all_goals have HB4 := Lib.hid (HB3.out.trans (hb4.mono HB3.out.size))
   all_goals clear hb4
   all_goals go_wp2_with fail
   all_goals go_ret
   all_goals exact ⟨rfl, HB4.out⟩
  ·obtain rfl : fx = ⟨(fixT b 6).toArray⟩ := by rw [hfx]; unfold bodyF; rw [if_pos (by decide), if_neg (fun h => by cases h.2)]
   clear hfx
   go_enter Tryz.func73, Tryz.ntmps73
   go_wp2_with fail
   refine (HFx.out _).mono ?_
   rintro e w1 ⟨rfl, hb1⟩
   have HB1 := Lib.hid (((Below.refl w.heap.size w).alloc (Nat.le_refl _) (.cells #[.bool m, .bool p, .bool bl, .bool true, .bool z, .int .i64 wd, .int .i64 pr, .int .u8 70] 35)).trans (hb1.mono (by simp)))
   have hsp : SpAt w1 w.heap.size #[.bool m, .bool p, .bool bl, .bool true, .bool z, .int .i64 wd, .int .i64 pr, .int .u8 70] := SpAt.next (heap_alloc_at w _) hb1
   have k0 : w1.cell? ⟨w.heap.size, 0, none⟩ = some (.bool m) := hsp.cell 0
   have k1 : w1.cell? ⟨w.heap.size, 1, none⟩ = some (.bool p) := hsp.cell 1
   have k2 : w1.cell? ⟨w.heap.size, 2, none⟩ = some (.bool bl) := hsp.cell 2
   have k3 : w1.cell? ⟨w.heap.size, 3, none⟩ = some (.bool true) := hsp.cell 3
   have k4 : w1.cell? ⟨w.heap.size, 4, none⟩ = some (.bool z) := hsp.cell 4
   have k5 : w1.cell? ⟨w.heap.size, 5, none⟩ = some (.int .i64 wd) := hsp.cell 5
   have k6 : w1.cell? ⟨w.heap.size, 6, none⟩ = some (.int .i64 pr) := hsp.cell 6
   have k7 : w1.cell? ⟨w.heap.size, 7, none⟩ = some (.int .u8 70) := hsp.cell 7
   clear hb1 hsp
   go_wp2_with fail
   go_region_held3 (fun w' => w'.cell? ⟨w.heap.size, 0, none⟩ = some (.bool m) ∧ w'.cell? ⟨w.heap.size, 1, none⟩ = some (.bool p) ∧ w'.cell? ⟨w.heap.size, 2, none⟩ = some (.bool bl) ∧ w'.cell? ⟨w.heap.size, 3, none⟩ = some (.bool true) ∧ w'.cell? ⟨w.heap.size, 4, none⟩ = some (.bool z) ∧ w'.cell? ⟨w.heap.size, 5, none⟩ = some (.int .i64 wd) ∧ w'.cell? ⟨w.heap.size, 6, none⟩ = some (.int .i64 pr) ∧ w'.cell? ⟨w.heap.size, 7, none⟩ = some (.int .u8 70)) (first | exact ⟨k0, k1, k2, k3, k4, k5, k6, k7⟩ | exact ⟨j0, j1, j2, j3, j4, j5, j6, j7⟩)
    (first
     | (go_at_call 128; refine (HSg.out _).mono ?_; rintro e w2 ⟨rfl, hb2⟩; have j0 := cell_next hb2 k0; have j1 := cell_next hb2 k1; have j2 := cell_next hb2 k2; have j3 := cell_next hb2 k3; have j4 := cell_next hb2 k4; have j5 := cell_next hb2 k5; have j6 := cell_next hb2 k6; have j7 := cell_next hb2 k7; have HB2 := Lib.hid (below_next (Nat.le_refl _) HB1.out hb2 (by first | exact .inl rfl | exact .inr rfl)))
     | (go_at_call 70; refine (HPd.out _).mono ?_; rintro e w3 ⟨rfl, hb3⟩; have j0 := cell_next hb3 j0; have j1 := cell_next hb3 j1; have j2 := cell_next hb3 j2; have j3 := cell_next hb3 j3; have j4 := cell_next hb3 j4; have j5 := cell_next hb3 j5; have j6 := cell_next hb3 j6; have j7 := cell_next hb3 j7; have HB3 := Lib.hid (below_next (Nat.le_refl _) HB2.out hb3 (by first | exact .inl rfl | exact .inr rfl))))
   all_goals go_wp2_with fail
   all_goals refine (HUp.out _).mono ?_
   all_goals rintro e w4 ⟨rfl, hb4⟩
   all_goals have HB4 := Lib.hid (HB3.out.trans (hb4.mono HB3.out.size))
   all_goals clear hb4
   all_goals go_wp2_with fail
   all_goals go_ret
   all_goals exact ⟨rfl, HB4.out⟩
 ·obtain ⟨q', rfl⟩ : ∃ q' : Nat, pr = (q' : Int) := ⟨pr.toNat, by omega⟩
  obtain rfl : q = q' := by rw [hq]; unfold precF; rw [if_neg (by omega)]; exact Int.toNat_natCast _
  have hd : decide ((q : Int) < 0) = false := by simp
  have hqI : (q : Int) ≤ 190 := by omega
  clear hq hn
  have HFx := Lib.hid (fun W => Fixed_det b q W hb hf (by omega))
  generalize decide (9223372036854775808 ≤ b) = ng at *
  unfold specA at HSg HPd ⊢
  cases al
  ·obtain rfl : fx = ⟨(fixT b q).toArray⟩ := by rw [hfx]; unfold bodyF; rw [if_pos (by decide), if_neg (fun h => by cases h.1)]
   clear hfx
   go_enter Tryz.func73, Tryz.ntmps73
   go_wp2_with fail
   refine (HFx.out _).mono ?_
   rintro e w1 ⟨rfl, hb1⟩
   have HB1 := Lib.hid (((Below.refl w.heap.size w).alloc (Nat.le_refl _) (.cells #[.bool m, .bool p, .bool bl, .bool false, .bool z, .int .i64 wd, .int .i64 (q : Int), .int .u8 70] 35)).trans (hb1.mono (by simp)))
   have hsp : SpAt w1 w.heap.size #[.bool m, .bool p, .bool bl, .bool false, .bool z, .int .i64 wd, .int .i64 (q : Int), .int .u8 70] := SpAt.next (heap_alloc_at w _) hb1
   have k0 : w1.cell? ⟨w.heap.size, 0, none⟩ = some (.bool m) := hsp.cell 0
   have k1 : w1.cell? ⟨w.heap.size, 1, none⟩ = some (.bool p) := hsp.cell 1
   have k2 : w1.cell? ⟨w.heap.size, 2, none⟩ = some (.bool bl) := hsp.cell 2
   have k3 : w1.cell? ⟨w.heap.size, 3, none⟩ = some (.bool false) := hsp.cell 3
   have k4 : w1.cell? ⟨w.heap.size, 4, none⟩ = some (.bool z) := hsp.cell 4
   have k5 : w1.cell? ⟨w.heap.size, 5, none⟩ = some (.int .i64 wd) := hsp.cell 5
   have k6 : w1.cell? ⟨w.heap.size, 6, none⟩ = some (.int .i64 (q : Int)) := hsp.cell 6
   have k7 : w1.cell? ⟨w.heap.size, 7, none⟩ = some (.int .u8 70) := hsp.cell 7
   clear hb1 hsp
   go_wp2_with fail
   go_region_held3 (fun w' => w'.cell? ⟨w.heap.size, 0, none⟩ = some (.bool m) ∧ w'.cell? ⟨w.heap.size, 1, none⟩ = some (.bool p) ∧ w'.cell? ⟨w.heap.size, 2, none⟩ = some (.bool bl) ∧ w'.cell? ⟨w.heap.size, 3, none⟩ = some (.bool false) ∧ w'.cell? ⟨w.heap.size, 4, none⟩ = some (.bool z) ∧ w'.cell? ⟨w.heap.size, 5, none⟩ = some (.int .i64 wd) ∧ w'.cell? ⟨w.heap.size, 6, none⟩ = some (.int .i64 (q : Int)) ∧ w'.cell? ⟨w.heap.size, 7, none⟩ = some (.int .u8 70)) (first | exact ⟨k0, k1, k2, k3, k4, k5, k6, k7⟩ | exact ⟨j0, j1, j2, j3, j4, j5, j6, j7⟩)
    (first
     | (go_at_call 128; refine (HSg.out _).mono ?_; rintro e w2 ⟨rfl, hb2⟩; have j0 := cell_next hb2 k0; have j1 := cell_next hb2 k1; have j2 := cell_next hb2 k2; have j3 := cell_next hb2 k3; have j4 := cell_next hb2 k4; have j5 := cell_next hb2 k5; have j6 := cell_next hb2 k6; have j7 := cell_next hb2 k7; have HB2 := Lib.hid (below_next (Nat.le_refl _) HB1.out hb2 (by first | exact .inl rfl | exact .inr rfl)))
     | (go_at_call 70; refine (HPd.out _).mono ?_; rintro e w3 ⟨rfl, hb3⟩; have j0 := cell_next hb3 j0; have j1 := cell_next hb3 j1; have j2 := cell_next hb3 j2; have j3 := cell_next hb3 j3; have j4 := cell_next hb3 j4; have j5 := cell_next hb3 j5; have j6 := cell_next hb3 j6; have j7 := cell_next hb3 j7; have HB3 := Lib.hid (below_next (Nat.le_refl _) HB2.out hb3 (by first | exact .inl rfl | exact .inr rfl))))
   all_goals go_wp2_with fail
   all_goals refine (HUp.out _).mono ?_
   all_goals rintro e w4 ⟨rfl, hb4⟩
   all_goals have HB4 := Lib.hid (HB3.out.trans (hb4.mono HB3.out.size))
   all_goals clear hb4
   all_goals go_wp2_with fail
   all_goals go_ret
   all_goals exact ⟨rfl, HB4.out⟩
  ·by_cases h0 : q = 0
   ·subst h0
    have hfe : (⟨(fixT b 0).toArray⟩ : ByteArray) ++ ⟨#[46]⟩ = fx := by rw [hfx]; unfold bodyF; rw [if_pos (by decide), if_pos ⟨rfl, rfl⟩]
    have hxs : (⟨(fixT b 0).toArray⟩ : ByteArray).size ≤ 10000 := by rw [← hfe, ByteArray.size_append] at hfs; omega
    generalize (⟨(fixT b 0).toArray⟩ : ByteArray) = F0 at *
    subst hfe
    clear hfx
    go_enter Tryz.func73, Tryz.ntmps73
    go_wp2_with fail
    refine (HFx.out _).mono ?_
    rintro e w1 ⟨rfl, hb1⟩
    have HB1 := Lib.hid (((Below.refl w.heap.size w).alloc (Nat.le_refl _) (.cells #[.bool m, .bool p, .bool bl, .bool true, .bool z, .int .i64 wd, .int .i64 ((0 : Nat) : Int), .int .u8 70] 35)).trans (hb1.mono (by simp)))
    have hsp : SpAt w1 w.heap.size #[.bool m, .bool p, .bool bl, .bool true, .bool z, .int .i64 wd, .int .i64 ((0 : Nat) : Int), .int .u8 70] := SpAt.next (heap_alloc_at w _) hb1
    have k0 : w1.cell? ⟨w.heap.size, 0, none⟩ = some (.bool m) := hsp.cell 0
    have k1 : w1.cell? ⟨w.heap.size, 1, none⟩ = some (.bool p) := hsp.cell 1
    have k2 : w1.cell? ⟨w.heap.size, 2, none⟩ = some (.bool bl) := hsp.cell 2
    have k3 : w1.cell? ⟨w.heap.size, 3, none⟩ = some (.bool true) := hsp.cell 3
    have k4 : w1.cell? ⟨w.heap.size, 4, none⟩ = some (.bool z) := hsp.cell 4
    have k5 : w1.cell? ⟨w.heap.size, 5, none⟩ = some (.int .i64 wd) := hsp.cell 5
    have k6 : w1.cell? ⟨w.heap.size, 6, none⟩ = some (.int .i64 ((0 : Nat) : Int)) := hsp.cell 6
    have k7 : w1.cell? ⟨w.heap.size, 7, none⟩ = some (.int .u8 70) := hsp.cell 7
    clear hb1 hsp
    go_wp2_with fail
    go_region_held3 (fun w' => w'.cell? ⟨w.heap.size, 0, none⟩ = some (.bool m) ∧ w'.cell? ⟨w.heap.size, 1, none⟩ = some (.bool p) ∧ w'.cell? ⟨w.heap.size, 2, none⟩ = some (.bool bl) ∧ w'.cell? ⟨w.heap.size, 3, none⟩ = some (.bool true) ∧ w'.cell? ⟨w.heap.size, 4, none⟩ = some (.bool z) ∧ w'.cell? ⟨w.heap.size, 5, none⟩ = some (.int .i64 wd) ∧ w'.cell? ⟨w.heap.size, 6, none⟩ = some (.int .i64 ((0 : Nat) : Int)) ∧ w'.cell? ⟨w.heap.size, 7, none⟩ = some (.int .u8 70)) (first | exact ⟨k0, k1, k2, k3, k4, k5, k6, k7⟩ | exact ⟨j0, j1, j2, j3, j4, j5, j6, j7⟩)
     (first
      | (go_at_call 128; refine (HSg.out _).mono ?_; rintro e w2 ⟨rfl, hb2⟩; have j0 := cell_next hb2 k0; have j1 := cell_next hb2 k1; have j2 := cell_next hb2 k2; have j3 := cell_next hb2 k3; have j4 := cell_next hb2 k4; have j5 := cell_next hb2 k5; have j6 := cell_next hb2 k6; have j7 := cell_next hb2 k7; have HB2 := Lib.hid (below_next (Nat.le_refl _) HB1.out hb2 (by first | exact .inl rfl | exact .inr rfl)))
      | (go_at_call 70; refine (HPd.out _).mono ?_; rintro e w3 ⟨rfl, hb3⟩; have j0 := cell_next hb3 j0; have j1 := cell_next hb3 j1; have j2 := cell_next hb3 j2; have j3 := cell_next hb3 j3; have j4 := cell_next hb3 j4; have j5 := cell_next hb3 j5; have j6 := cell_next hb3 j6; have j7 := cell_next hb3 j7; have HB3 := Lib.hid (below_next (Nat.le_refl _) HB2.out hb3 (by first | exact .inl rfl | exact .inr rfl))))
    all_goals go_wp2_with fail
    all_goals refine (HUp.out _).mono ?_
    all_goals rintro e w4 ⟨rfl, hb4⟩
    all_goals have HB4 := Lib.hid (HB3.out.trans (hb4.mono HB3.out.size))
    all_goals clear hb4
    all_goals go_wp2_with fail
    all_goals go_ret
    all_goals exact ⟨rfl, HB4.out⟩
   ·obtain rfl : fx = ⟨(fixT b q).toArray⟩ := by rw [hfx]; unfold bodyF; rw [if_pos (by decide), if_neg (fun h => h0 h.2)]
    have hqb : ((q : Int) == 0) = false := by simp; omega
    clear hfx h0
    go_enter Tryz.func73, Tryz.ntmps73
    go_wp2_with fail
    refine (HFx.out _).mono ?_
    rintro e w1 ⟨rfl, hb1⟩
    have HB1 := Lib.hid (((Below.refl w.heap.size w).alloc (Nat.le_refl _) (.cells #[.bool m, .bool p, .bool bl, .bool true, .bool z, .int .i64 wd, .int .i64 (q : Int), .int .u8 70] 35)).trans (hb1.mono (by simp)))
    have hsp : SpAt w1 w.heap.size #[.bool m, .bool p, .bool bl, .bool true, .bool z, .int .i64 wd, .int .i64 (q : Int), .int .u8 70] := SpAt.next (heap_alloc_at w _) hb1
    have k0 : w1.cell? ⟨w.heap.size, 0, none⟩ = some (.bool m) := hsp.cell 0
    have k1 : w1.cell? ⟨w.heap.size, 1, none⟩ = some (.bool p) := hsp.cell 1
    have k2 : w1.cell? ⟨w.heap.size, 2, none⟩ = some (.bool bl) := hsp.cell 2
    have k3 : w1.cell? ⟨w.heap.size, 3, none⟩ = some (.bool true) := hsp.cell 3
    have k4 : w1.cell? ⟨w.heap.size, 4, none⟩ = some (.bool z) := hsp.cell 4
    have k5 : w1.cell? ⟨w.heap.size, 5, none⟩ = some (.int .i64 wd) := hsp.cell 5
    have k6 : w1.cell? ⟨w.heap.size, 6, none⟩ = some (.int .i64 (q : Int)) := hsp.cell 6
    have k7 : w1.cell? ⟨w.heap.size, 7, none⟩ = some (.int .u8 70) := hsp.cell 7
    clear hb1 hsp
    go_wp2_with fail
    go_region_held3 (fun w' => w'.cell? ⟨w.heap.size, 0, none⟩ = some (.bool m) ∧ w'.cell? ⟨w.heap.size, 1, none⟩ = some (.bool p) ∧ w'.cell? ⟨w.heap.size, 2, none⟩ = some (.bool bl) ∧ w'.cell? ⟨w.heap.size, 3, none⟩ = some (.bool true) ∧ w'.cell? ⟨w.heap.size, 4, none⟩ = some (.bool z) ∧ w'.cell? ⟨w.heap.size, 5, none⟩ = some (.int .i64 wd) ∧ w'.cell? ⟨w.heap.size, 6, none⟩ = some (.int .i64 (q : Int)) ∧ w'.cell? ⟨w.heap.size, 7, none⟩ = some (.int .u8 70)) (first | exact ⟨k0, k1, k2, k3, k4, k5, k6, k7⟩ | exact ⟨j0, j1, j2, j3, j4, j5, j6, j7⟩)
     (first
      | (go_at_call 128; refine (HSg.out _).mono ?_; rintro e w2 ⟨rfl, hb2⟩; have j0 := cell_next hb2 k0; have j1 := cell_next hb2 k1; have j2 := cell_next hb2 k2; have j3 := cell_next hb2 k3; have j4 := cell_next hb2 k4; have j5 := cell_next hb2 k5; have j6 := cell_next hb2 k6; have j7 := cell_next hb2 k7; have HB2 := Lib.hid (below_next (Nat.le_refl _) HB1.out hb2 (by first | exact .inl rfl | exact .inr rfl)))
      | (go_at_call 70; refine (HPd.out _).mono ?_; rintro e w3 ⟨rfl, hb3⟩; have j0 := cell_next hb3 j0; have j1 := cell_next hb3 j1; have j2 := cell_next hb3 j2; have j3 := cell_next hb3 j3; have j4 := cell_next hb3 j4; have j5 := cell_next hb3 j5; have j6 := cell_next hb3 j6; have j7 := cell_next hb3 j7; have HB3 := Lib.hid (below_next (Nat.le_refl _) HB2.out hb3 (by first | exact .inl rfl | exact .inr rfl))))
    all_goals go_wp2_with fail
    all_goals refine (HUp.out _).mono ?_
    all_goals rintro e w4 ⟨rfl, hb4⟩
    all_goals have HB4 := Lib.hid (HB3.out.trans (hb4.mono HB3.out.size))
    all_goals clear hb4
    all_goals go_wp2_with fail
    all_goals go_ret
    all_goals exact ⟨rfl, HB4.out⟩
set_option maxHeartbeats 8000000 in
set_option maxRecDepth 1000000 in
theorem float_101 (m p bl al z : Bool) (wd pr : Int) (b : Nat) (w : World) (hb : b < 18446744073709551616) (hf : fin b = true) (hp1 : -1 ≤ pr) (hp2 : pr ≤ 190) (hw : 0 ≤ wd) (hw2 : wd ≤ 1024) (hT : PowOk w) :
 Calls Tryz.prog 73 #[.agg (specA m p bl al z wd pr 101), .float .f64 b] w fun e w' => e = .returned (.string (floatO m p bl al z wd pr 101 b)) ∧ Below w.heap.size w w' := by
 have HT := Lib.hid hT
 have HSg := Lib.hid (fun W => sign_any m p bl al z (decide (9223372036854775808 ≤ b)) wd pr 101 W)
 obtain ⟨sg, hsg⟩ : ∃ sg : ByteArray, sg = ⟨(signL p bl (decide (9223372036854775808 ≤ b))).toArray⟩ := ⟨_, rfl⟩
 have hsl := signL_size5 p bl (decide (9223372036854775808 ≤ b))
 have hsa := signL_asc p bl (decide (9223372036854775808 ≤ b))
 have hsg1 : sg.size ≤ 1 := by rw [sz_list, hsg]; exact hsl
 have hsgl : sg.data.toList = signL p bl (decide (9223372036854775808 ≤ b)) := by rw [hsg]
 rw [← hsg] at HSg
 obtain ⟨q, hq⟩ : ∃ q, q = precF pr := ⟨_, rfl⟩
 have hq190 := precF_le hp2
 rw [← hq] at hq190
 have hbo := bodyF_ok al 101 hb hf hq190 hT
 have hFO : floatO m p bl al z wd pr 101 b = ⟨(padO m p bl al z wd pr 101 b).toArray⟩ := rfl
 rw [hFO]
 unfold padO
 rw [← hq, ← hsgl]
 rw [← hsgl] at hsa
 obtain ⟨fx, hfx⟩ : ∃ fx, fx = bodyF al 101 q b := ⟨_, rfl⟩
 rw [← hfx] at hbo ⊢
 have hPd0 : ∀ W, _ := fun W => padded_any m p bl al z z wd pr 101 sg fx W hw hw2 (by omega) (by omega)
 have HPd := Lib.hid hPd0
 clear hPd0
 have hoa := padL_asc (m := m) (z := z) (wd := wd) hsa hbo.1
 have hol := padL_size5 (m := m) (z := z) (h := sg.data.toList) (s := fx.data.toList) hw2
 rw [← sz_list, ← sz_list] at hol
 generalize padL m z wd sg.data.toList fx.data.toList = out at *
 have hsh : (((b : Int) / 9223372036854775808) == 1) = decide (9223372036854775808 ≤ b) := by
  by_cases h9 : 9223372036854775808 ≤ b
  ·rw [decide_eq_true h9, beq_iff_eq]; omega
  ·rw [decide_eq_false h9, beq_eq_false_iff_ne]; omega
 clear hoa hol hsl hsa hsgl hsg hFO hT
 have hfs := hbo.2
 clear hbo
 rcases Int.lt_or_le pr 0 with hn | hn
 ·have hd : decide (pr < 0) = true := by simp; omega
  obtain rfl : q = 6 := by rw [hq]; unfold precF; rw [if_pos hn]
  clear hq hn hq190
  have hfe : sciO b 6 al = fx := by rw [hfx]; unfold bodyF; rw [if_neg (by decide), if_pos (by decide)]
  have HFx := Lib.hid (fun W h => sci_any b 6 al W hb hf (by omega) h)
  rw [hfe] at HFx
  clear hfe hfx
  generalize decide (9223372036854775808 ≤ b) = ng at *
  unfold specA at HSg HPd ⊢
  go_enter Tryz.func73, Tryz.ntmps73
  go_wp2_with fail
  refine (HFx.out _ (HT.out.below ((Below.refl w.heap.size w).alloc (Nat.le_refl _) _))).mono ?_
  rintro e w1 ⟨rfl, hb1⟩
  have HB1 := Lib.hid (((Below.refl w.heap.size w).alloc (Nat.le_refl _) (.cells #[.bool m, .bool p, .bool bl, .bool al, .bool z, .int .i64 wd, .int .i64 pr, .int .u8 101] 35)).trans (hb1.mono (by simp)))
  have hsp : SpAt w1 w.heap.size #[.bool m, .bool p, .bool bl, .bool al, .bool z, .int .i64 wd, .int .i64 pr, .int .u8 101] := SpAt.next (heap_alloc_at w _) hb1
  have k0 : w1.cell? ⟨w.heap.size, 0, none⟩ = some (.bool m) := hsp.cell 0
  have k1 : w1.cell? ⟨w.heap.size, 1, none⟩ = some (.bool p) := hsp.cell 1
  have k2 : w1.cell? ⟨w.heap.size, 2, none⟩ = some (.bool bl) := hsp.cell 2
  have k3 : w1.cell? ⟨w.heap.size, 3, none⟩ = some (.bool al) := hsp.cell 3
  have k4 : w1.cell? ⟨w.heap.size, 4, none⟩ = some (.bool z) := hsp.cell 4
  have k5 : w1.cell? ⟨w.heap.size, 5, none⟩ = some (.int .i64 wd) := hsp.cell 5
  have k6 : w1.cell? ⟨w.heap.size, 6, none⟩ = some (.int .i64 pr) := hsp.cell 6
  have k7 : w1.cell? ⟨w.heap.size, 7, none⟩ = some (.int .u8 101) := hsp.cell 7
  clear hb1 hsp
  go_wp2_with fail
  go_region_held3 (fun w' => w'.cell? ⟨w.heap.size, 0, none⟩ = some (.bool m) ∧ w'.cell? ⟨w.heap.size, 1, none⟩ = some (.bool p) ∧ w'.cell? ⟨w.heap.size, 2, none⟩ = some (.bool bl) ∧ w'.cell? ⟨w.heap.size, 3, none⟩ = some (.bool al) ∧ w'.cell? ⟨w.heap.size, 4, none⟩ = some (.bool z) ∧ w'.cell? ⟨w.heap.size, 5, none⟩ = some (.int .i64 wd) ∧ w'.cell? ⟨w.heap.size, 6, none⟩ = some (.int .i64 pr) ∧ w'.cell? ⟨w.heap.size, 7, none⟩ = some (.int .u8 101)) (first | exact ⟨k0, k1, k2, k3, k4, k5, k6, k7⟩ | exact ⟨j0, j1, j2, j3, j4, j5, j6, j7⟩)
   (first
    | (go_at_call 128; refine (HSg.out _).mono ?_; rintro e w2 ⟨rfl, hb2⟩; have j0 := cell_next hb2 k0; have j1 := cell_next hb2 k1; have j2 := cell_next hb2 k2; have j3 := cell_next hb2 k3; have j4 := cell_next hb2 k4; have j5 := cell_next hb2 k5; have j6 := cell_next hb2 k6; have j7 := cell_next hb2 k7; have HB2 := Lib.hid (below_next (Nat.le_refl _) HB1.out hb2 (by first | exact .inl rfl | exact .inr rfl)))
    | (go_at_call 70; refine (HPd.out _).mono ?_; rintro e w3 ⟨rfl, hb3⟩; have j0 := cell_next hb3 j0; have j1 := cell_next hb3 j1; have j2 := cell_next hb3 j2; have j3 := cell_next hb3 j3; have j4 := cell_next hb3 j4; have j5 := cell_next hb3 j5; have j6 := cell_next hb3 j6; have j7 := cell_next hb3 j7; have HB3 := Lib.hid (below_next (Nat.le_refl _) HB2.out hb3 (by first | exact .inl rfl | exact .inr rfl))))
  all_goals go_wp2_with fail
  all_goals go_ret
  all_goals exact ⟨rfl, HB3.out⟩
 ·obtain ⟨q', rfl⟩ : ∃ q' : Nat, pr = (q' : Int) := ⟨pr.toNat, by omega⟩
  obtain rfl : q = q' := by rw [hq]; unfold precF; rw [if_neg (by omega)]; exact Int.toNat_natCast _
  have hd : decide ((q : Int) < 0) = false := by simp
  have hqI : (q : Int) ≤ 190 := by omega
  clear hq hn
  have hfe : sciO b q al = fx := by rw [hfx]; unfold bodyF; rw [if_neg (by decide), if_pos (by decide)]
  have HFx := Lib.hid (fun W h => sci_any b q al W hb hf (by omega) h)
  rw [hfe] at HFx
  clear hfe hfx
  generalize decide (9223372036854775808 ≤ b) = ng at *
  unfold specA at HSg HPd ⊢
  go_enter Tryz.func73, Tryz.ntmps73
  go_wp2_with fail
  refine (HFx.out _ (HT.out.below ((Below.refl w.heap.size w).alloc (Nat.le_refl _) _))).mono ?_
  rintro e w1 ⟨rfl, hb1⟩
  have HB1 := Lib.hid (((Below.refl w.heap.size w).alloc (Nat.le_refl _) (.cells #[.bool m, .bool p, .bool bl, .bool al, .bool z, .int .i64 wd, .int .i64 (q : Int), .int .u8 101] 35)).trans (hb1.mono (by simp)))
  have hsp : SpAt w1 w.heap.size #[.bool m, .bool p, .bool bl, .bool al, .bool z, .int .i64 wd, .int .i64 (q : Int), .int .u8 101] := SpAt.next (heap_alloc_at w _) hb1
  have k0 : w1.cell? ⟨w.heap.size, 0, none⟩ = some (.bool m) := hsp.cell 0
  have k1 : w1.cell? ⟨w.heap.size, 1, none⟩ = some (.bool p) := hsp.cell 1
  have k2 : w1.cell? ⟨w.heap.size, 2, none⟩ = some (.bool bl) := hsp.cell 2
  have k3 : w1.cell? ⟨w.heap.size, 3, none⟩ = some (.bool al) := hsp.cell 3
  have k4 : w1.cell? ⟨w.heap.size, 4, none⟩ = some (.bool z) := hsp.cell 4
  have k5 : w1.cell? ⟨w.heap.size, 5, none⟩ = some (.int .i64 wd) := hsp.cell 5
  have k6 : w1.cell? ⟨w.heap.size, 6, none⟩ = some (.int .i64 (q : Int)) := hsp.cell 6
  have k7 : w1.cell? ⟨w.heap.size, 7, none⟩ = some (.int .u8 101) := hsp.cell 7
  clear hb1 hsp
  go_wp2_with fail
  go_region_held3 (fun w' => w'.cell? ⟨w.heap.size, 0, none⟩ = some (.bool m) ∧ w'.cell? ⟨w.heap.size, 1, none⟩ = some (.bool p) ∧ w'.cell? ⟨w.heap.size, 2, none⟩ = some (.bool bl) ∧ w'.cell? ⟨w.heap.size, 3, none⟩ = some (.bool al) ∧ w'.cell? ⟨w.heap.size, 4, none⟩ = some (.bool z) ∧ w'.cell? ⟨w.heap.size, 5, none⟩ = some (.int .i64 wd) ∧ w'.cell? ⟨w.heap.size, 6, none⟩ = some (.int .i64 (q : Int)) ∧ w'.cell? ⟨w.heap.size, 7, none⟩ = some (.int .u8 101)) (first | exact ⟨k0, k1, k2, k3, k4, k5, k6, k7⟩ | exact ⟨j0, j1, j2, j3, j4, j5, j6, j7⟩)
   (first
    | (go_at_call 128; refine (HSg.out _).mono ?_; rintro e w2 ⟨rfl, hb2⟩; have j0 := cell_next hb2 k0; have j1 := cell_next hb2 k1; have j2 := cell_next hb2 k2; have j3 := cell_next hb2 k3; have j4 := cell_next hb2 k4; have j5 := cell_next hb2 k5; have j6 := cell_next hb2 k6; have j7 := cell_next hb2 k7; have HB2 := Lib.hid (below_next (Nat.le_refl _) HB1.out hb2 (by first | exact .inl rfl | exact .inr rfl)))
    | (go_at_call 70; refine (HPd.out _).mono ?_; rintro e w3 ⟨rfl, hb3⟩; have j0 := cell_next hb3 j0; have j1 := cell_next hb3 j1; have j2 := cell_next hb3 j2; have j3 := cell_next hb3 j3; have j4 := cell_next hb3 j4; have j5 := cell_next hb3 j5; have j6 := cell_next hb3 j6; have j7 := cell_next hb3 j7; have HB3 := Lib.hid (below_next (Nat.le_refl _) HB2.out hb3 (by first | exact .inl rfl | exact .inr rfl))))
  all_goals go_wp2_with fail
  all_goals go_ret
  all_goals exact ⟨rfl, HB3.out⟩
set_option maxHeartbeats 8000000 in
set_option maxRecDepth 1000000 in
theorem float_69 (m p bl al z : Bool) (wd pr : Int) (b : Nat) (w : World) (hb : b < 18446744073709551616) (hf : fin b = true) (hp1 : -1 ≤ pr) (hp2 : pr ≤ 190) (hw : 0 ≤ wd) (hw2 : wd ≤ 1024) (hT : PowOk w) :
 Calls Tryz.prog 73 #[.agg (specA m p bl al z wd pr 69), .float .f64 b] w fun e w' => e = .returned (.string (floatO m p bl al z wd pr 69 b)) ∧ Below w.heap.size w w' := by
 have HT := Lib.hid hT
 have HSg := Lib.hid (fun W => sign_any m p bl al z (decide (9223372036854775808 ≤ b)) wd pr 69 W)
 obtain ⟨sg, hsg⟩ : ∃ sg : ByteArray, sg = ⟨(signL p bl (decide (9223372036854775808 ≤ b))).toArray⟩ := ⟨_, rfl⟩
 have hsl := signL_size5 p bl (decide (9223372036854775808 ≤ b))
 have hsa := signL_asc p bl (decide (9223372036854775808 ≤ b))
 have hsg1 : sg.size ≤ 1 := by rw [sz_list, hsg]; exact hsl
 have hsgl : sg.data.toList = signL p bl (decide (9223372036854775808 ≤ b)) := by rw [hsg]
 rw [← hsg] at HSg
 obtain ⟨q, hq⟩ : ∃ q, q = precF pr := ⟨_, rfl⟩
 have hq190 := precF_le hp2
 rw [← hq] at hq190
 have hbo := bodyF_ok al 69 hb hf hq190 hT
 have hFO : floatO m p bl al z wd pr 69 b = ⟨(Lib.toUpperA (padO m p bl al z wd pr 69 b)).toArray⟩ := rfl
 rw [hFO]
 unfold padO
 rw [← hq, ← hsgl]
 rw [← hsgl] at hsa
 obtain ⟨fx, hfx⟩ : ∃ fx, fx = bodyF al 69 q b := ⟨_, rfl⟩
 rw [← hfx] at hbo ⊢
 have hPd0 : ∀ W, _ := fun W => padded_any m p bl al z z wd pr 69 sg fx W hw hw2 (by omega) (by omega)
 have HPd := Lib.hid hPd0
 clear hPd0
 have hoa := padL_asc (m := m) (z := z) (wd := wd) hsa hbo.1
 have hol := padL_size5 (m := m) (z := z) (h := sg.data.toList) (s := fx.data.toList) hw2
 rw [← sz_list, ← sz_list] at hol
 generalize padL m z wd sg.data.toList fx.data.toList = out at *
 have HUp := Lib.hid (fun W => Tryz.strings_ToUpper_ascii ⟨out.toArray⟩ W (by rw [sz_list]; show out.length ≤ _; omega) (fun j c hj => hoa c (List.mem_of_getElem? hj)))
 have hsh : (((b : Int) / 9223372036854775808) == 1) = decide (9223372036854775808 ≤ b) := by
  by_cases h9 : 9223372036854775808 ≤ b
  ·rw [decide_eq_true h9, beq_iff_eq]; omega
  ·rw [decide_eq_false h9, beq_eq_false_iff_ne]; omega
 clear hoa hol hsl hsa hsgl hsg hFO hT
 have hfs := hbo.2
 clear hbo
 rcases Int.lt_or_le pr 0 with hn | hn
 ·have hd : decide (pr < 0) = true := by simp; omega
  obtain rfl : q = 6 := by rw [hq]; unfold precF; rw [if_pos hn]
  clear hq hn hq190
  have hfe : sciO b 6 al = fx := by rw [hfx]; unfold bodyF; rw [if_neg (by decide), if_pos (by decide)]
  have HFx := Lib.hid (fun W h => sci_any b 6 al W hb hf (by omega) h)
  rw [hfe] at HFx
  clear hfe hfx
  generalize decide (9223372036854775808 ≤ b) = ng at *
  unfold specA at HSg HPd ⊢
  go_enter Tryz.func73, Tryz.ntmps73
  go_wp2_with fail
  refine (HFx.out _ (HT.out.below ((Below.refl w.heap.size w).alloc (Nat.le_refl _) _))).mono ?_
  rintro e w1 ⟨rfl, hb1⟩
  have HB1 := Lib.hid (((Below.refl w.heap.size w).alloc (Nat.le_refl _) (.cells #[.bool m, .bool p, .bool bl, .bool al, .bool z, .int .i64 wd, .int .i64 pr, .int .u8 69] 35)).trans (hb1.mono (by simp)))
  have hsp : SpAt w1 w.heap.size #[.bool m, .bool p, .bool bl, .bool al, .bool z, .int .i64 wd, .int .i64 pr, .int .u8 69] := SpAt.next (heap_alloc_at w _) hb1
  have k0 : w1.cell? ⟨w.heap.size, 0, none⟩ = some (.bool m) := hsp.cell 0
  have k1 : w1.cell? ⟨w.heap.size, 1, none⟩ = some (.bool p) := hsp.cell 1
  have k2 : w1.cell? ⟨w.heap.size, 2, none⟩ = some (.bool bl) := hsp.cell 2
  have k3 : w1.cell? ⟨w.heap.size, 3, none⟩ = some (.bool al) := hsp.cell 3
  have k4 : w1.cell? ⟨w.heap.size, 4, none⟩ = some (.bool z) := hsp.cell 4
  have k5 : w1.cell? ⟨w.heap.size, 5, none⟩ = some (.int .i64 wd) := hsp.cell 5
  have k6 : w1.cell? ⟨w.heap.size, 6, none⟩ = some (.int .i64 pr) := hsp.cell 6
  have k7 : w1.cell? ⟨w.heap.size, 7, none⟩ = some (.int .u8 69) := hsp.cell 7
  clear hb1 hsp
  go_wp2_with fail
  go_region_held3 (fun w' => w'.cell? ⟨w.heap.size, 0, none⟩ = some (.bool m) ∧ w'.cell? ⟨w.heap.size, 1, none⟩ = some (.bool p) ∧ w'.cell? ⟨w.heap.size, 2, none⟩ = some (.bool bl) ∧ w'.cell? ⟨w.heap.size, 3, none⟩ = some (.bool al) ∧ w'.cell? ⟨w.heap.size, 4, none⟩ = some (.bool z) ∧ w'.cell? ⟨w.heap.size, 5, none⟩ = some (.int .i64 wd) ∧ w'.cell? ⟨w.heap.size, 6, none⟩ = some (.int .i64 pr) ∧ w'.cell? ⟨w.heap.size, 7, none⟩ = some (.int .u8 69)) (first | exact ⟨k0, k1, k2, k3, k4, k5, k6, k7⟩ | exact ⟨j0, j1, j2, j3, j4, j5, j6, j7⟩)
   (first
    | (go_at_call 128; refine (HSg.out _).mono ?_; rintro e w2 ⟨rfl, hb2⟩; have j0 := cell_next hb2 k0; have j1 := cell_next hb2 k1; have j2 := cell_next hb2 k2; have j3 := cell_next hb2 k3; have j4 := cell_next hb2 k4; have j5 := cell_next hb2 k5; have j6 := cell_next hb2 k6; have j7 := cell_next hb2 k7; have HB2 := Lib.hid (below_next (Nat.le_refl _) HB1.out hb2 (by first | exact .inl rfl | exact .inr rfl)))
    | (go_at_call 70; refine (HPd.out _).mono ?_; rintro e w3 ⟨rfl, hb3⟩; have j0 := cell_next hb3 j0; have j1 := cell_next hb3 j1; have j2 := cell_next hb3 j2; have j3 := cell_next hb3 j3; have j4 := cell_next hb3 j4; have j5 := cell_next hb3 j5; have j6 := cell_next hb3 j6; have j7 := cell_next hb3 j7; have HB3 := Lib.hid (below_next (Nat.le_refl _) HB2.out hb3 (by first | exact .inl rfl | exact .inr rfl))))
  all_goals go_wp2_with fail
  all_goals refine (HUp.out _).mono ?_
  all_goals rintro e w4 ⟨rfl, hb4⟩
  all_goals have HB4 := Lib.hid (HB3.out.trans (hb4.mono HB3.out.size))
  all_goals clear hb4
  all_goals go_wp2_with fail
  all_goals go_ret
  all_goals exact ⟨rfl, HB4.out⟩
 ·obtain ⟨q', rfl⟩ : ∃ q' : Nat, pr = (q' : Int) := ⟨pr.toNat, by omega⟩
  obtain rfl : q = q' := by rw [hq]; unfold precF; rw [if_neg (by omega)]; exact Int.toNat_natCast _
  have hd : decide ((q : Int) < 0) = false := by simp
  have hqI : (q : Int) ≤ 190 := by omega
  clear hq hn
  have hfe : sciO b q al = fx := by rw [hfx]; unfold bodyF; rw [if_neg (by decide), if_pos (by decide)]
  have HFx := Lib.hid (fun W h => sci_any b q al W hb hf (by omega) h)
  rw [hfe] at HFx
  clear hfe hfx
  generalize decide (9223372036854775808 ≤ b) = ng at *
  unfold specA at HSg HPd ⊢
  go_enter Tryz.func73, Tryz.ntmps73
  go_wp2_with fail
  refine (HFx.out _ (HT.out.below ((Below.refl w.heap.size w).alloc (Nat.le_refl _) _))).mono ?_
  rintro e w1 ⟨rfl, hb1⟩
  have HB1 := Lib.hid (((Below.refl w.heap.size w).alloc (Nat.le_refl _) (.cells #[.bool m, .bool p, .bool bl, .bool al, .bool z, .int .i64 wd, .int .i64 (q : Int), .int .u8 69] 35)).trans (hb1.mono (by simp)))
  have hsp : SpAt w1 w.heap.size #[.bool m, .bool p, .bool bl, .bool al, .bool z, .int .i64 wd, .int .i64 (q : Int), .int .u8 69] := SpAt.next (heap_alloc_at w _) hb1
  have k0 : w1.cell? ⟨w.heap.size, 0, none⟩ = some (.bool m) := hsp.cell 0
  have k1 : w1.cell? ⟨w.heap.size, 1, none⟩ = some (.bool p) := hsp.cell 1
  have k2 : w1.cell? ⟨w.heap.size, 2, none⟩ = some (.bool bl) := hsp.cell 2
  have k3 : w1.cell? ⟨w.heap.size, 3, none⟩ = some (.bool al) := hsp.cell 3
  have k4 : w1.cell? ⟨w.heap.size, 4, none⟩ = some (.bool z) := hsp.cell 4
  have k5 : w1.cell? ⟨w.heap.size, 5, none⟩ = some (.int .i64 wd) := hsp.cell 5
  have k6 : w1.cell? ⟨w.heap.size, 6, none⟩ = some (.int .i64 (q : Int)) := hsp.cell 6
  have k7 : w1.cell? ⟨w.heap.size, 7, none⟩ = some (.int .u8 69) := hsp.cell 7
  clear hb1 hsp
  go_wp2_with fail
  go_region_held3 (fun w' => w'.cell? ⟨w.heap.size, 0, none⟩ = some (.bool m) ∧ w'.cell? ⟨w.heap.size, 1, none⟩ = some (.bool p) ∧ w'.cell? ⟨w.heap.size, 2, none⟩ = some (.bool bl) ∧ w'.cell? ⟨w.heap.size, 3, none⟩ = some (.bool al) ∧ w'.cell? ⟨w.heap.size, 4, none⟩ = some (.bool z) ∧ w'.cell? ⟨w.heap.size, 5, none⟩ = some (.int .i64 wd) ∧ w'.cell? ⟨w.heap.size, 6, none⟩ = some (.int .i64 (q : Int)) ∧ w'.cell? ⟨w.heap.size, 7, none⟩ = some (.int .u8 69)) (first | exact ⟨k0, k1, k2, k3, k4, k5, k6, k7⟩ | exact ⟨j0, j1, j2, j3, j4, j5, j6, j7⟩)
   (first
    | (go_at_call 128; refine (HSg.out _).mono ?_; rintro e w2 ⟨rfl, hb2⟩; have j0 := cell_next hb2 k0; have j1 := cell_next hb2 k1; have j2 := cell_next hb2 k2; have j3 := cell_next hb2 k3; have j4 := cell_next hb2 k4; have j5 := cell_next hb2 k5; have j6 := cell_next hb2 k6; have j7 := cell_next hb2 k7; have HB2 := Lib.hid (below_next (Nat.le_refl _) HB1.out hb2 (by first | exact .inl rfl | exact .inr rfl)))
    | (go_at_call 70; refine (HPd.out _).mono ?_; rintro e w3 ⟨rfl, hb3⟩; have j0 := cell_next hb3 j0; have j1 := cell_next hb3 j1; have j2 := cell_next hb3 j2; have j3 := cell_next hb3 j3; have j4 := cell_next hb3 j4; have j5 := cell_next hb3 j5; have j6 := cell_next hb3 j6; have j7 := cell_next hb3 j7; have HB3 := Lib.hid (below_next (Nat.le_refl _) HB2.out hb3 (by first | exact .inl rfl | exact .inr rfl))))
  all_goals go_wp2_with fail
  all_goals refine (HUp.out _).mono ?_
  all_goals rintro e w4 ⟨rfl, hb4⟩
  all_goals have HB4 := Lib.hid (HB3.out.trans (hb4.mono HB3.out.size))
  all_goals clear hb4
  all_goals go_wp2_with fail
  all_goals go_ret
  all_goals exact ⟨rfl, HB4.out⟩
set_option maxHeartbeats 8000000 in
set_option maxRecDepth 1000000 in
theorem float_103 (m p bl al z : Bool) (wd pr : Int) (b : Nat) (w : World) (hb : b < 18446744073709551616) (hf : fin b = true) (hp1 : -1 ≤ pr) (hp2 : pr ≤ 190) (hw : 0 ≤ wd) (hw2 : wd ≤ 1024) (hT : PowOk w) :
 Calls Tryz.prog 73 #[.agg (specA m p bl al z wd pr 103), .float .f64 b] w fun e w' => e = .returned (.string (floatO m p bl al z wd pr 103 b)) ∧ Below w.heap.size w w' := by
 have HT := Lib.hid hT
 have HSg := Lib.hid (fun W => sign_any m p bl al z (decide (9223372036854775808 ≤ b)) wd pr 103 W)
 obtain ⟨sg, hsg⟩ : ∃ sg : ByteArray, sg = ⟨(signL p bl (decide (9223372036854775808 ≤ b))).toArray⟩ := ⟨_, rfl⟩
 have hsl := signL_size5 p bl (decide (9223372036854775808 ≤ b))
 have hsa := signL_asc p bl (decide (9223372036854775808 ≤ b))
 have hsg1 : sg.size ≤ 1 := by rw [sz_list, hsg]; exact hsl
 have hsgl : sg.data.toList = signL p bl (decide (9223372036854775808 ≤ b)) := by rw [hsg]
 rw [← hsg] at HSg
 obtain ⟨q, hq⟩ : ∃ q, q = precF pr := ⟨_, rfl⟩
 have hq190 := precF_le hp2
 rw [← hq] at hq190
 have hbo := bodyF_ok al 103 hb hf hq190 hT
 have hFO : floatO m p bl al z wd pr 103 b = ⟨(padO m p bl al z wd pr 103 b).toArray⟩ := rfl
 rw [hFO]
 unfold padO
 rw [← hq, ← hsgl]
 rw [← hsgl] at hsa
 obtain ⟨fx, hfx⟩ : ∃ fx, fx = bodyF al 103 q b := ⟨_, rfl⟩
 rw [← hfx] at hbo ⊢
 have hPd0 : ∀ W, _ := fun W => padded_any m p bl al z z wd pr 103 sg fx W hw hw2 (by omega) (by omega)
 have HPd := Lib.hid hPd0
 clear hPd0
 have hoa := padL_asc (m := m) (z := z) (wd := wd) hsa hbo.1
 have hol := padL_size5 (m := m) (z := z) (h := sg.data.toList) (s := fx.data.toList) hw2
 rw [← sz_list, ← sz_list] at hol
 generalize padL m z wd sg.data.toList fx.data.toList = out at *
 have hsh : (((b : Int) / 9223372036854775808) == 1) = decide (9223372036854775808 ≤ b) := by
  by_cases h9 : 9223372036854775808 ≤ b
  ·rw [decide_eq_true h9, beq_iff_eq]; omega
  ·rw [decide_eq_false h9, beq_eq_false_iff_ne]; omega
 clear hoa hol hsl hsa hsgl hsg hFO hT
 have hfs := hbo.2
 clear hbo
 rcases Int.lt_or_le pr 0 with hn | hn
 ·have hd : decide (pr < 0) = true := by simp; omega
  obtain rfl : q = 6 := by rw [hq]; unfold precF; rw [if_pos hn]
  clear hq hn hq190
  have hfe : genO b (max 6 1 - 1) al = fx := by rw [hfx]; unfold bodyF; rw [if_neg (by decide), if_neg (by decide)]
  have HFx := Lib.hid (fun W h => general_at b (max 6 1 - 1) 6 (by omega) al W hb hf (by omega) h)
  rw [hfe] at HFx
  clear hfe hfx
  generalize decide (9223372036854775808 ≤ b) = ng at *
  unfold specA at HSg HPd ⊢
  go_enter Tryz.func73, Tryz.ntmps73
  go_wp2_with fail
  refine (HFx.out _ (HT.out.below ((Below.refl w.heap.size w).alloc (Nat.le_refl _) _))).mono ?_
  rintro e w1 ⟨rfl, _, hb1⟩
  have HB1 := Lib.hid (((Below.refl w.heap.size w).alloc (Nat.le_refl _) (.cells #[.bool m, .bool p, .bool bl, .bool al, .bool z, .int .i64 wd, .int .i64 pr, .int .u8 103] 35)).trans (hb1.mono (by simp)))
  have hsp : SpAt w1 w.heap.size #[.bool m, .bool p, .bool bl, .bool al, .bool z, .int .i64 wd, .int .i64 pr, .int .u8 103] := SpAt.next (heap_alloc_at w _) hb1
  have k0 : w1.cell? ⟨w.heap.size, 0, none⟩ = some (.bool m) := hsp.cell 0
  have k1 : w1.cell? ⟨w.heap.size, 1, none⟩ = some (.bool p) := hsp.cell 1
  have k2 : w1.cell? ⟨w.heap.size, 2, none⟩ = some (.bool bl) := hsp.cell 2
  have k3 : w1.cell? ⟨w.heap.size, 3, none⟩ = some (.bool al) := hsp.cell 3
  have k4 : w1.cell? ⟨w.heap.size, 4, none⟩ = some (.bool z) := hsp.cell 4
  have k5 : w1.cell? ⟨w.heap.size, 5, none⟩ = some (.int .i64 wd) := hsp.cell 5
  have k6 : w1.cell? ⟨w.heap.size, 6, none⟩ = some (.int .i64 pr) := hsp.cell 6
  have k7 : w1.cell? ⟨w.heap.size, 7, none⟩ = some (.int .u8 103) := hsp.cell 7
  clear hb1 hsp
  go_wp2_with fail
  go_region_held3 (fun w' => w'.cell? ⟨w.heap.size, 0, none⟩ = some (.bool m) ∧ w'.cell? ⟨w.heap.size, 1, none⟩ = some (.bool p) ∧ w'.cell? ⟨w.heap.size, 2, none⟩ = some (.bool bl) ∧ w'.cell? ⟨w.heap.size, 3, none⟩ = some (.bool al) ∧ w'.cell? ⟨w.heap.size, 4, none⟩ = some (.bool z) ∧ w'.cell? ⟨w.heap.size, 5, none⟩ = some (.int .i64 wd) ∧ w'.cell? ⟨w.heap.size, 6, none⟩ = some (.int .i64 pr) ∧ w'.cell? ⟨w.heap.size, 7, none⟩ = some (.int .u8 103)) (first | exact ⟨k0, k1, k2, k3, k4, k5, k6, k7⟩ | exact ⟨j0, j1, j2, j3, j4, j5, j6, j7⟩)
   (first
    | (go_at_call 128; refine (HSg.out _).mono ?_; rintro e w2 ⟨rfl, hb2⟩; have j0 := cell_next hb2 k0; have j1 := cell_next hb2 k1; have j2 := cell_next hb2 k2; have j3 := cell_next hb2 k3; have j4 := cell_next hb2 k4; have j5 := cell_next hb2 k5; have j6 := cell_next hb2 k6; have j7 := cell_next hb2 k7; have HB2 := Lib.hid (below_next (Nat.le_refl _) HB1.out hb2 (by first | exact .inl rfl | exact .inr rfl)))
    | (go_at_call 70; refine (HPd.out _).mono ?_; rintro e w3 ⟨rfl, hb3⟩; have j0 := cell_next hb3 j0; have j1 := cell_next hb3 j1; have j2 := cell_next hb3 j2; have j3 := cell_next hb3 j3; have j4 := cell_next hb3 j4; have j5 := cell_next hb3 j5; have j6 := cell_next hb3 j6; have j7 := cell_next hb3 j7; have HB3 := Lib.hid (below_next (Nat.le_refl _) HB2.out hb3 (by first | exact .inl rfl | exact .inr rfl))))
  all_goals go_wp2_with fail
  all_goals go_ret
  all_goals exact ⟨rfl, HB3.out⟩
 ·obtain ⟨q', rfl⟩ : ∃ q' : Nat, pr = (q' : Int) := ⟨pr.toNat, by omega⟩
  obtain rfl : q = q' := by rw [hq]; unfold precF; rw [if_neg (by omega)]; exact Int.toNat_natCast _
  have hd : decide ((q : Int) < 0) = false := by simp
  have hqI : (q : Int) ≤ 190 := by omega
  clear hq hn
  have hfe : genO b (max q 1 - 1) al = fx := by rw [hfx]; unfold bodyF; rw [if_neg (by decide), if_neg (by decide)]
  have HFx := Lib.hid (fun W h => general_at b (max q 1 - 1) (q : Int) (by omega) al W hb hf (by omega) h)
  rw [hfe] at HFx
  clear hfe hfx
  generalize decide (9223372036854775808 ≤ b) = ng at *
  unfold specA at HSg HPd ⊢
  go_enter Tryz.func73, Tryz.ntmps73
  go_wp2_with fail
  refine (HFx.out _ (HT.out.below ((Below.refl w.heap.size w).alloc (Nat.le_refl _) _))).mono ?_
  rintro e w1 ⟨rfl, _, hb1⟩
  have HB1 := Lib.hid (((Below.refl w.heap.size w).alloc (Nat.le_refl _) (.cells #[.bool m, .bool p, .bool bl, .bool al, .bool z, .int .i64 wd, .int .i64 (q : Int), .int .u8 103] 35)).trans (hb1.mono (by simp)))
  have hsp : SpAt w1 w.heap.size #[.bool m, .bool p, .bool bl, .bool al, .bool z, .int .i64 wd, .int .i64 (q : Int), .int .u8 103] := SpAt.next (heap_alloc_at w _) hb1
  have k0 : w1.cell? ⟨w.heap.size, 0, none⟩ = some (.bool m) := hsp.cell 0
  have k1 : w1.cell? ⟨w.heap.size, 1, none⟩ = some (.bool p) := hsp.cell 1
  have k2 : w1.cell? ⟨w.heap.size, 2, none⟩ = some (.bool bl) := hsp.cell 2
  have k3 : w1.cell? ⟨w.heap.size, 3, none⟩ = some (.bool al) := hsp.cell 3
  have k4 : w1.cell? ⟨w.heap.size, 4, none⟩ = some (.bool z) := hsp.cell 4
  have k5 : w1.cell? ⟨w.heap.size, 5, none⟩ = some (.int .i64 wd) := hsp.cell 5
  have k6 : w1.cell? ⟨w.heap.size, 6, none⟩ = some (.int .i64 (q : Int)) := hsp.cell 6
  have k7 : w1.cell? ⟨w.heap.size, 7, none⟩ = some (.int .u8 103) := hsp.cell 7
  clear hb1 hsp
  go_wp2_with fail
  go_region_held3 (fun w' => w'.cell? ⟨w.heap.size, 0, none⟩ = some (.bool m) ∧ w'.cell? ⟨w.heap.size, 1, none⟩ = some (.bool p) ∧ w'.cell? ⟨w.heap.size, 2, none⟩ = some (.bool bl) ∧ w'.cell? ⟨w.heap.size, 3, none⟩ = some (.bool al) ∧ w'.cell? ⟨w.heap.size, 4, none⟩ = some (.bool z) ∧ w'.cell? ⟨w.heap.size, 5, none⟩ = some (.int .i64 wd) ∧ w'.cell? ⟨w.heap.size, 6, none⟩ = some (.int .i64 (q : Int)) ∧ w'.cell? ⟨w.heap.size, 7, none⟩ = some (.int .u8 103)) (first | exact ⟨k0, k1, k2, k3, k4, k5, k6, k7⟩ | exact ⟨j0, j1, j2, j3, j4, j5, j6, j7⟩)
   (first
    | (go_at_call 128; refine (HSg.out _).mono ?_; rintro e w2 ⟨rfl, hb2⟩; have j0 := cell_next hb2 k0; have j1 := cell_next hb2 k1; have j2 := cell_next hb2 k2; have j3 := cell_next hb2 k3; have j4 := cell_next hb2 k4; have j5 := cell_next hb2 k5; have j6 := cell_next hb2 k6; have j7 := cell_next hb2 k7; have HB2 := Lib.hid (below_next (Nat.le_refl _) HB1.out hb2 (by first | exact .inl rfl | exact .inr rfl)))
    | (go_at_call 70; refine (HPd.out _).mono ?_; rintro e w3 ⟨rfl, hb3⟩; have j0 := cell_next hb3 j0; have j1 := cell_next hb3 j1; have j2 := cell_next hb3 j2; have j3 := cell_next hb3 j3; have j4 := cell_next hb3 j4; have j5 := cell_next hb3 j5; have j6 := cell_next hb3 j6; have j7 := cell_next hb3 j7; have HB3 := Lib.hid (below_next (Nat.le_refl _) HB2.out hb3 (by first | exact .inl rfl | exact .inr rfl))))
  all_goals go_wp2_with fail
  all_goals go_ret
  all_goals exact ⟨rfl, HB3.out⟩
set_option maxHeartbeats 8000000 in
set_option maxRecDepth 1000000 in
theorem float_71 (m p bl al z : Bool) (wd pr : Int) (b : Nat) (w : World) (hb : b < 18446744073709551616) (hf : fin b = true) (hp1 : -1 ≤ pr) (hp2 : pr ≤ 190) (hw : 0 ≤ wd) (hw2 : wd ≤ 1024) (hT : PowOk w) :
 Calls Tryz.prog 73 #[.agg (specA m p bl al z wd pr 71), .float .f64 b] w fun e w' => e = .returned (.string (floatO m p bl al z wd pr 71 b)) ∧ Below w.heap.size w w' := by
 have HT := Lib.hid hT
 have HSg := Lib.hid (fun W => sign_any m p bl al z (decide (9223372036854775808 ≤ b)) wd pr 71 W)
 obtain ⟨sg, hsg⟩ : ∃ sg : ByteArray, sg = ⟨(signL p bl (decide (9223372036854775808 ≤ b))).toArray⟩ := ⟨_, rfl⟩
 have hsl := signL_size5 p bl (decide (9223372036854775808 ≤ b))
 have hsa := signL_asc p bl (decide (9223372036854775808 ≤ b))
 have hsg1 : sg.size ≤ 1 := by rw [sz_list, hsg]; exact hsl
 have hsgl : sg.data.toList = signL p bl (decide (9223372036854775808 ≤ b)) := by rw [hsg]
 rw [← hsg] at HSg
 obtain ⟨q, hq⟩ : ∃ q, q = precF pr := ⟨_, rfl⟩
 have hq190 := precF_le hp2
 rw [← hq] at hq190
 have hbo := bodyF_ok al 71 hb hf hq190 hT
 have hFO : floatO m p bl al z wd pr 71 b = ⟨(Lib.toUpperA (padO m p bl al z wd pr 71 b)).toArray⟩ := rfl
 rw [hFO]
 unfold padO
 rw [← hq, ← hsgl]
 rw [← hsgl] at hsa
 obtain ⟨fx, hfx⟩ : ∃ fx, fx = bodyF al 71 q b := ⟨_, rfl⟩
 rw [← hfx] at hbo ⊢
 have hPd0 : ∀ W, _ := fun W => padded_any m p bl al z z wd pr 71 sg fx W hw hw2 (by omega) (by omega)
 have HPd := Lib.hid hPd0
 clear hPd0
 have hoa := padL_asc (m := m) (z := z) (wd := wd) hsa hbo.1
 have hol := padL_size5 (m := m) (z := z) (h := sg.data.toList) (s := fx.data.toList) hw2
 rw [← sz_list, ← sz_list] at hol
 generalize padL m z wd sg.data.toList fx.data.toList = out at *
 have HUp := Lib.hid (fun W => Tryz.strings_ToUpper_ascii ⟨out.toArray⟩ W (by rw [sz_list]; show out.length ≤ _; omega) (fun j c hj => hoa c (List.mem_of_getElem? hj)))
 have hsh : (((b : Int) / 9223372036854775808) == 1) = decide (9223372036854775808 ≤ b) := by
  by_cases h9 : 9223372036854775808 ≤ b
  ·rw [decide_eq_true h9, beq_iff_eq]; omega
  ·rw [decide_eq_false h9, beq_eq_false_iff_ne]; omega
 clear hoa hol hsl hsa hsgl hsg hFO hT
 have hfs := hbo.2
 clear hbo
 rcases Int.lt_or_le pr 0 with hn | hn
 ·have hd : decide (pr < 0) = true := by simp; omega
  obtain rfl : q = 6 := by rw [hq]; unfold precF; rw [if_pos hn]
  clear hq hn hq190
  have hfe : genO b (max 6 1 - 1) al = fx := by rw [hfx]; unfold bodyF; rw [if_neg (by decide), if_neg (by decide)]
  have HFx := Lib.hid (fun W h => general_at b (max 6 1 - 1) 6 (by omega) al W hb hf (by omega) h)
  rw [hfe] at HFx
  clear hfe hfx
  generalize decide (9223372036854775808 ≤ b) = ng at *
  unfold specA at HSg HPd ⊢
  go_enter Tryz.func73, Tryz.ntmps73
  go_wp2_with fail
  refine (HFx.out _ (HT.out.below ((Below.refl w.heap.size w).alloc (Nat.le_refl _) _))).mono ?_
  rintro e w1 ⟨rfl, _, hb1⟩
  have HB1 := Lib.hid (((Below.refl w.heap.size w).alloc (Nat.le_refl _) (.cells #[.bool m, .bool p, .bool bl, .bool al, .bool z, .int .i64 wd, .int .i64 pr, .int .u8 71] 35)).trans (hb1.mono (by simp)))
  have hsp : SpAt w1 w.heap.size #[.bool m, .bool p, .bool bl, .bool al, .bool z, .int .i64 wd, .int .i64 pr, .int .u8 71] := SpAt.next (heap_alloc_at w _) hb1
  have k0 : w1.cell? ⟨w.heap.size, 0, none⟩ = some (.bool m) := hsp.cell 0
  have k1 : w1.cell? ⟨w.heap.size, 1, none⟩ = some (.bool p) := hsp.cell 1
  have k2 : w1.cell? ⟨w.heap.size, 2, none⟩ = some (.bool bl) := hsp.cell 2
  have k3 : w1.cell? ⟨w.heap.size, 3, none⟩ = some (.bool al) := hsp.cell 3
  have k4 : w1.cell? ⟨w.heap.size, 4, none⟩ = some (.bool z) := hsp.cell 4
  have k5 : w1.cell? ⟨w.heap.size, 5, none⟩ = some (.int .i64 wd) := hsp.cell 5
  have k6 : w1.cell? ⟨w.heap.size, 6, none⟩ = some (.int .i64 pr) := hsp.cell 6
  have k7 : w1.cell? ⟨w.heap.size, 7, none⟩ = some (.int .u8 71) := hsp.cell 7
  clear hb1 hsp
  go_wp2_with fail
  go_region_held3 (fun w' => w'.cell? ⟨w.heap.size, 0, none⟩ = some (.bool m) ∧ w'.cell? ⟨w.heap.size, 1, none⟩ = some (.bool p) ∧ w'.cell? ⟨w.heap.size, 2, none⟩ = some (.bool bl) ∧ w'.cell? ⟨w.heap.size, 3, none⟩ = some (.bool al) ∧ w'.cell? ⟨w.heap.size, 4, none⟩ = some (.bool z) ∧ w'.cell? ⟨w.heap.size, 5, none⟩ = some (.int .i64 wd) ∧ w'.cell? ⟨w.heap.size, 6, none⟩ = some (.int .i64 pr) ∧ w'.cell? ⟨w.heap.size, 7, none⟩ = some (.int .u8 71)) (first | exact ⟨k0, k1, k2, k3, k4, k5, k6, k7⟩ | exact ⟨j0, j1, j2, j3, j4, j5, j6, j7⟩)
   (first
    | (go_at_call 128; refine (HSg.out _).mono ?_; rintro e w2 ⟨rfl, hb2⟩; have j0 := cell_next hb2 k0; have j1 := cell_next hb2 k1; have j2 := cell_next hb2 k2; have j3 := cell_next hb2 k3; have j4 := cell_next hb2 k4; have j5 := cell_next hb2 k5; have j6 := cell_next hb2 k6; have j7 := cell_next hb2 k7; have HB2 := Lib.hid (below_next (Nat.le_refl _) HB1.out hb2 (by first | exact .inl rfl | exact .inr rfl)))
    | (go_at_call 70; refine (HPd.out _).mono ?_; rintro e w3 ⟨rfl, hb3⟩; have j0 := cell_next hb3 j0; have j1 := cell_next hb3 j1; have j2 := cell_next hb3 j2; have j3 := cell_next hb3 j3; have j4 := cell_next hb3 j4; have j5 := cell_next hb3 j5; have j6 := cell_next hb3 j6; have j7 := cell_next hb3 j7; have HB3 := Lib.hid (below_next (Nat.le_refl _) HB2.out hb3 (by first | exact .inl rfl | exact .inr rfl))))
  all_goals go_wp2_with fail
  all_goals refine (HUp.out _).mono ?_
  all_goals rintro e w4 ⟨rfl, hb4⟩
  all_goals have HB4 := Lib.hid (HB3.out.trans (hb4.mono HB3.out.size))
  all_goals clear hb4
  all_goals go_wp2_with fail
  all_goals go_ret
  all_goals exact ⟨rfl, HB4.out⟩
 ·obtain ⟨q', rfl⟩ : ∃ q' : Nat, pr = (q' : Int) := ⟨pr.toNat, by omega⟩
  obtain rfl : q = q' := by rw [hq]; unfold precF; rw [if_neg (by omega)]; exact Int.toNat_natCast _
  have hd : decide ((q : Int) < 0) = false := by simp
  have hqI : (q : Int) ≤ 190 := by omega
  clear hq hn
  have hfe : genO b (max q 1 - 1) al = fx := by rw [hfx]; unfold bodyF; rw [if_neg (by decide), if_neg (by decide)]
  have HFx := Lib.hid (fun W h => general_at b (max q 1 - 1) (q : Int) (by omega) al W hb hf (by omega) h)
  rw [hfe] at HFx
  clear hfe hfx
  generalize decide (9223372036854775808 ≤ b) = ng at *
  unfold specA at HSg HPd ⊢
  go_enter Tryz.func73, Tryz.ntmps73
  go_wp2_with fail
  refine (HFx.out _ (HT.out.below ((Below.refl w.heap.size w).alloc (Nat.le_refl _) _))).mono ?_
  rintro e w1 ⟨rfl, _, hb1⟩
  have HB1 := Lib.hid (((Below.refl w.heap.size w).alloc (Nat.le_refl _) (.cells #[.bool m, .bool p, .bool bl, .bool al, .bool z, .int .i64 wd, .int .i64 (q : Int), .int .u8 71] 35)).trans (hb1.mono (by simp)))
  have hsp : SpAt w1 w.heap.size #[.bool m, .bool p, .bool bl, .bool al, .bool z, .int .i64 wd, .int .i64 (q : Int), .int .u8 71] := SpAt.next (heap_alloc_at w _) hb1
  have k0 : w1.cell? ⟨w.heap.size, 0, none⟩ = some (.bool m) := hsp.cell 0
  have k1 : w1.cell? ⟨w.heap.size, 1, none⟩ = some (.bool p) := hsp.cell 1
  have k2 : w1.cell? ⟨w.heap.size, 2, none⟩ = some (.bool bl) := hsp.cell 2
  have k3 : w1.cell? ⟨w.heap.size, 3, none⟩ = some (.bool al) := hsp.cell 3
  have k4 : w1.cell? ⟨w.heap.size, 4, none⟩ = some (.bool z) := hsp.cell 4
  have k5 : w1.cell? ⟨w.heap.size, 5, none⟩ = some (.int .i64 wd) := hsp.cell 5
  have k6 : w1.cell? ⟨w.heap.size, 6, none⟩ = some (.int .i64 (q : Int)) := hsp.cell 6
  have k7 : w1.cell? ⟨w.heap.size, 7, none⟩ = some (.int .u8 71) := hsp.cell 7
  clear hb1 hsp
  go_wp2_with fail
  go_region_held3 (fun w' => w'.cell? ⟨w.heap.size, 0, none⟩ = some (.bool m) ∧ w'.cell? ⟨w.heap.size, 1, none⟩ = some (.bool p) ∧ w'.cell? ⟨w.heap.size, 2, none⟩ = some (.bool bl) ∧ w'.cell? ⟨w.heap.size, 3, none⟩ = some (.bool al) ∧ w'.cell? ⟨w.heap.size, 4, none⟩ = some (.bool z) ∧ w'.cell? ⟨w.heap.size, 5, none⟩ = some (.int .i64 wd) ∧ w'.cell? ⟨w.heap.size, 6, none⟩ = some (.int .i64 (q : Int)) ∧ w'.cell? ⟨w.heap.size, 7, none⟩ = some (.int .u8 71)) (first | exact ⟨k0, k1, k2, k3, k4, k5, k6, k7⟩ | exact ⟨j0, j1, j2, j3, j4, j5, j6, j7⟩)
   (first
    | (go_at_call 128; refine (HSg.out _).mono ?_; rintro e w2 ⟨rfl, hb2⟩; have j0 := cell_next hb2 k0; have j1 := cell_next hb2 k1; have j2 := cell_next hb2 k2; have j3 := cell_next hb2 k3; have j4 := cell_next hb2 k4; have j5 := cell_next hb2 k5; have j6 := cell_next hb2 k6; have j7 := cell_next hb2 k7; have HB2 := Lib.hid (below_next (Nat.le_refl _) HB1.out hb2 (by first | exact .inl rfl | exact .inr rfl)))
    | (go_at_call 70; refine (HPd.out _).mono ?_; rintro e w3 ⟨rfl, hb3⟩; have j0 := cell_next hb3 j0; have j1 := cell_next hb3 j1; have j2 := cell_next hb3 j2; have j3 := cell_next hb3 j3; have j4 := cell_next hb3 j4; have j5 := cell_next hb3 j5; have j6 := cell_next hb3 j6; have j7 := cell_next hb3 j7; have HB3 := Lib.hid (below_next (Nat.le_refl _) HB2.out hb3 (by first | exact .inl rfl | exact .inr rfl))))
  all_goals go_wp2_with fail
  all_goals refine (HUp.out _).mono ?_
  all_goals rintro e w4 ⟨rfl, hb4⟩
  all_goals have HB4 := Lib.hid (HB3.out.trans (hb4.mono HB3.out.size))
  all_goals clear hb4
  all_goals go_wp2_with fail
  all_goals go_ret
  all_goals exact ⟨rfl, HB4.out⟩
end Go.Proofs.YtfdnhkjeoeffoaaGreatDoor
end
section
namespace Go.Proofs.YtfdnhkjeoeffoaaGreatDoor
open Go.RowKit
set_option linter.unusedVariables false
set_option maxHeartbeats 4000000 in
set_option maxRecDepth 1000000 in
theorem Number_101 (m p bl al z : Bool) (wd pr : Int) (b : Nat) (w : World) (hb : b < 18446744073709551616) (hf : fin b = true) (hp1 : -1 ≤ pr) (hp2 : pr ≤ 190) (hw : 0 ≤ wd) (hw2 : wd ≤ 1024) (hT : PowOk w) :
 Calls Tryz.prog 24 #[.agg (specA m p bl al z wd pr 101), .float .f64 b] w fun e w' => e = .returned (.tuple #[.string (floatO m p bl al z wd pr 101 b), .int .i64 0]) ∧ Below w.heap.size w w' := by
 have HT := Lib.hid hT
 have HFl := Lib.hid (fun W h => float_101 m p bl al z wd pr b W hb hf hp1 hp2 hw hw2 h)
 have HCk := Lib.hid (fun W => Check_ok m p bl al z wd pr 101 W (by
  unfold okS
  rw [show ixB verbsB 101 = 6 from by decide, decide_eq_true hw, decide_eq_true hw2, decide_eq_true hp1, decide_eq_true hp2]
  rfl))
 have HPt := Lib.hid (fun W => Parts_any b W hb)
 rw [hf] at HPt
 have HI1 : Hid (∀ W, Calls Tryz.prog 69 #[.string ⟨#[100, 105, 111, 120, 88, 117, 101, 69, 102, 70, 103, 71]⟩, .int .u8 101] W fun e w' => e = .returned (.int .i64 6) ∧ w' = W) := fun W => Tryz.strings_IndexByte ⟨#[100, 105, 111, 120, 88, 117, 101, 69, 102, 70, 103, 71]⟩ 101 W
 have HI2 : Hid (∀ W, Calls Tryz.prog 69 #[.string ⟨#[100, 105, 111, 120, 88, 117]⟩, .int .u8 101] W fun e w' => e = .returned (.int .i64 (-1)) ∧ w' = W) := fun W => Tryz.strings_IndexByte ⟨#[100, 105, 111, 120, 88, 117]⟩ 101 W
 generalize floatO m p bl al z wd pr 101 b = out at *
 unfold specA at HFl HCk ⊢
 clear hT hp1 hp2 hw hw2
 go_enter Tryz.func24, Tryz.ntmps24
 go_wp2_with fail
 refine (HCk.out _).mono ?_
 rintro e w1 ⟨rfl, hb1⟩
 have HB1 := Lib.hid (((Below.refl w.heap.size w).alloc (Nat.le_refl _) (.cells #[.bool m, .bool p, .bool bl, .bool al, .bool z, .int .i64 wd, .int .i64 pr, .int .u8 101] 35)).trans (hb1.mono (by simp)))
 have hsp : SpAt w1 w.heap.size #[.bool m, .bool p, .bool bl, .bool al, .bool z, .int .i64 wd, .int .i64 pr, .int .u8 101] := SpAt.next (heap_alloc_at w _) hb1
 have k0 : w1.cell? ⟨w.heap.size, 0, none⟩ = some (.bool m) := hsp.cell 0
 have k1 : w1.cell? ⟨w.heap.size, 1, none⟩ = some (.bool p) := hsp.cell 1
 have k2 : w1.cell? ⟨w.heap.size, 2, none⟩ = some (.bool bl) := hsp.cell 2
 have k3 : w1.cell? ⟨w.heap.size, 3, none⟩ = some (.bool al) := hsp.cell 3
 have k4 : w1.cell? ⟨w.heap.size, 4, none⟩ = some (.bool z) := hsp.cell 4
 have k5 : w1.cell? ⟨w.heap.size, 5, none⟩ = some (.int .i64 wd) := hsp.cell 5
 have k6 : w1.cell? ⟨w.heap.size, 6, none⟩ = some (.int .i64 pr) := hsp.cell 6
 have k7 : w1.cell? ⟨w.heap.size, 7, none⟩ = some (.int .u8 101) := hsp.cell 7
 clear hb1 hsp
 go_wp2_with fail
 refine (HI1.out _).mono ?_
 rintro e _ ⟨rfl, rfl⟩
 go_wp2_with fail
 refine (HPt.out _).mono ?_
 rintro e _ ⟨rfl, rfl⟩
 go_wp2_with fail
 refine (HI2.out _).mono ?_
 rintro e _ ⟨rfl, rfl⟩
 go_wp2_with fail
 refine (HFl.out _ (HT.out.below HB1.out)).mono ?_
 rintro e w2 ⟨rfl, hb2⟩
 have HB2 := Lib.hid (HB1.out.trans (hb2.mono HB1.out.size))
 clear hb2
 go_wp2_with fail
 go_ret2
 exact ⟨rfl, HB2.out⟩
set_option maxHeartbeats 4000000 in
set_option maxRecDepth 1000000 in
theorem Number_69 (m p bl al z : Bool) (wd pr : Int) (b : Nat) (w : World) (hb : b < 18446744073709551616) (hf : fin b = true) (hp1 : -1 ≤ pr) (hp2 : pr ≤ 190) (hw : 0 ≤ wd) (hw2 : wd ≤ 1024) (hT : PowOk w) :
 Calls Tryz.prog 24 #[.agg (specA m p bl al z wd pr 69), .float .f64 b] w fun e w' => e = .returned (.tuple #[.string (floatO m p bl al z wd pr 69 b), .int .i64 0]) ∧ Below w.heap.size w w' := by
 have HT := Lib.hid hT
 have HFl := Lib.hid (fun W h => float_69 m p bl al z wd pr b W hb hf hp1 hp2 hw hw2 h)
 have HCk := Lib.hid (fun W => Check_ok m p bl al z wd pr 69 W (by
  unfold okS
  rw [show ixB verbsB 69 = 7 from by decide, decide_eq_true hw, decide_eq_true hw2, decide_eq_true hp1, decide_eq_true hp2]
  rfl))
 have HPt := Lib.hid (fun W => Parts_any b W hb)
 rw [hf] at HPt
 have HI1 : Hid (∀ W, Calls Tryz.prog 69 #[.string ⟨#[100, 105, 111, 120, 88, 117, 101, 69, 102, 70, 103, 71]⟩, .int .u8 69] W fun e w' => e = .returned (.int .i64 7) ∧ w' = W) := fun W => Tryz.strings_IndexByte ⟨#[100, 105, 111, 120, 88, 117, 101, 69, 102, 70, 103, 71]⟩ 69 W
 have HI2 : Hid (∀ W, Calls Tryz.prog 69 #[.string ⟨#[100, 105, 111, 120, 88, 117]⟩, .int .u8 69] W fun e w' => e = .returned (.int .i64 (-1)) ∧ w' = W) := fun W => Tryz.strings_IndexByte ⟨#[100, 105, 111, 120, 88, 117]⟩ 69 W
 generalize floatO m p bl al z wd pr 69 b = out at *
 unfold specA at HFl HCk ⊢
 clear hT hp1 hp2 hw hw2
 go_enter Tryz.func24, Tryz.ntmps24
 go_wp2_with fail
 refine (HCk.out _).mono ?_
 rintro e w1 ⟨rfl, hb1⟩
 have HB1 := Lib.hid (((Below.refl w.heap.size w).alloc (Nat.le_refl _) (.cells #[.bool m, .bool p, .bool bl, .bool al, .bool z, .int .i64 wd, .int .i64 pr, .int .u8 69] 35)).trans (hb1.mono (by simp)))
 have hsp : SpAt w1 w.heap.size #[.bool m, .bool p, .bool bl, .bool al, .bool z, .int .i64 wd, .int .i64 pr, .int .u8 69] := SpAt.next (heap_alloc_at w _) hb1
 have k0 : w1.cell? ⟨w.heap.size, 0, none⟩ = some (.bool m) := hsp.cell 0
 have k1 : w1.cell? ⟨w.heap.size, 1, none⟩ = some (.bool p) := hsp.cell 1
 have k2 : w1.cell? ⟨w.heap.size, 2, none⟩ = some (.bool bl) := hsp.cell 2
 have k3 : w1.cell? ⟨w.heap.size, 3, none⟩ = some (.bool al) := hsp.cell 3
 have k4 : w1.cell? ⟨w.heap.size, 4, none⟩ = some (.bool z) := hsp.cell 4
 have k5 : w1.cell? ⟨w.heap.size, 5, none⟩ = some (.int .i64 wd) := hsp.cell 5
 have k6 : w1.cell? ⟨w.heap.size, 6, none⟩ = some (.int .i64 pr) := hsp.cell 6
 have k7 : w1.cell? ⟨w.heap.size, 7, none⟩ = some (.int .u8 69) := hsp.cell 7
 clear hb1 hsp
 go_wp2_with fail
 refine (HI1.out _).mono ?_
 rintro e _ ⟨rfl, rfl⟩
 go_wp2_with fail
 refine (HPt.out _).mono ?_
 rintro e _ ⟨rfl, rfl⟩
 go_wp2_with fail
 refine (HI2.out _).mono ?_
 rintro e _ ⟨rfl, rfl⟩
 go_wp2_with fail
 refine (HFl.out _ (HT.out.below HB1.out)).mono ?_
 rintro e w2 ⟨rfl, hb2⟩
 have HB2 := Lib.hid (HB1.out.trans (hb2.mono HB1.out.size))
 clear hb2
 go_wp2_with fail
 go_ret2
 exact ⟨rfl, HB2.out⟩
set_option maxHeartbeats 4000000 in
set_option maxRecDepth 1000000 in
theorem Number_70 (m p bl al z : Bool) (wd pr : Int) (b : Nat) (w : World) (hb : b < 18446744073709551616) (hf : fin b = true) (hp1 : -1 ≤ pr) (hp2 : pr ≤ 190) (hw : 0 ≤ wd) (hw2 : wd ≤ 1024) (hT : PowOk w) :
 Calls Tryz.prog 24 #[.agg (specA m p bl al z wd pr 70), .float .f64 b] w fun e w' => e = .returned (.tuple #[.string (floatO m p bl al z wd pr 70 b), .int .i64 0]) ∧ Below w.heap.size w w' := by
 have HT := Lib.hid hT
 have HFl := Lib.hid (fun W h => float_70 m p bl al z wd pr b W hb hf hp1 hp2 hw hw2 h)
 have HCk := Lib.hid (fun W => Check_ok m p bl al z wd pr 70 W (by
  unfold okS
  rw [show ixB verbsB 70 = 9 from by decide, decide_eq_true hw, decide_eq_true hw2, decide_eq_true hp1, decide_eq_true hp2]
  rfl))
 have HPt := Lib.hid (fun W => Parts_any b W hb)
 rw [hf] at HPt
 have HI1 : Hid (∀ W, Calls Tryz.prog 69 #[.string ⟨#[100, 105, 111, 120, 88, 117, 101, 69, 102, 70, 103, 71]⟩, .int .u8 70] W fun e w' => e = .returned (.int .i64 9) ∧ w' = W) := fun W => Tryz.strings_IndexByte ⟨#[100, 105, 111, 120, 88, 117, 101, 69, 102, 70, 103, 71]⟩ 70 W
 have HI2 : Hid (∀ W, Calls Tryz.prog 69 #[.string ⟨#[100, 105, 111, 120, 88, 117]⟩, .int .u8 70] W fun e w' => e = .returned (.int .i64 (-1)) ∧ w' = W) := fun W => Tryz.strings_IndexByte ⟨#[100, 105, 111, 120, 88, 117]⟩ 70 W
 generalize floatO m p bl al z wd pr 70 b = out at *
 unfold specA at HFl HCk ⊢
 clear hT hp1 hp2 hw hw2
 go_enter Tryz.func24, Tryz.ntmps24
 go_wp2_with fail
 refine (HCk.out _).mono ?_
 rintro e w1 ⟨rfl, hb1⟩
 have HB1 := Lib.hid (((Below.refl w.heap.size w).alloc (Nat.le_refl _) (.cells #[.bool m, .bool p, .bool bl, .bool al, .bool z, .int .i64 wd, .int .i64 pr, .int .u8 70] 35)).trans (hb1.mono (by simp)))
 have hsp : SpAt w1 w.heap.size #[.bool m, .bool p, .bool bl, .bool al, .bool z, .int .i64 wd, .int .i64 pr, .int .u8 70] := SpAt.next (heap_alloc_at w _) hb1
 have k0 : w1.cell? ⟨w.heap.size, 0, none⟩ = some (.bool m) := hsp.cell 0
 have k1 : w1.cell? ⟨w.heap.size, 1, none⟩ = some (.bool p) := hsp.cell 1
 have k2 : w1.cell? ⟨w.heap.size, 2, none⟩ = some (.bool bl) := hsp.cell 2
 have k3 : w1.cell? ⟨w.heap.size, 3, none⟩ = some (.bool al) := hsp.cell 3
 have k4 : w1.cell? ⟨w.heap.size, 4, none⟩ = some (.bool z) := hsp.cell 4
 have k5 : w1.cell? ⟨w.heap.size, 5, none⟩ = some (.int .i64 wd) := hsp.cell 5
 have k6 : w1.cell? ⟨w.heap.size, 6, none⟩ = some (.int .i64 pr) := hsp.cell 6
 have k7 : w1.cell? ⟨w.heap.size, 7, none⟩ = some (.int .u8 70) := hsp.cell 7
 clear hb1 hsp
 go_wp2_with fail
 refine (HI1.out _).mono ?_
 rintro e _ ⟨rfl, rfl⟩
 go_wp2_with fail
 refine (HPt.out _).mono ?_
 rintro e _ ⟨rfl, rfl⟩
 go_wp2_with fail
 refine (HI2.out _).mono ?_
 rintro e _ ⟨rfl, rfl⟩
 go_wp2_with fail
 refine (HFl.out _ (HT.out.below HB1.out)).mono ?_
 rintro e w2 ⟨rfl, hb2⟩
 have HB2 := Lib.hid (HB1.out.trans (hb2.mono HB1.out.size))
 clear hb2
 go_wp2_with fail
 go_ret2
 exact ⟨rfl, HB2.out⟩
set_option maxHeartbeats 4000000 in
set_option maxRecDepth 1000000 in
theorem Number_103 (m p bl al z : Bool) (wd pr : Int) (b : Nat) (w : World) (hb : b < 18446744073709551616) (hf : fin b = true) (hp1 : -1 ≤ pr) (hp2 : pr ≤ 190) (hw : 0 ≤ wd) (hw2 : wd ≤ 1024) (hT : PowOk w) :
 Calls Tryz.prog 24 #[.agg (specA m p bl al z wd pr 103), .float .f64 b] w fun e w' => e = .returned (.tuple #[.string (floatO m p bl al z wd pr 103 b), .int .i64 0]) ∧ Below w.heap.size w w' := by
 have HT := Lib.hid hT
 have HFl := Lib.hid (fun W h => float_103 m p bl al z wd pr b W hb hf hp1 hp2 hw hw2 h)
 have HCk := Lib.hid (fun W => Check_ok m p bl al z wd pr 103 W (by
  unfold okS
  rw [show ixB verbsB 103 = 10 from by decide, decide_eq_true hw, decide_eq_true hw2, decide_eq_true hp1, decide_eq_true hp2]
  rfl))
 have HPt := Lib.hid (fun W => Parts_any b W hb)
 rw [hf] at HPt
 have HI1 : Hid (∀ W, Calls Tryz.prog 69 #[.string ⟨#[100, 105, 111, 120, 88, 117, 101, 69, 102, 70, 103, 71]⟩, .int .u8 103] W fun e w' => e = .returned (.int .i64 10) ∧ w' = W) := fun W => Tryz.strings_IndexByte ⟨#[100, 105, 111, 120, 88, 117, 101, 69, 102, 70, 103, 71]⟩ 103 W
 have HI2 : Hid (∀ W, Calls Tryz.prog 69 #[.string ⟨#[100, 105, 111, 120, 88, 117]⟩, .int .u8 103] W fun e w' => e = .returned (.int .i64 (-1)) ∧ w' = W) := fun W => Tryz.strings_IndexByte ⟨#[100, 105, 111, 120, 88, 117]⟩ 103 W
 generalize floatO m p bl al z wd pr 103 b = out at *
 unfold specA at HFl HCk ⊢
 clear hT hp1 hp2 hw hw2
 go_enter Tryz.func24, Tryz.ntmps24
 go_wp2_with fail
 refine (HCk.out _).mono ?_
 rintro e w1 ⟨rfl, hb1⟩
 have HB1 := Lib.hid (((Below.refl w.heap.size w).alloc (Nat.le_refl _) (.cells #[.bool m, .bool p, .bool bl, .bool al, .bool z, .int .i64 wd, .int .i64 pr, .int .u8 103] 35)).trans (hb1.mono (by simp)))
 have hsp : SpAt w1 w.heap.size #[.bool m, .bool p, .bool bl, .bool al, .bool z, .int .i64 wd, .int .i64 pr, .int .u8 103] := SpAt.next (heap_alloc_at w _) hb1
 have k0 : w1.cell? ⟨w.heap.size, 0, none⟩ = some (.bool m) := hsp.cell 0
 have k1 : w1.cell? ⟨w.heap.size, 1, none⟩ = some (.bool p) := hsp.cell 1
 have k2 : w1.cell? ⟨w.heap.size, 2, none⟩ = some (.bool bl) := hsp.cell 2
 have k3 : w1.cell? ⟨w.heap.size, 3, none⟩ = some (.bool al) := hsp.cell 3
 have k4 : w1.cell? ⟨w.heap.size, 4, none⟩ = some (.bool z) := hsp.cell 4
 have k5 : w1.cell? ⟨w.heap.size, 5, none⟩ = some (.int .i64 wd) := hsp.cell 5
 have k6 : w1.cell? ⟨w.heap.size, 6, none⟩ = some (.int .i64 pr) := hsp.cell 6
 have k7 : w1.cell? ⟨w.heap.size, 7, none⟩ = some (.int .u8 103) := hsp.cell 7
 clear hb1 hsp
 go_wp2_with fail
 refine (HI1.out _).mono ?_
 rintro e _ ⟨rfl, rfl⟩
 go_wp2_with fail
 refine (HPt.out _).mono ?_
 rintro e _ ⟨rfl, rfl⟩
 go_wp2_with fail
 refine (HI2.out _).mono ?_
 rintro e _ ⟨rfl, rfl⟩
 go_wp2_with fail
 refine (HFl.out _ (HT.out.below HB1.out)).mono ?_
 rintro e w2 ⟨rfl, hb2⟩
 have HB2 := Lib.hid (HB1.out.trans (hb2.mono HB1.out.size))
 clear hb2
 go_wp2_with fail
 go_ret2
 exact ⟨rfl, HB2.out⟩
set_option maxHeartbeats 4000000 in
set_option maxRecDepth 1000000 in
theorem Number_71 (m p bl al z : Bool) (wd pr : Int) (b : Nat) (w : World) (hb : b < 18446744073709551616) (hf : fin b = true) (hp1 : -1 ≤ pr) (hp2 : pr ≤ 190) (hw : 0 ≤ wd) (hw2 : wd ≤ 1024) (hT : PowOk w) :
 Calls Tryz.prog 24 #[.agg (specA m p bl al z wd pr 71), .float .f64 b] w fun e w' => e = .returned (.tuple #[.string (floatO m p bl al z wd pr 71 b), .int .i64 0]) ∧ Below w.heap.size w w' := by
 have HT := Lib.hid hT
 have HFl := Lib.hid (fun W h => float_71 m p bl al z wd pr b W hb hf hp1 hp2 hw hw2 h)
 have HCk := Lib.hid (fun W => Check_ok m p bl al z wd pr 71 W (by
  unfold okS
  rw [show ixB verbsB 71 = 11 from by decide, decide_eq_true hw, decide_eq_true hw2, decide_eq_true hp1, decide_eq_true hp2]
  rfl))
 have HPt := Lib.hid (fun W => Parts_any b W hb)
 rw [hf] at HPt
 have HI1 : Hid (∀ W, Calls Tryz.prog 69 #[.string ⟨#[100, 105, 111, 120, 88, 117, 101, 69, 102, 70, 103, 71]⟩, .int .u8 71] W fun e w' => e = .returned (.int .i64 11) ∧ w' = W) := fun W => Tryz.strings_IndexByte ⟨#[100, 105, 111, 120, 88, 117, 101, 69, 102, 70, 103, 71]⟩ 71 W
 have HI2 : Hid (∀ W, Calls Tryz.prog 69 #[.string ⟨#[100, 105, 111, 120, 88, 117]⟩, .int .u8 71] W fun e w' => e = .returned (.int .i64 (-1)) ∧ w' = W) := fun W => Tryz.strings_IndexByte ⟨#[100, 105, 111, 120, 88, 117]⟩ 71 W
 generalize floatO m p bl al z wd pr 71 b = out at *
 unfold specA at HFl HCk ⊢
 clear hT hp1 hp2 hw hw2
 go_enter Tryz.func24, Tryz.ntmps24
 go_wp2_with fail
 refine (HCk.out _).mono ?_
 rintro e w1 ⟨rfl, hb1⟩
 have HB1 := Lib.hid (((Below.refl w.heap.size w).alloc (Nat.le_refl _) (.cells #[.bool m, .bool p, .bool bl, .bool al, .bool z, .int .i64 wd, .int .i64 pr, .int .u8 71] 35)).trans (hb1.mono (by simp)))
 have hsp : SpAt w1 w.heap.size #[.bool m, .bool p, .bool bl, .bool al, .bool z, .int .i64 wd, .int .i64 pr, .int .u8 71] := SpAt.next (heap_alloc_at w _) hb1
 have k0 : w1.cell? ⟨w.heap.size, 0, none⟩ = some (.bool m) := hsp.cell 0
 have k1 : w1.cell? ⟨w.heap.size, 1, none⟩ = some (.bool p) := hsp.cell 1
 have k2 : w1.cell? ⟨w.heap.size, 2, none⟩ = some (.bool bl) := hsp.cell 2
 have k3 : w1.cell? ⟨w.heap.size, 3, none⟩ = some (.bool al) := hsp.cell 3
 have k4 : w1.cell? ⟨w.heap.size, 4, none⟩ = some (.bool z) := hsp.cell 4
 have k5 : w1.cell? ⟨w.heap.size, 5, none⟩ = some (.int .i64 wd) := hsp.cell 5
 have k6 : w1.cell? ⟨w.heap.size, 6, none⟩ = some (.int .i64 pr) := hsp.cell 6
 have k7 : w1.cell? ⟨w.heap.size, 7, none⟩ = some (.int .u8 71) := hsp.cell 7
 clear hb1 hsp
 go_wp2_with fail
 refine (HI1.out _).mono ?_
 rintro e _ ⟨rfl, rfl⟩
 go_wp2_with fail
 refine (HPt.out _).mono ?_
 rintro e _ ⟨rfl, rfl⟩
 go_wp2_with fail
 refine (HI2.out _).mono ?_
 rintro e _ ⟨rfl, rfl⟩
 go_wp2_with fail
 refine (HFl.out _ (HT.out.below HB1.out)).mono ?_
 rintro e w2 ⟨rfl, hb2⟩
 have HB2 := Lib.hid (HB1.out.trans (hb2.mono HB1.out.size))
 clear hb2
 go_wp2_with fail
 go_ret2
 exact ⟨rfl, HB2.out⟩
end Go.Proofs.YtfdnhkjeoeffoaaGreatDoor
end
