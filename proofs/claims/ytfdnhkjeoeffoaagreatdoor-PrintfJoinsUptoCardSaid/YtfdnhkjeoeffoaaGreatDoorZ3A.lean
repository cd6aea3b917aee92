/- What a law wants besides of the texts that are merged (A). -/
import Derived.Test.YtfdnhkjeoeffoaaGreatDoorZ3
set_option linter.unusedVariables false
set_option linter.unusedSimpArgs false
section
namespace Go.Proofs.YtfdnhkjeoeffoaaGreatDoor
open Go.RowKit
set_option linter.unusedVariables false
set_option maxHeartbeats 16000000 in
set_option maxRecDepth 1000000 in
theorem whole_100 (m p bl al z : Bool) (wd pr : Int) (b : Nat) (w : World) (hb : b < 18446744073709551616) (hf : fin b = true) (hp1 : -1 ≤ pr) (hp2 : pr ≤ 190) (hw : 0 ≤ wd) (hw2 : wd ≤ 1024) :
 Calls Tryz.prog 72 #[.agg (specA m p bl al z wd pr 100), .float .f64 b] w fun e w' => e = .returned (.string (wholeO m p bl al z wd pr 100 b)) ∧ Below w.heap.size w w' := by
 have HTr := Lib.hid (fun W => Trunc_any b W hb)
 obtain ⟨ht1, ht2⟩ := trunc_fin hb hf
 obtain ⟨l, hc, hl, hfx, hdl⟩ := whole_text hb hf
 have HFx := Lib.hid (fun W => Fixed_det (truncB b) 0 W ht1 ht2 (by decide))
 rw [hfx] at HFx
 have hnb := whole_bits5 b
 have hS : (FloatKind.f64.format.order (truncB b) 0 == some .lt) = wholeS b := rfl
 have hO : wholeO m p bl al z wd pr 100 b = ⟨(padW m p bl al z wd pr 100 b).toArray⟩ := rfl
 rw [hO]
 clear hO
 unfold padW
 generalize truncB b = T at *
 generalize wholeN b = N at *
 generalize wholeS b = S at *
 clear ht1 ht2 hfx hb hf
 have HSg := Lib.hid (fun W => sign_any m p bl al z S wd pr 100 W)
 obtain ⟨sg, hsg⟩ : ∃ sg : ByteArray, sg = ⟨(signL p bl S).toArray⟩ := ⟨_, rfl⟩
 have hsl := signL_size5 p bl S
 have hsa := signL_asc p bl S
 rw [← hsg] at HSg
 have hsgl : signL p bl S = sg.data.toList := by rw [hsg]
 rw [hsgl] at hsl hsa
 have hsgz : sg.size ≤ 1 := by rw [sz_list]; exact hsl
 clear hsg
 unfold specA at *
 by_cases hN : N = 0
 ·subst hN
  have hl48 : l = [48] := canon_0 hc
  subst hl48
  clear hc hl hdl
  by_cases hpz : pr = 0
  ·subst hpz
   obtain ⟨R, hR⟩ : ∃ R : ByteArray, R = ⟨(List.replicate 0 48).toArray⟩ := ⟨_, rfl⟩
   have HRp : Hid (∀ W, Calls Tryz.prog 114 #[.string ⟨#[48]⟩, .int .i64 0] W fun e w' => e = .returned (.string R) ∧ Below W.heap.size W w') := fun W => by rw [hR]; exact Repeat_one 48 0 W (by decide)
   have hRl : List.replicate 0 48 = R.data.toList := by rw [hR]
   have hK : True := trivial
   have hRs : R.size ≤ 190 := by rw [sz_list, ← hRl, List.length_replicate]; omega
   have hn : numW al 0 100 0 = (R ++ ⟨#[]⟩).data.toList := by unfold numW; rw [if_pos rfl, if_neg (fun h => by cases h.1), if_pos rfl, ByteArray.data_append, Array.toList_append, ← hRl]; rfl
   have hh : headW p bl al 100 S 0 = sg.data.toList := by unfold headW; rw [if_pos (by decide)]; exact hsgl
   have HPd := Lib.hid (fun W => padded_any m p bl al z (false) wd 0 100 sg (R ++ ⟨#[]⟩) W hw hw2 (by rw [sz_list]; omega) (by rw [ByteArray.size_append]; show R.size + 0 ≤ _; omega))
   unfold specA at HPd
   have hzz : (z && decide ((0 : Int) < 0)) = false := by simp
   rw [hn, hh, hzz]
   generalize (⟨(padL m (false) wd sg.data.toList (R ++ ⟨#[]⟩).data.toList).toArray⟩ : ByteArray) = out at *
   clear hn hh hR hRl hzz hK hsgl hsl hsa hnb
   cases z
   all_goals
    go_enter Tryz.func72, Tryz.ntmps72
    go_wp2_with fail
    refine (HTr.out _).mono ?_
    rintro e _ ⟨rfl, rfl⟩
    go_wp2_with fail
    refine (HFx.out _).mono ?_
    rintro e w1 ⟨rfl, hb1⟩
    have HB1 := Lib.hid (((Below.refl w.heap.size w).alloc (Nat.le_refl _) _).trans (hb1.mono (by simp)))
    have hsp := SpAt.next (show SpAt _ w.heap.size _ from heap_alloc_at w _) hb1
    obtain ⟨k0, k1, k2, k3, k4, k5, k6, k7⟩ := hsp.all8
    have HSp := Lib.hid hsp
    clear hb1 hsp
    go_wp2_with fail
    refine (HSg.out _).mono ?_
    rintro e w2 ⟨rfl, hb2⟩
    have hsp := SpAt.next HSp.out hb2
    clear HSp k0 k1 k2 k3 k4 k5 k6 k7
    obtain ⟨k0, k1, k2, k3, k4, k5, k6, k7⟩ := hsp.all8
    have HSp := Lib.hid hsp
    clear hsp
    have HB2 := Lib.hid (HB1.out.trans (hb2.mono HB1.out.size))
    clear hb2 HB1
    go_wp2_with fail
    refine (HRp.out _).mono ?_
    rintro e w3 ⟨rfl, hb3⟩
    have hsp := SpAt.next HSp.out hb3
    clear HSp k0 k1 k2 k3 k4 k5 k6 k7
    obtain ⟨k0, k1, k2, k3, k4, k5, k6, k7⟩ := hsp.all8
    have HSp := Lib.hid hsp
    clear hsp
    have HB3 := Lib.hid (HB2.out.trans (hb3.mono HB2.out.size))
    clear hb3 HB2
    go_wp2_with fail
    refine (HPd.out _).mono ?_
    rintro e w4 ⟨rfl, hb4⟩
    have hsp := SpAt.next HSp.out hb4
    clear HSp k0 k1 k2 k3 k4 k5 k6 k7
    obtain ⟨k0, k1, k2, k3, k4, k5, k6, k7⟩ := hsp.all8
    have HSp := Lib.hid hsp
    clear hsp
    have HB4 := Lib.hid (HB3.out.trans (hb4.mono HB3.out.size))
    clear hb4 HB3
    go_wp2_with fail
    go_ret
    exact ⟨rfl, HB4.out⟩
  ·have hpz2 : (pr == 0) = false := beq_eq_false_iff_ne.2 hpz
   obtain ⟨K, hK⟩ : ∃ K, K = (pr - 1 : Int).toNat := ⟨_, rfl⟩
   have HK := Lib.hid (show max 0 ((pr : Int) - 1) = (K : Int) from by omega)
   have hK2 : K ≤ 190 := by omega
   obtain ⟨R, hR⟩ : ∃ R : ByteArray, R = ⟨(List.replicate K 48).toArray⟩ := ⟨_, rfl⟩
   have HRp := Lib.hid (fun W => Repeat_one 48 K W (by omega))
   rw [← hR] at HRp
   have hRl : List.replicate K 48 = R.data.toList := by rw [hR]
   have hRs : R.size ≤ 190 := by rw [sz_list, ← hRl, List.length_replicate]; omega
   have hn : numW al pr 100 0 = (R ++ ⟨#[48]⟩).data.toList := by unfold numW; rw [if_pos rfl, if_neg (fun h => by cases h.1), if_neg hpz, ByteArray.data_append, Array.toList_append, ← hRl, hK]
   have hh : headW p bl al 100 S 0 = sg.data.toList := by unfold headW; rw [if_pos (by decide)]; exact hsgl
   have HPd := Lib.hid (fun W => padded_any m p bl al z (z && decide (pr < 0)) wd pr 100 sg (R ++ ⟨#[48]⟩) W hw hw2 (by rw [sz_list]; omega) (by rw [ByteArray.size_append]; show R.size + 1 ≤ _; omega))
   unfold specA at HPd
   have hzz : True := trivial
   rw [hn, hh]
   generalize (⟨(padL m (z && decide (pr < 0)) wd sg.data.toList (R ++ ⟨#[48]⟩).data.toList).toArray⟩ : ByteArray) = out at *
   clear hn hh hR hRl hzz hK hsgl hsl hsa hnb hpz
   cases z
   all_goals
    simp only [Bool.false_and, Bool.true_and] at HPd
    go_enter Tryz.func72, Tryz.ntmps72
    go_wp2_with fail
    refine (HTr.out _).mono ?_
    rintro e _ ⟨rfl, rfl⟩
    go_wp2_with fail
    refine (HFx.out _).mono ?_
    rintro e w1 ⟨rfl, hb1⟩
    have HB1 := Lib.hid (((Below.refl w.heap.size w).alloc (Nat.le_refl _) _).trans (hb1.mono (by simp)))
    have hsp := SpAt.next (show SpAt _ w.heap.size _ from heap_alloc_at w _) hb1
    obtain ⟨k0, k1, k2, k3, k4, k5, k6, k7⟩ := hsp.all8
    have HSp := Lib.hid hsp
    clear hb1 hsp
    go_wp2_with fail
    refine (HSg.out _).mono ?_
    rintro e w2 ⟨rfl, hb2⟩
    have hsp := SpAt.next HSp.out hb2
    clear HSp k0 k1 k2 k3 k4 k5 k6 k7
    obtain ⟨k0, k1, k2, k3, k4, k5, k6, k7⟩ := hsp.all8
    have HSp := Lib.hid hsp
    clear hsp
    have HB2 := Lib.hid (HB1.out.trans (hb2.mono HB1.out.size))
    clear hb2 HB1
    go_wp2_with fail
    rw [HK.out]
    refine (HRp.out _).mono ?_
    rintro e w3 ⟨rfl, hb3⟩
    have hsp := SpAt.next HSp.out hb3
    clear HSp k0 k1 k2 k3 k4 k5 k6 k7
    obtain ⟨k0, k1, k2, k3, k4, k5, k6, k7⟩ := hsp.all8
    have HSp := Lib.hid hsp
    clear hsp
    have HB3 := Lib.hid (HB2.out.trans (hb3.mono HB2.out.size))
    clear hb3 HB2
    go_wp2_with fail
    refine (HPd.out _).mono ?_
    rintro e w4 ⟨rfl, hb4⟩
    have hsp := SpAt.next HSp.out hb4
    clear HSp k0 k1 k2 k3 k4 k5 k6 k7
    obtain ⟨k0, k1, k2, k3, k4, k5, k6, k7⟩ := hsp.all8
    have HSp := Lib.hid hsp
    clear hsp
    have HB4 := Lib.hid (HB3.out.trans (hb4.mono HB3.out.size))
    clear hb4 HB3
    go_wp2_with fail
    go_ret
    exact ⟨rfl, HB4.out⟩
 ·have hl48 := canon_ne0 hc hN
  have hl0 := hc.ne
  obtain ⟨F, hF⟩ : ∃ F : ByteArray, F = ⟨l.toArray⟩ := ⟨_, rfl⟩
  rw [← hF] at HFx
  have hFl : F.data.toList = l := by rw [hF]
  have hF48 : (F.toList == [48]) = false := not_48 (by rw [hFl]; exact hl48)
  have hF49 : ¬ F.toList = [48] := beq_eq_false_iff_ne.1 hF48
  have hF0 : ¬ F.toList = [] := by rw [ByteArray.toList_eq, hFl]; exact hl0
  have hF2 : F.toList.isEmpty = false := isEmpty_no hF0
  have hbw : baseW al 100 N = F.data.toList := by unfold baseW; rw [if_neg (by decide), if_neg (by decide), hdl, hFl]
  have hDs : F.size ≤ 4100 := by rw [sz_list, hFl]; omega
  clear hl48 hl0 hc hdl hF hFl hl
  obtain ⟨K, hK⟩ : ∃ K, K = (pr - (F.size : Int)).toNat := ⟨_, rfl⟩
  have HK := Lib.hid (show max 0 (pr - (F.size : Int)) = (K : Int) from by omega)
  have hK2 : K ≤ 190 := by omega
  obtain ⟨R, hR⟩ : ∃ R : ByteArray, R = ⟨(List.replicate K 48).toArray⟩ := ⟨_, rfl⟩
  have HRp := Lib.hid (fun W => Repeat_one 48 K W (by omega))
  rw [← hR] at HRp
  have hRl : List.replicate K 48 = R.data.toList := by rw [hR]
  have hRs : R.size ≤ 190 := by rw [sz_list, ← hRl, List.length_replicate]; omega
  have hn : numW al pr 100 N = (R ++ F).data.toList := by unfold numW; rw [if_neg hN, hbw, ← sz_list, ← hK, hRl, ByteArray.data_append, Array.toList_append] <;> simp [ByteArray.data_append]
  have hh : headW p bl al 100 S N = sg.data.toList := by unfold headW; rw [if_pos (by decide)]; exact hsgl
  have HPd := Lib.hid (fun W => padded_any m p bl al z (z && decide (pr < 0)) wd pr 100 sg (R ++ F) W hw hw2 (by rw [sz_list]; omega) (by rw [ByteArray.size_append]; omega))
  unfold specA at HPd
  have hzz : True := trivial
  rw [hn, hh]
  generalize (⟨(padL m (z && decide (pr < 0)) wd sg.data.toList (R ++ F).data.toList).toArray⟩ : ByteArray) = out at *
  clear hn hh hR hRl hzz hK hsgl hsl hsa hnb hbw hN
  cases z
  all_goals
   simp only [Bool.false_and, Bool.true_and] at HPd
   go_enter Tryz.func72, Tryz.ntmps72
   go_wp2_with fail
   refine (HTr.out _).mono ?_
   rintro e _ ⟨rfl, rfl⟩
   go_wp2_with fail
   refine (HFx.out _).mono ?_
   rintro e w1 ⟨rfl, hb1⟩
   have HB1 := Lib.hid (((Below.refl w.heap.size w).alloc (Nat.le_refl _) _).trans (hb1.mono (by simp)))
   have hsp := SpAt.next (show SpAt _ w.heap.size _ from heap_alloc_at w _) hb1
   obtain ⟨k0, k1, k2, k3, k4, k5, k6, k7⟩ := hsp.all8
   have HSp := Lib.hid hsp
   clear hb1 hsp
   go_wp2_with fail
   refine (HSg.out _).mono ?_
   rintro e w2 ⟨rfl, hb2⟩
   have hsp := SpAt.next HSp.out hb2
   clear HSp k0 k1 k2 k3 k4 k5 k6 k7
   obtain ⟨k0, k1, k2, k3, k4, k5, k6, k7⟩ := hsp.all8
   have HSp := Lib.hid hsp
   clear hsp
   have HB2 := Lib.hid (HB1.out.trans (hb2.mono HB1.out.size))
   clear hb2 HB1
   go_wp2_with fail
   rw [HK.out]
   refine (HRp.out _).mono ?_
   rintro e w3 ⟨rfl, hb3⟩
   have hsp := SpAt.next HSp.out hb3
   clear HSp k0 k1 k2 k3 k4 k5 k6 k7
   obtain ⟨k0, k1, k2, k3, k4, k5, k6, k7⟩ := hsp.all8
   have HSp := Lib.hid hsp
   clear hsp
   have HB3 := Lib.hid (HB2.out.trans (hb3.mono HB2.out.size))
   clear hb3 HB2
   go_wp2_with fail
   refine (HPd.out _).mono ?_
   rintro e w4 ⟨rfl, hb4⟩
   have hsp := SpAt.next HSp.out hb4
   clear HSp k0 k1 k2 k3 k4 k5 k6 k7
   obtain ⟨k0, k1, k2, k3, k4, k5, k6, k7⟩ := hsp.all8
   have HSp := Lib.hid hsp
   clear hsp
   have HB4 := Lib.hid (HB3.out.trans (hb4.mono HB3.out.size))
   clear hb4 HB3
   go_wp2_with fail
   go_ret
   exact ⟨rfl, HB4.out⟩
set_option maxHeartbeats 16000000 in
set_option maxRecDepth 1000000 in
theorem whole_105 (m p bl al z : Bool) (wd pr : Int) (b : Nat) (w : World) (hb : b < 18446744073709551616) (hf : fin b = true) (hp1 : -1 ≤ pr) (hp2 : pr ≤ 190) (hw : 0 ≤ wd) (hw2 : wd ≤ 1024) :
 Calls Tryz.prog 72 #[.agg (specA m p bl al z wd pr 105), .float .f64 b] w fun e w' => e = .returned (.string (wholeO m p bl al z wd pr 105 b)) ∧ Below w.heap.size w w' := by
 have HTr := Lib.hid (fun W => Trunc_any b W hb)
 obtain ⟨ht1, ht2⟩ := trunc_fin hb hf
 obtain ⟨l, hc, hl, hfx, hdl⟩ := whole_text hb hf
 have HFx := Lib.hid (fun W => Fixed_det (truncB b) 0 W ht1 ht2 (by decide))
 rw [hfx] at HFx
 have hnb := whole_bits5 b
 have hS : (FloatKind.f64.format.order (truncB b) 0 == some .lt) = wholeS b := rfl
 have hO : wholeO m p bl al z wd pr 105 b = ⟨(padW m p bl al z wd pr 105 b).toArray⟩ := rfl
 rw [hO]
 clear hO
 unfold padW
 generalize truncB b = T at *
 generalize wholeN b = N at *
 generalize wholeS b = S at *
 clear ht1 ht2 hfx hb hf
 have HSg := Lib.hid (fun W => sign_any m p bl al z S wd pr 105 W)
 obtain ⟨sg, hsg⟩ : ∃ sg : ByteArray, sg = ⟨(signL p bl S).toArray⟩ := ⟨_, rfl⟩
 have hsl := signL_size5 p bl S
 have hsa := signL_asc p bl S
 rw [← hsg] at HSg
 have hsgl : signL p bl S = sg.data.toList := by rw [hsg]
 rw [hsgl] at hsl hsa
 have hsgz : sg.size ≤ 1 := by rw [sz_list]; exact hsl
 clear hsg
 unfold specA at *
 by_cases hN : N = 0
 ·subst hN
  have hl48 : l = [48] := canon_0 hc
  subst hl48
  clear hc hl hdl
  by_cases hpz : pr = 0
  ·subst hpz
   obtain ⟨R, hR⟩ : ∃ R : ByteArray, R = ⟨(List.replicate 0 48).toArray⟩ := ⟨_, rfl⟩
   have HRp : Hid (∀ W, Calls Tryz.prog 114 #[.string ⟨#[48]⟩, .int .i64 0] W fun e w' => e = .returned (.string R) ∧ Below W.heap.size W w') := fun W => by rw [hR]; exact Repeat_one 48 0 W (by decide)
   have hRl : List.replicate 0 48 = R.data.toList := by rw [hR]
   have hK : True := trivial
   have hRs : R.size ≤ 190 := by rw [sz_list, ← hRl, List.length_replicate]; omega
   have hn : numW al 0 105 0 = (R ++ ⟨#[]⟩).data.toList := by unfold numW; rw [if_pos rfl, if_neg (fun h => by cases h.1), if_pos rfl, ByteArray.data_append, Array.toList_append, ← hRl]; rfl
   have hh : headW p bl al 105 S 0 = sg.data.toList := by unfold headW; rw [if_pos (by decide)]; exact hsgl
   have HPd := Lib.hid (fun W => padded_any m p bl al z (false) wd 0 105 sg (R ++ ⟨#[]⟩) W hw hw2 (by rw [sz_list]; omega) (by rw [ByteArray.size_append]; show R.size + 0 ≤ _; omega))
   unfold specA at HPd
   have hzz : (z && decide ((0 : Int) < 0)) = false := by simp
   rw [hn, hh, hzz]
   generalize (⟨(padL m (false) wd sg.data.toList (R ++ ⟨#[]⟩).data.toList).toArray⟩ : ByteArray) = out at *
   clear hn hh hR hRl hzz hK hsgl hsl hsa hnb
   cases z
   all_goals
    go_enter Tryz.func72, Tryz.ntmps72
    go_wp2_with fail
    refine (HTr.out _).mono ?_
    rintro e _ ⟨rfl, rfl⟩
    go_wp2_with fail
    refine (HFx.out _).mono ?_
    rintro e w1 ⟨rfl, hb1⟩
    have HB1 := Lib.hid (((Below.refl w.heap.size w).alloc (Nat.le_refl _) _).trans (hb1.mono (by simp)))
    have hsp := SpAt.next (show SpAt _ w.heap.size _ from heap_alloc_at w _) hb1
    obtain ⟨k0, k1, k2, k3, k4, k5, k6, k7⟩ := hsp.all8
    have HSp := Lib.hid hsp
    clear hb1 hsp
    go_wp2_with fail
    refine (HSg.out _).mono ?_
    rintro e w2 ⟨rfl, hb2⟩
    have hsp := SpAt.next HSp.out hb2
    clear HSp k0 k1 k2 k3 k4 k5 k6 k7
    obtain ⟨k0, k1, k2, k3, k4, k5, k6, k7⟩ := hsp.all8
    have HSp := Lib.hid hsp
    clear hsp
    have HB2 := Lib.hid (HB1.out.trans (hb2.mono HB1.out.size))
    clear hb2 HB1
    go_wp2_with fail
    refine (HRp.out _).mono ?_
    rintro e w3 ⟨rfl, hb3⟩
    have hsp := SpAt.next HSp.out hb3
    clear HSp k0 k1 k2 k3 k4 k5 k6 k7
    obtain ⟨k0, k1, k2, k3, k4, k5, k6, k7⟩ := hsp.all8
    have HSp := Lib.hid hsp
    clear hsp
    have HB3 := Lib.hid (HB2.out.trans (hb3.mono HB2.out.size))
    clear hb3 HB2
    go_wp2_with fail
    refine (HPd.out _).mono ?_
    rintro e w4 ⟨rfl, hb4⟩
    have hsp := SpAt.next HSp.out hb4
    clear HSp k0 k1 k2 k3 k4 k5 k6 k7
    obtain ⟨k0, k1, k2, k3, k4, k5, k6, k7⟩ := hsp.all8
    have HSp := Lib.hid hsp
    clear hsp
    have HB4 := Lib.hid (HB3.out.trans (hb4.mono HB3.out.size))
    clear hb4 HB3
    go_wp2_with fail
    go_ret
    exact ⟨rfl, HB4.out⟩
  ·have hpz2 : (pr == 0) = false := beq_eq_false_iff_ne.2 hpz
   obtain ⟨K, hK⟩ : ∃ K, K = (pr - 1 : Int).toNat := ⟨_, rfl⟩
   have HK := Lib.hid (show max 0 ((pr : Int) - 1) = (K : Int) from by omega)
   have hK2 : K ≤ 190 := by omega
   obtain ⟨R, hR⟩ : ∃ R : ByteArray, R = ⟨(List.replicate K 48).toArray⟩ := ⟨_, rfl⟩
   have HRp := Lib.hid (fun W => Repeat_one 48 K W (by omega))
   rw [← hR] at HRp
   have hRl : List.replicate K 48 = R.data.toList := by rw [hR]
   have hRs : R.size ≤ 190 := by rw [sz_list, ← hRl, List.length_replicate]; omega
   have hn : numW al pr 105 0 = (R ++ ⟨#[48]⟩).data.toList := by unfold numW; rw [if_pos rfl, if_neg (fun h => by cases h.1), if_neg hpz, ByteArray.data_append, Array.toList_append, ← hRl, hK]
   have hh : headW p bl al 105 S 0 = sg.data.toList := by unfold headW; rw [if_pos (by decide)]; exact hsgl
   have HPd := Lib.hid (fun W => padded_any m p bl al z (z && decide (pr < 0)) wd pr 105 sg (R ++ ⟨#[48]⟩) W hw hw2 (by rw [sz_list]; omega) (by rw [ByteArray.size_append]; show R.size + 1 ≤ _; omega))
   unfold specA at HPd
   have hzz : True := trivial
   rw [hn, hh]
   generalize (⟨(padL m (z && decide (pr < 0)) wd sg.data.toList (R ++ ⟨#[48]⟩).data.toList).toArray⟩ : ByteArray) = out at *
   clear hn hh hR hRl hzz hK hsgl hsl hsa hnb hpz
   cases z
   all_goals
    simp only [Bool.false_and, Bool.true_and] at HPd
    go_enter Tryz.func72, Tryz.ntmps72
    go_wp2_with fail
    refine (HTr.out _).mono ?_
    rintro e _ ⟨rfl, rfl⟩
    go_wp2_with fail
    refine (HFx.out _).mono ?_
    rintro e w1 ⟨rfl, hb1⟩
    have HB1 := Lib.hid (((Below.refl w.heap.size w).alloc (Nat.le_refl _) _).trans (hb1.mono (by simp)))
    have hsp := SpAt.next (show SpAt _ w.heap.size _ from heap_alloc_at w _) hb1
    obtain ⟨k0, k1, k2, k3, k4, k5, k6, k7⟩ := hsp.all8
    have HSp := Lib.hid hsp
    clear hb1 hsp
    go_wp2_with fail
    refine (HSg.out _).mono ?_
    rintro e w2 ⟨rfl, hb2⟩
    have hsp := SpAt.next HSp.out hb2
    clear HSp k0 k1 k2 k3 k4 k5 k6 k7
    obtain ⟨k0, k1, k2, k3, k4, k5, k6, k7⟩ := hsp.all8
    have HSp := Lib.hid hsp
    clear hsp
    have HB2 := Lib.hid (HB1.out.trans (hb2.mono HB1.out.size))
    clear hb2 HB1
    go_wp2_with fail
    rw [HK.out]
    refine (HRp.out _).mono ?_
    rintro e w3 ⟨rfl, hb3⟩
    have hsp := SpAt.next HSp.out hb3
    clear HSp k0 k1 k2 k3 k4 k5 k6 k7
    obtain ⟨k0, k1, k2, k3, k4, k5, k6, k7⟩ := hsp.all8
    have HSp := Lib.hid hsp
    clear hsp
    have HB3 := Lib.hid (HB2.out.trans (hb3.mono HB2.out.size))
    clear hb3 HB2
    go_wp2_with fail
    refine (HPd.out _).mono ?_
    rintro e w4 ⟨rfl, hb4⟩
    have hsp := SpAt.next HSp.out hb4
    clear HSp k0 k1 k2 k3 k4 k5 k6 k7
    obtain ⟨k0, k1, k2, k3, k4, k5, k6, k7⟩ := hsp.all8
    have HSp := Lib.hid hsp
    clear hsp
    have HB4 := Lib.hid (HB3.out.trans (hb4.mono HB3.out.size))
    clear hb4 HB3
    go_wp2_with fail
    go_ret
    exact ⟨rfl, HB4.out⟩
 ·have hl48 := canon_ne0 hc hN
  have hl0 := hc.ne
  obtain ⟨F, hF⟩ : ∃ F : ByteArray, F = ⟨l.toArray⟩ := ⟨_, rfl⟩
  rw [← hF] at HFx
  have hFl : F.data.toList = l := by rw [hF]
  have hF48 : (F.toList == [48]) = false := not_48 (by rw [hFl]; exact hl48)
  have hF49 : ¬ F.toList = [48] := beq_eq_false_iff_ne.1 hF48
  have hF0 : ¬ F.toList = [] := by rw [ByteArray.toList_eq, hFl]; exact hl0
  have hF2 : F.toList.isEmpty = false := isEmpty_no hF0
  have hbw : baseW al 105 N = F.data.toList := by unfold baseW; rw [if_neg (by decide), if_neg (by decide), hdl, hFl]
  have hDs : F.size ≤ 4100 := by rw [sz_list, hFl]; omega
  clear hl48 hl0 hc hdl hF hFl hl
  obtain ⟨K, hK⟩ : ∃ K, K = (pr - (F.size : Int)).toNat := ⟨_, rfl⟩
  have HK := Lib.hid (show max 0 (pr - (F.size : Int)) = (K : Int) from by omega)
  have hK2 : K ≤ 190 := by omega
  obtain ⟨R, hR⟩ : ∃ R : ByteArray, R = ⟨(List.replicate K 48).toArray⟩ := ⟨_, rfl⟩
  have HRp := Lib.hid (fun W => Repeat_one 48 K W (by omega))
  rw [← hR] at HRp
  have hRl : List.replicate K 48 = R.data.toList := by rw [hR]
  have hRs : R.size ≤ 190 := by rw [sz_list, ← hRl, List.length_replicate]; omega
  have hn : numW al pr 105 N = (R ++ F).data.toList := by unfold numW; rw [if_neg hN, hbw, ← sz_list, ← hK, hRl, ByteArray.data_append, Array.toList_append] <;> simp [ByteArray.data_append]
  have hh : headW p bl al 105 S N = sg.data.toList := by unfold headW; rw [if_pos (by decide)]; exact hsgl
  have HPd := Lib.hid (fun W => padded_any m p bl al z (z && decide (pr < 0)) wd pr 105 sg (R ++ F) W hw hw2 (by rw [sz_list]; omega) (by rw [ByteArray.size_append]; omega))
  unfold specA at HPd
  have hzz : True := trivial
  rw [hn, hh]
  generalize (⟨(padL m (z && decide (pr < 0)) wd sg.data.toList (R ++ F).data.toList).toArray⟩ : ByteArray) = out at *
  clear hn hh hR hRl hzz hK hsgl hsl hsa hnb hbw hN
  cases z
  all_goals
   simp only [Bool.false_and, Bool.true_and] at HPd
   go_enter Tryz.func72, Tryz.ntmps72
   go_wp2_with fail
   refine (HTr.out _).mono ?_
   rintro e _ ⟨rfl, rfl⟩
   go_wp2_with fail
   refine (HFx.out _).mono ?_
   rintro e w1 ⟨rfl, hb1⟩
   have HB1 := Lib.hid (((Below.refl w.heap.size w).alloc (Nat.le_refl _) _).trans (hb1.mono (by simp)))
   have hsp := SpAt.next (show SpAt _ w.heap.size _ from heap_alloc_at w _) hb1
   obtain ⟨k0, k1, k2, k3, k4, k5, k6, k7⟩ := hsp.all8
   have HSp := Lib.hid hsp
   clear hb1 hsp
   go_wp2_with fail
   refine (HSg.out _).mono ?_
   rintro e w2 ⟨rfl, hb2⟩
   have hsp := SpAt.next HSp.out hb2
   clear HSp k0 k1 k2 k3 k4 k5 k6 k7
   obtain ⟨k0, k1, k2, k3, k4, k5, k6, k7⟩ := hsp.all8
   have HSp := Lib.hid hsp
   clear hsp
   have HB2 := Lib.hid (HB1.out.trans (hb2.mono HB1.out.size))
   clear hb2 HB1
   go_wp2_with fail
   rw [HK.out]
   refine (HRp.out _).mono ?_
   rintro e w3 ⟨rfl, hb3⟩
   have hsp := SpAt.next HSp.out hb3
   clear HSp k0 k1 k2 k3 k4 k5 k6 k7
   obtain ⟨k0, k1, k2, k3, k4, k5, k6, k7⟩ := hsp.all8
   have HSp := Lib.hid hsp
   clear hsp
   have HB3 := Lib.hid (HB2.out.trans (hb3.mono HB2.out.size))
   clear hb3 HB2
   go_wp2_with fail
   refine (HPd.out _).mono ?_
   rintro e w4 ⟨rfl, hb4⟩
   have hsp := SpAt.next HSp.out hb4
   clear HSp k0 k1 k2 k3 k4 k5 k6 k7
   obtain ⟨k0, k1, k2, k3, k4, k5, k6, k7⟩ := hsp.all8
   have HSp := Lib.hid hsp
   clear hsp
   have HB4 := Lib.hid (HB3.out.trans (hb4.mono HB3.out.size))
   clear hb4 HB3
   go_wp2_with fail
   go_ret
   exact ⟨rfl, HB4.out⟩
set_option maxHeartbeats 16000000 in
set_option maxRecDepth 1000000 in
theorem whole_117 (m p bl al z : Bool) (wd pr : Int) (b : Nat) (w : World) (hb : b < 18446744073709551616) (hf : fin b = true) (hp1 : -1 ≤ pr) (hp2 : pr ≤ 190) (hw : 0 ≤ wd) (hw2 : wd ≤ 1024) :
 Calls Tryz.prog 72 #[.agg (specA m p bl al z wd pr 117), .float .f64 b] w fun e w' => e = .returned (.string (wholeO m p bl al z wd pr 117 b)) ∧ Below w.heap.size w w' := by
 have HTr := Lib.hid (fun W => Trunc_any b W hb)
 obtain ⟨ht1, ht2⟩ := trunc_fin hb hf
 obtain ⟨l, hc, hl, hfx, hdl⟩ := whole_text hb hf
 have HFx := Lib.hid (fun W => Fixed_det (truncB b) 0 W ht1 ht2 (by decide))
 rw [hfx] at HFx
 have hnb := whole_bits5 b
 have hS : (FloatKind.f64.format.order (truncB b) 0 == some .lt) = wholeS b := rfl
 have hO : wholeO m p bl al z wd pr 117 b = ⟨(padW m p bl al z wd pr 117 b).toArray⟩ := rfl
 rw [hO]
 clear hO
 unfold padW
 generalize truncB b = T at *
 generalize wholeN b = N at *
 generalize wholeS b = S at *
 clear ht1 ht2 hfx hb hf
 have HSg := Lib.hid (fun W => sign_any false false false false false S 0 0 0 W)
 obtain ⟨sg, hsg⟩ : ∃ sg : ByteArray, sg = ⟨(signL false false S).toArray⟩ := ⟨_, rfl⟩
 have hsl := signL_size5 false false S
 have hsa := signL_asc false false S
 rw [← hsg] at HSg
 have hsgl : signL false false S = sg.data.toList := by rw [hsg]
 rw [hsgl] at hsl hsa
 have hsgz : sg.size ≤ 1 := by rw [sz_list]; exact hsl
 clear hsg
 unfold specA at *
 by_cases hN : N = 0
 ·subst hN
  have hl48 : l = [48] := canon_0 hc
  subst hl48
  clear hc hl hdl
  by_cases hpz : pr = 0
  ·subst hpz
   obtain ⟨R, hR⟩ : ∃ R : ByteArray, R = ⟨(List.replicate 0 48).toArray⟩ := ⟨_, rfl⟩
   have HRp : Hid (∀ W, Calls Tryz.prog 114 #[.string ⟨#[48]⟩, .int .i64 0] W fun e w' => e = .returned (.string R) ∧ Below W.heap.size W w') := fun W => by rw [hR]; exact Repeat_one 48 0 W (by decide)
   have hRl : List.replicate 0 48 = R.data.toList := by rw [hR]
   have hK : True := trivial
   have hRs : R.size ≤ 190 := by rw [sz_list, ← hRl, List.length_replicate]; omega
   have hn : numW al 0 117 0 = (R ++ ⟨#[]⟩).data.toList := by unfold numW; rw [if_pos rfl, if_neg (fun h => by cases h.1), if_pos rfl, ByteArray.data_append, Array.toList_append, ← hRl]; rfl
   have hh : headW p bl al 117 S 0 = sg.data.toList := by unfold headW; rw [if_neg (by decide), if_neg (fun h => h.2.2 rfl), if_neg (fun h => by cases h.1)]; exact hsgl
   have HPd := Lib.hid (fun W => padded_any m p bl al z (false) wd 0 117 sg (R ++ ⟨#[]⟩) W hw hw2 (by rw [sz_list]; omega) (by rw [ByteArray.size_append]; show R.size + 0 ≤ _; omega))
   unfold specA at HPd
   have hzz : (z && decide ((0 : Int) < 0)) = false := by simp
   rw [hn, hh, hzz]
   generalize (⟨(padL m (false) wd sg.data.toList (R ++ ⟨#[]⟩).data.toList).toArray⟩ : ByteArray) = out at *
   clear hn hh hR hRl hzz hK hsgl hsl hsa hnb
   cases z
   all_goals
    go_enter Tryz.func72, Tryz.ntmps72
    go_wp2_with fail
    refine (HTr.out _).mono ?_
    rintro e _ ⟨rfl, rfl⟩
    go_wp2_with fail
    refine (HFx.out _).mono ?_
    rintro e w1 ⟨rfl, hb1⟩
    have HB1 := Lib.hid (((Below.refl w.heap.size w).alloc (Nat.le_refl _) _).trans (hb1.mono (by simp)))
    have hsp := SpAt.next (show SpAt _ w.heap.size _ from heap_alloc_at w _) hb1
    obtain ⟨k0, k1, k2, k3, k4, k5, k6, k7⟩ := hsp.all8
    have HSp := Lib.hid hsp
    clear hb1 hsp
    go_wp2_with fail
    refine (HSg.out _).mono ?_
    rintro e w2 ⟨rfl, hb2⟩
    have hsp := SpAt.next HSp.out hb2
    clear HSp k0 k1 k2 k3 k4 k5 k6 k7
    obtain ⟨k0, k1, k2, k3, k4, k5, k6, k7⟩ := hsp.all8
    have HSp := Lib.hid hsp
    clear hsp
    have HB2 := Lib.hid (HB1.out.trans (hb2.mono HB1.out.size))
    clear hb2 HB1
    go_wp2_with fail
    refine (HRp.out _).mono ?_
    rintro e w3 ⟨rfl, hb3⟩
    have hsp := SpAt.next HSp.out hb3
    clear HSp k0 k1 k2 k3 k4 k5 k6 k7
    obtain ⟨k0, k1, k2, k3, k4, k5, k6, k7⟩ := hsp.all8
    have HSp := Lib.hid hsp
    clear hsp
    have HB3 := Lib.hid (HB2.out.trans (hb3.mono HB2.out.size))
    clear hb3 HB2
    go_wp2_with fail
    refine (HPd.out _).mono ?_
    rintro e w4 ⟨rfl, hb4⟩
    have hsp := SpAt.next HSp.out hb4
    clear HSp k0 k1 k2 k3 k4 k5 k6 k7
    obtain ⟨k0, k1, k2, k3, k4, k5, k6, k7⟩ := hsp.all8
    have HSp := Lib.hid hsp
    clear hsp
    have HB4 := Lib.hid (HB3.out.trans (hb4.mono HB3.out.size))
    clear hb4 HB3
    go_wp2_with fail
    go_ret
    exact ⟨rfl, HB4.out⟩
  ·have hpz2 : (pr == 0) = false := beq_eq_false_iff_ne.2 hpz
   obtain ⟨K, hK⟩ : ∃ K, K = (pr - 1 : Int).toNat := ⟨_, rfl⟩
   have HK := Lib.hid (show max 0 ((pr : Int) - 1) = (K : Int) from by omega)
   have hK2 : K ≤ 190 := by omega
   obtain ⟨R, hR⟩ : ∃ R : ByteArray, R = ⟨(List.replicate K 48).toArray⟩ := ⟨_, rfl⟩
   have HRp := Lib.hid (fun W => Repeat_one 48 K W (by omega))
   rw [← hR] at HRp
   have hRl : List.replicate K 48 = R.data.toList := by rw [hR]
   have hRs : R.size ≤ 190 := by rw [sz_list, ← hRl, List.length_replicate]; omega
   have hn : numW al pr 117 0 = (R ++ ⟨#[48]⟩).data.toList := by unfold numW; rw [if_pos rfl, if_neg (fun h => by cases h.1), if_neg hpz, ByteArray.data_append, Array.toList_append, ← hRl, hK]
   have hh : headW p bl al 117 S 0 = sg.data.toList := by unfold headW; rw [if_neg (by decide), if_neg (fun h => h.2.2 rfl), if_neg (fun h => by cases h.1)]; exact hsgl
   have HPd := Lib.hid (fun W => padded_any m p bl al z (z && decide (pr < 0)) wd pr 117 sg (R ++ ⟨#[48]⟩) W hw hw2 (by rw [sz_list]; omega) (by rw [ByteArray.size_append]; show R.size + 1 ≤ _; omega))
   unfold specA at HPd
   have hzz : True := trivial
   rw [hn, hh]
   generalize (⟨(padL m (z && decide (pr < 0)) wd sg.data.toList (R ++ ⟨#[48]⟩).data.toList).toArray⟩ : ByteArray) = out at *
   clear hn hh hR hRl hzz hK hsgl hsl hsa hnb hpz
   cases z
   all_goals
    simp only [Bool.false_and, Bool.true_and] at HPd
    go_enter Tryz.func72, Tryz.ntmps72
    go_wp2_with fail
    refine (HTr.out _).mono ?_
    rintro e _ ⟨rfl, rfl⟩
    go_wp2_with fail
    refine (HFx.out _).mono ?_
    rintro e w1 ⟨rfl, hb1⟩
    have HB1 := Lib.hid (((Below.refl w.heap.size w).alloc (Nat.le_refl _) _).trans (hb1.mono (by simp)))
    have hsp := SpAt.next (show SpAt _ w.heap.size _ from heap_alloc_at w _) hb1
    obtain ⟨k0, k1, k2, k3, k4, k5, k6, k7⟩ := hsp.all8
    have HSp := Lib.hid hsp
    clear hb1 hsp
    go_wp2_with fail
    refine (HSg.out _).mono ?_
    rintro e w2 ⟨rfl, hb2⟩
    have hsp := SpAt.next HSp.out hb2
    clear HSp k0 k1 k2 k3 k4 k5 k6 k7
    obtain ⟨k0, k1, k2, k3, k4, k5, k6, k7⟩ := hsp.all8
    have HSp := Lib.hid hsp
    clear hsp
    have HB2 := Lib.hid (HB1.out.trans (hb2.mono HB1.out.size))
    clear hb2 HB1
    go_wp2_with fail
    rw [HK.out]
    refine (HRp.out _).mono ?_
    rintro e w3 ⟨rfl, hb3⟩
    have hsp := SpAt.next HSp.out hb3
    clear HSp k0 k1 k2 k3 k4 k5 k6 k7
    obtain ⟨k0, k1, k2, k3, k4, k5, k6, k7⟩ := hsp.all8
    have HSp := Lib.hid hsp
    clear hsp
    have HB3 := Lib.hid (HB2.out.trans (hb3.mono HB2.out.size))
    clear hb3 HB2
    go_wp2_with fail
    refine (HPd.out _).mono ?_
    rintro e w4 ⟨rfl, hb4⟩
    have hsp := SpAt.next HSp.out hb4
    clear HSp k0 k1 k2 k3 k4 k5 k6 k7
    obtain ⟨k0, k1, k2, k3, k4, k5, k6, k7⟩ := hsp.all8
    have HSp := Lib.hid hsp
    clear hsp
    have HB4 := Lib.hid (HB3.out.trans (hb4.mono HB3.out.size))
    clear hb4 HB3
    go_wp2_with fail
    go_ret
    exact ⟨rfl, HB4.out⟩
 ·have hl48 := canon_ne0 hc hN
  have hl0 := hc.ne
  obtain ⟨F, hF⟩ : ∃ F : ByteArray, F = ⟨l.toArray⟩ := ⟨_, rfl⟩
  rw [← hF] at HFx
  have hFl : F.data.toList = l := by rw [hF]
  have hF48 : (F.toList == [48]) = false := not_48 (by rw [hFl]; exact hl48)
  have hF49 : ¬ F.toList = [48] := beq_eq_false_iff_ne.1 hF48
  have hF0 : ¬ F.toList = [] := by rw [ByteArray.toList_eq, hFl]; exact hl0
  have hF2 : F.toList.isEmpty = false := isEmpty_no hF0
  have hbw : baseW al 117 N = F.data.toList := by unfold baseW; rw [if_neg (by decide), if_neg (by decide), hdl, hFl]
  have hDs : F.size ≤ 4100 := by rw [sz_list, hFl]; omega
  clear hl48 hl0 hc hdl hF hFl hl
  obtain ⟨K, hK⟩ : ∃ K, K = (pr - (F.size : Int)).toNat := ⟨_, rfl⟩
  have HK := Lib.hid (show max 0 (pr - (F.size : Int)) = (K : Int) from by omega)
  have hK2 : K ≤ 190 := by omega
  obtain ⟨R, hR⟩ : ∃ R : ByteArray, R = ⟨(List.replicate K 48).toArray⟩ := ⟨_, rfl⟩
  have HRp := Lib.hid (fun W => Repeat_one 48 K W (by omega))
  rw [← hR] at HRp
  have hRl : List.replicate K 48 = R.data.toList := by rw [hR]
  have hRs : R.size ≤ 190 := by rw [sz_list, ← hRl, List.length_replicate]; omega
  have hn : numW al pr 117 N = (R ++ F).data.toList := by unfold numW; rw [if_neg hN, hbw, ← sz_list, ← hK, hRl, ByteArray.data_append, Array.toList_append] <;> simp [ByteArray.data_append]
  have hh : headW p bl al 117 S N = sg.data.toList := by unfold headW; rw [if_neg (by decide), if_neg (fun h => by rcases h.1 with h | h <;> cases h), if_neg (fun h => hN h.2.2)]; exact hsgl
  have HPd := Lib.hid (fun W => padded_any m p bl al z (z && decide (pr < 0)) wd pr 117 sg (R ++ F) W hw hw2 (by rw [sz_list]; omega) (by rw [ByteArray.size_append]; omega))
  unfold specA at HPd
  have hzz : True := trivial
  rw [hn, hh]
  generalize (⟨(padL m (z && decide (pr < 0)) wd sg.data.toList (R ++ F).data.toList).toArray⟩ : ByteArray) = out at *
  clear hn hh hR hRl hzz hK hsgl hsl hsa hnb hbw hN
  cases z
  all_goals
   simp only [Bool.false_and, Bool.true_and] at HPd
   go_enter Tryz.func72, Tryz.ntmps72
   go_wp2_with fail
   refine (HTr.out _).mono ?_
   rintro e _ ⟨rfl, rfl⟩
   go_wp2_with fail
   refine (HFx.out _).mono ?_
   rintro e w1 ⟨rfl, hb1⟩
   have HB1 := Lib.hid (((Below.refl w.heap.size w).alloc (Nat.le_refl _) _).trans (hb1.mono (by simp)))
   have hsp := SpAt.next (show SpAt _ w.heap.size _ from heap_alloc_at w _) hb1
   obtain ⟨k0, k1, k2, k3, k4, k5, k6, k7⟩ := hsp.all8
   have HSp := Lib.hid hsp
   clear hb1 hsp
   go_wp2_with fail
   refine (HSg.out _).mono ?_
   rintro e w2 ⟨rfl, hb2⟩
   have hsp := SpAt.next HSp.out hb2
   clear HSp k0 k1 k2 k3 k4 k5 k6 k7
   obtain ⟨k0, k1, k2, k3, k4, k5, k6, k7⟩ := hsp.all8
   have HSp := Lib.hid hsp
   clear hsp
   have HB2 := Lib.hid (HB1.out.trans (hb2.mono HB1.out.size))
   clear hb2 HB1
   go_wp2_with fail
   rw [HK.out]
   refine (HRp.out _).mono ?_
   rintro e w3 ⟨rfl, hb3⟩
   have hsp := SpAt.next HSp.out hb3
   clear HSp k0 k1 k2 k3 k4 k5 k6 k7
   obtain ⟨k0, k1, k2, k3, k4, k5, k6, k7⟩ := hsp.all8
   have HSp := Lib.hid hsp
   clear hsp
   have HB3 := Lib.hid (HB2.out.trans (hb3.mono HB2.out.size))
   clear hb3 HB2
   go_wp2_with fail
   refine (HPd.out _).mono ?_
   rintro e w4 ⟨rfl, hb4⟩
   have hsp := SpAt.next HSp.out hb4
   clear HSp k0 k1 k2 k3 k4 k5 k6 k7
   obtain ⟨k0, k1, k2, k3, k4, k5, k6, k7⟩ := hsp.all8
   have HSp := Lib.hid hsp
   clear hsp
   have HB4 := Lib.hid (HB3.out.trans (hb4.mono HB3.out.size))
   clear hb4 HB3
   go_wp2_with fail
   go_ret
   exact ⟨rfl, HB4.out⟩
set_option maxHeartbeats 16000000 in
set_option maxRecDepth 1000000 in
theorem whole_111 (m p bl al z : Bool) (wd pr : Int) (b : Nat) (w : World) (hb : b < 18446744073709551616) (hf : fin b = true) (hp1 : -1 ≤ pr) (hp2 : pr ≤ 190) (hw : 0 ≤ wd) (hw2 : wd ≤ 1024) :
 Calls Tryz.prog 72 #[.agg (specA m p bl al z wd pr 111), .float .f64 b] w fun e w' => e = .returned (.string (wholeO m p bl al z wd pr 111 b)) ∧ Below w.heap.size w w' := by
 have HTr := Lib.hid (fun W => Trunc_any b W hb)
 obtain ⟨ht1, ht2⟩ := trunc_fin hb hf
 obtain ⟨l, hc, hl, hfx, hdl⟩ := whole_text hb hf
 have HFx := Lib.hid (fun W => Fixed_det (truncB b) 0 W ht1 ht2 (by decide))
 rw [hfx] at HFx
 have hnb := whole_bits5 b
 have hS : (FloatKind.f64.format.order (truncB b) 0 == some .lt) = wholeS b := rfl
 have hO : wholeO m p bl al z wd pr 111 b = ⟨(padW m p bl al z wd pr 111 b).toArray⟩ := rfl
 rw [hO]
 clear hO
 unfold padW
 generalize truncB b = T at *
 generalize wholeN b = N at *
 generalize wholeS b = S at *
 clear ht1 ht2 hfx hb hf
 have HSg := Lib.hid (fun W => sign_any false false false false false S 0 0 0 W)
 obtain ⟨sg, hsg⟩ : ∃ sg : ByteArray, sg = ⟨(signL false false S).toArray⟩ := ⟨_, rfl⟩
 have hsl := signL_size5 false false S
 have hsa := signL_asc false false S
 rw [← hsg] at HSg
 have hsgl : signL false false S = sg.data.toList := by rw [hsg]
 rw [hsgl] at hsl hsa
 have hsgz : sg.size ≤ 1 := by rw [sz_list]; exact hsl
 clear hsg
 unfold specA at *
 cases al
 ·by_cases hN : N = 0
  ·subst hN
   have hl48 : l = [48] := canon_0 hc
   subst hl48
   clear hc hl hdl
   have HIb : Hid (∀ W, Calls Tryz.prog 129 #[.string ⟨#[48]⟩, .int .u64 8] W fun e w' => e = .returned (.string ⟨#[]⟩) ∧ Below W.heap.size W w') := fun W => inBase_any ⟨#[48]⟩ 0 8 W ⟨by simp, fun c hc => by (simp at hc; subst hc; decide), by decide, fun c r e hc => by (cases e; rfl)⟩ (by decide) (by decide) (by decide) (by decide)
   by_cases hpz : pr = 0
   ·subst hpz
    obtain ⟨R, hR⟩ : ∃ R : ByteArray, R = ⟨(List.replicate 0 48).toArray⟩ := ⟨_, rfl⟩
    have HRp : Hid (∀ W, Calls Tryz.prog 114 #[.string ⟨#[48]⟩, .int .i64 0] W fun e w' => e = .returned (.string R) ∧ Below W.heap.size W w') := fun W => by rw [hR]; exact Repeat_one 48 0 W (by decide)
    have hRl : List.replicate 0 48 = R.data.toList := by rw [hR]
    have hK : True := trivial
    have hRs : R.size ≤ 190 := by rw [sz_list, ← hRl, List.length_replicate]; omega
    have hn : numW false 0 111 0 = (R ++ ⟨#[]⟩).data.toList := by unfold numW; rw [if_pos rfl, if_neg (fun h => by cases h.2), if_pos rfl, ByteArray.data_append, Array.toList_append, ← hRl]; rfl
    have hh : headW p bl false 111 S 0 = sg.data.toList := by unfold headW; rw [if_neg (by decide), if_neg (fun h => h.2.2 rfl), if_neg (fun h => by cases h.2.1)]; exact hsgl
    have HPd := Lib.hid (fun W => padded_any m p bl false z (false) wd 0 111 sg (R ++ ⟨#[]⟩) W hw hw2 (by rw [sz_list]; omega) (by rw [ByteArray.size_append]; show R.size + 0 ≤ _; omega))
    unfold specA at HPd
    have hzz : (z && decide ((0 : Int) < 0)) = false := by simp
    rw [hn, hh, hzz]
    generalize (⟨(padL m (false) wd sg.data.toList (R ++ ⟨#[]⟩).data.toList).toArray⟩ : ByteArray) = out at *
    clear hn hh hR hRl hzz hK hsgl hsl hsa hnb
    cases z
    all_goals
     go_enter Tryz.func72, Tryz.ntmps72
     go_wp2_with fail
     refine (HTr.out _).mono ?_
     rintro e _ ⟨rfl, rfl⟩
     go_wp2_with fail
     refine (HFx.out _).mono ?_
     rintro e w1 ⟨rfl, hb1⟩
     have HB1 := Lib.hid (((Below.refl w.heap.size w).alloc (Nat.le_refl _) _).trans (hb1.mono (by simp)))
     have hsp := SpAt.next (show SpAt _ w.heap.size _ from heap_alloc_at w _) hb1
     obtain ⟨k0, k1, k2, k3, k4, k5, k6, k7⟩ := hsp.all8
     have HSp := Lib.hid hsp
     clear hb1 hsp
     go_wp2_with fail
     refine (HSg.out _).mono ?_
     rintro e w2 ⟨rfl, hb2⟩
     have hsp := SpAt.next HSp.out hb2
     clear HSp k0 k1 k2 k3 k4 k5 k6 k7
     obtain ⟨k0, k1, k2, k3, k4, k5, k6, k7⟩ := hsp.all8
     have HSp := Lib.hid hsp
     clear hsp
     have HB2 := Lib.hid (HB1.out.trans (hb2.mono HB1.out.size))
     clear hb2 HB1
     go_wp2_with fail
     refine (HIb.out _).mono ?_
     rintro e w3 ⟨rfl, hb3⟩
     have hsp := SpAt.next HSp.out hb3
     clear HSp k0 k1 k2 k3 k4 k5 k6 k7
     obtain ⟨k0, k1, k2, k3, k4, k5, k6, k7⟩ := hsp.all8
     have HSp := Lib.hid hsp
     clear hsp
     have HB3 := Lib.hid (HB2.out.trans (hb3.mono HB2.out.size))
     clear hb3 HB2
     go_wp2_with fail
     refine (HRp.out _).mono ?_
     rintro e w4 ⟨rfl, hb4⟩
     have hsp := SpAt.next HSp.out hb4
     clear HSp k0 k1 k2 k3 k4 k5 k6 k7
     obtain ⟨k0, k1, k2, k3, k4, k5, k6, k7⟩ := hsp.all8
     have HSp := Lib.hid hsp
     clear hsp
     have HB4 := Lib.hid (HB3.out.trans (hb4.mono HB3.out.size))
     clear hb4 HB3
     go_wp2_with fail
     refine (HPd.out _).mono ?_
     rintro e w5 ⟨rfl, hb5⟩
     have hsp := SpAt.next HSp.out hb5
     clear HSp k0 k1 k2 k3 k4 k5 k6 k7
     obtain ⟨k0, k1, k2, k3, k4, k5, k6, k7⟩ := hsp.all8
     have HSp := Lib.hid hsp
     clear hsp
     have HB5 := Lib.hid (HB4.out.trans (hb5.mono HB4.out.size))
     clear hb5 HB4
     go_wp2_with fail
     go_ret
     exact ⟨rfl, HB5.out⟩
   ·have hpz2 : (pr == 0) = false := beq_eq_false_iff_ne.2 hpz
    obtain ⟨K, hK⟩ : ∃ K, K = (pr - 1 : Int).toNat := ⟨_, rfl⟩
    have HK := Lib.hid (show max 0 ((pr : Int) - 1) = (K : Int) from by omega)
    have hK2 : K ≤ 190 := by omega
    obtain ⟨R, hR⟩ : ∃ R : ByteArray, R = ⟨(List.replicate K 48).toArray⟩ := ⟨_, rfl⟩
    have HRp := Lib.hid (fun W => Repeat_one 48 K W (by omega))
    rw [← hR] at HRp
    have hRl : List.replicate K 48 = R.data.toList := by rw [hR]
    have hRs : R.size ≤ 190 := by rw [sz_list, ← hRl, List.length_replicate]; omega
    have hn : numW false pr 111 0 = (R ++ ⟨#[48]⟩).data.toList := by unfold numW; rw [if_pos rfl, if_neg (fun h => by cases h.2), if_neg hpz, ByteArray.data_append, Array.toList_append, ← hRl, hK]
    have hh : headW p bl false 111 S 0 = sg.data.toList := by unfold headW; rw [if_neg (by decide), if_neg (fun h => h.2.2 rfl), if_neg (fun h => by cases h.2.1)]; exact hsgl
    have HPd := Lib.hid (fun W => padded_any m p bl false z (z && decide (pr < 0)) wd pr 111 sg (R ++ ⟨#[48]⟩) W hw hw2 (by rw [sz_list]; omega) (by rw [ByteArray.size_append]; show R.size + 1 ≤ _; omega))
    unfold specA at HPd
    have hzz : True := trivial
    rw [hn, hh]
    generalize (⟨(padL m (z && decide (pr < 0)) wd sg.data.toList (R ++ ⟨#[48]⟩).data.toList).toArray⟩ : ByteArray) = out at *
    clear hn hh hR hRl hzz hK hsgl hsl hsa hnb hpz
    cases z
    all_goals
     simp only [Bool.false_and, Bool.true_and] at HPd
     go_enter Tryz.func72, Tryz.ntmps72
     go_wp2_with fail
     refine (HTr.out _).mono ?_
     rintro e _ ⟨rfl, rfl⟩
     go_wp2_with fail
     refine (HFx.out _).mono ?_
     rintro e w1 ⟨rfl, hb1⟩
     have HB1 := Lib.hid (((Below.refl w.heap.size w).alloc (Nat.le_refl _) _).trans (hb1.mono (by simp)))
     have hsp := SpAt.next (show SpAt _ w.heap.size _ from heap_alloc_at w _) hb1
     obtain ⟨k0, k1, k2, k3, k4, k5, k6, k7⟩ := hsp.all8
     have HSp := Lib.hid hsp
     clear hb1 hsp
     go_wp2_with fail
     refine (HSg.out _).mono ?_
     rintro e w2 ⟨rfl, hb2⟩
     have hsp := SpAt.next HSp.out hb2
     clear HSp k0 k1 k2 k3 k4 k5 k6 k7
     obtain ⟨k0, k1, k2, k3, k4, k5, k6, k7⟩ := hsp.all8
     have HSp := Lib.hid hsp
     clear hsp
     have HB2 := Lib.hid (HB1.out.trans (hb2.mono HB1.out.size))
     clear hb2 HB1
     go_wp2_with fail
     refine (HIb.out _).mono ?_
     rintro e w3 ⟨rfl, hb3⟩
     have hsp := SpAt.next HSp.out hb3
     clear HSp k0 k1 k2 k3 k4 k5 k6 k7
     obtain ⟨k0, k1, k2, k3, k4, k5, k6, k7⟩ := hsp.all8
     have HSp := Lib.hid hsp
     clear hsp
     have HB3 := Lib.hid (HB2.out.trans (hb3.mono HB2.out.size))
     clear hb3 HB2
     go_wp2_with fail
     rw [HK.out]
     refine (HRp.out _).mono ?_
     rintro e w4 ⟨rfl, hb4⟩
     have hsp := SpAt.next HSp.out hb4
     clear HSp k0 k1 k2 k3 k4 k5 k6 k7
     obtain ⟨k0, k1, k2, k3, k4, k5, k6, k7⟩ := hsp.all8
     have HSp := Lib.hid hsp
     clear hsp
     have HB4 := Lib.hid (HB3.out.trans (hb4.mono HB3.out.size))
     clear hb4 HB3
     go_wp2_with fail
     refine (HPd.out _).mono ?_
     rintro e w5 ⟨rfl, hb5⟩
     have hsp := SpAt.next HSp.out hb5
     clear HSp k0 k1 k2 k3 k4 k5 k6 k7
     obtain ⟨k0, k1, k2, k3, k4, k5, k6, k7⟩ := hsp.all8
     have HSp := Lib.hid hsp
     clear hsp
     have HB5 := Lib.hid (HB4.out.trans (hb5.mono HB4.out.size))
     clear hb5 HB4
     go_wp2_with fail
     go_ret
     exact ⟨rfl, HB5.out⟩
  ·have hl48 := canon_ne0 hc hN
   have hl0 := hc.ne
   obtain ⟨F, hF⟩ : ∃ F : ByteArray, F = ⟨l.toArray⟩ := ⟨_, rfl⟩
   rw [← hF] at HFx
   have hFl : F.data.toList = l := by rw [hF]
   have hF48 : (F.toList == [48]) = false := not_48 (by rw [hFl]; exact hl48)
   have hF49 : ¬ F.toList = [48] := beq_eq_false_iff_ne.1 hF48
   have HIb := Lib.hid (fun W => inBase_any F N 8 W (by rw [hFl]; exact hc) (by rw [hFl]; exact hl) hnb (by decide) (by decide))
   obtain ⟨E, hE⟩ : ∃ E : ByteArray, E = bytesN (baseN 8 N) := ⟨_, rfl⟩
   have hEl : E.data.toList = baseD 8 N := by rw [hE]; rfl
   have hE0 : ¬ E.toList = [] := by rw [ByteArray.toList_eq, hEl]; exact baseD_ne (by decide) hN
   have hE2 : E.toList.isEmpty = false := isEmpty_no hE0
   have hE48 : (E.toList == [48]) = false := not_48 (by rw [hEl]; exact baseD_one (by decide) (by decide) hN)
   have hE49 : ¬ E.toList = [48] := beq_eq_false_iff_ne.1 hE48
   have hEs : E.size ≤ 4001 := by rw [sz_list, hEl]; exact baseD_len (by decide) hnb
   have hEa : Asc E.data.toList := by rw [hEl]; exact baseD_asc N (by decide) (by decide)
   rw [← hE] at HIb
   have hbw : baseW false 111 N = E.data.toList := by unfold baseW; rw [if_pos rfl, if_neg Bool.false_ne_true, hEl]
   have hDs : E.size ≤ 4100 := by omega
   clear hl48 hl0 hc hdl hF hFl hl hE
   obtain ⟨K, hK⟩ : ∃ K, K = (pr - (E.size : Int)).toNat := ⟨_, rfl⟩
   have HK := Lib.hid (show max 0 (pr - (E.size : Int)) = (K : Int) from by omega)
   have hK2 : K ≤ 190 := by omega
   obtain ⟨R, hR⟩ : ∃ R : ByteArray, R = ⟨(List.replicate K 48).toArray⟩ := ⟨_, rfl⟩
   have HRp := Lib.hid (fun W => Repeat_one 48 K W (by omega))
   rw [← hR] at HRp
   have hRl : List.replicate K 48 = R.data.toList := by rw [hR]
   have hRs : R.size ≤ 190 := by rw [sz_list, ← hRl, List.length_replicate]; omega
   have hn : numW false pr 111 N = (R ++ E).data.toList := by unfold numW; rw [if_neg hN, hbw, ← sz_list, ← hK, hRl, ByteArray.data_append, Array.toList_append] <;> simp [ByteArray.data_append]
   have hh : headW p bl false 111 S N = sg.data.toList := by unfold headW; rw [if_neg (by decide), if_neg (fun h => by rcases h.1 with h | h <;> cases h), if_neg (fun h => hN h.2.2)]; exact hsgl
   have HPd := Lib.hid (fun W => padded_any m p bl false z (z && decide (pr < 0)) wd pr 111 sg (R ++ E) W hw hw2 (by rw [sz_list]; omega) (by rw [ByteArray.size_append]; omega))
   unfold specA at HPd
   have hzz : True := trivial
   rw [hn, hh]
   generalize (⟨(padL m (z && decide (pr < 0)) wd sg.data.toList (R ++ E).data.toList).toArray⟩ : ByteArray) = out at *
   clear hn hh hR hRl hzz hK hsgl hsl hsa hnb hbw hN hEa
   cases z
   all_goals
    simp only [Bool.false_and, Bool.true_and] at HPd
    go_enter Tryz.func72, Tryz.ntmps72
    go_wp2_with fail
    refine (HTr.out _).mono ?_
    rintro e _ ⟨rfl, rfl⟩
    go_wp2_with fail
    refine (HFx.out _).mono ?_
    rintro e w1 ⟨rfl, hb1⟩
    have HB1 := Lib.hid (((Below.refl w.heap.size w).alloc (Nat.le_refl _) _).trans (hb1.mono (by simp)))
    have hsp := SpAt.next (show SpAt _ w.heap.size _ from heap_alloc_at w _) hb1
    obtain ⟨k0, k1, k2, k3, k4, k5, k6, k7⟩ := hsp.all8
    have HSp := Lib.hid hsp
    clear hb1 hsp
    go_wp2_with fail
    refine (HSg.out _).mono ?_
    rintro e w2 ⟨rfl, hb2⟩
    have hsp := SpAt.next HSp.out hb2
    clear HSp k0 k1 k2 k3 k4 k5 k6 k7
    obtain ⟨k0, k1, k2, k3, k4, k5, k6, k7⟩ := hsp.all8
    have HSp := Lib.hid hsp
    clear hsp
    have HB2 := Lib.hid (HB1.out.trans (hb2.mono HB1.out.size))
    clear hb2 HB1
    go_wp2_with fail
    refine (HIb.out _).mono ?_
    rintro e w3 ⟨rfl, hb3⟩
    have hsp := SpAt.next HSp.out hb3
    clear HSp k0 k1 k2 k3 k4 k5 k6 k7
    obtain ⟨k0, k1, k2, k3, k4, k5, k6, k7⟩ := hsp.all8
    have HSp := Lib.hid hsp
    clear hsp
    have HB3 := Lib.hid (HB2.out.trans (hb3.mono HB2.out.size))
    clear hb3 HB2
    go_wp2_with fail
    rw [HK.out]
    refine (HRp.out _).mono ?_
    rintro e w4 ⟨rfl, hb4⟩
    have hsp := SpAt.next HSp.out hb4
    clear HSp k0 k1 k2 k3 k4 k5 k6 k7
    obtain ⟨k0, k1, k2, k3, k4, k5, k6, k7⟩ := hsp.all8
    have HSp := Lib.hid hsp
    clear hsp
    have HB4 := Lib.hid (HB3.out.trans (hb4.mono HB3.out.size))
    clear hb4 HB3
    go_wp2_with fail
    refine (HPd.out _).mono ?_
    rintro e w5 ⟨rfl, hb5⟩
    have hsp := SpAt.next HSp.out hb5
    clear HSp k0 k1 k2 k3 k4 k5 k6 k7
    obtain ⟨k0, k1, k2, k3, k4, k5, k6, k7⟩ := hsp.all8
    have HSp := Lib.hid hsp
    clear hsp
    have HB5 := Lib.hid (HB4.out.trans (hb5.mono HB4.out.size))
    clear hb5 HB4
    go_wp2_with fail
    go_ret
    exact ⟨rfl, HB5.out⟩
 ·by_cases hN : N = 0
  ·subst hN
   have hl48 : l = [48] := canon_0 hc
   subst hl48
   clear hc hl hdl
   have HIb : Hid (∀ W, Calls Tryz.prog 129 #[.string ⟨#[48]⟩, .int .u64 8] W fun e w' => e = .returned (.string ⟨#[]⟩) ∧ Below W.heap.size W w') := fun W => inBase_any ⟨#[48]⟩ 0 8 W ⟨by simp, fun c hc => by (simp at hc; subst hc; decide), by decide, fun c r e hc => by (cases e; rfl)⟩ (by decide) (by decide) (by decide) (by decide)
   cases z
   ·obtain ⟨q, hq⟩ : ∃ q, q = (max pr 1).toNat := ⟨_, rfl⟩
    have HQ := Lib.hid (show max pr 1 = (q : Int) from by omega)
    have hq2 : q ≤ 190 := by omega
    obtain ⟨R, hR⟩ : ∃ R : ByteArray, R = ⟨(List.replicate q 48).toArray⟩ := ⟨_, rfl⟩
    have HRp := Lib.hid (fun W => Repeat_one 48 q W (by omega))
    rw [← hR] at HRp
    have hRl : List.replicate q 48 = R.data.toList := by rw [hR]
    have hRs : R.size ≤ 190 := by rw [sz_list, ← hRl, List.length_replicate]; omega
    have hn : numW true pr 111 0 = R.data.toList := by unfold numW; rw [if_pos rfl, if_pos ⟨rfl, rfl⟩, ← hq, hRl]
    have hh : headW p bl true 111 S 0 = (⟨#[]⟩ : ByteArray).data.toList := by unfold headW; rw [if_neg (by decide), if_neg (by decide), if_pos (by decide)]
    have HPd := Lib.hid (fun W => padded_any m p bl true false (false) wd pr 111 ⟨#[]⟩ R W hw hw2 (by decide) (by omega))
    unfold specA at HPd
    have hzz : (false && decide (pr < 0)) = (false) := by simp
    rw [hn, hh, hzz]
    generalize (⟨(padL m (false) wd (⟨#[]⟩ : ByteArray).data.toList R.data.toList).toArray⟩ : ByteArray) = out at *
    clear hn hh hR hRl hzz hq hsgl hsl hsa hnb hRs
    go_enter Tryz.func72, Tryz.ntmps72
    go_wp2_with fail
    refine (HTr.out _).mono ?_
    rintro e _ ⟨rfl, rfl⟩
    go_wp2_with fail
    refine (HFx.out _).mono ?_
    rintro e w1 ⟨rfl, hb1⟩
    have HB1 := Lib.hid (((Below.refl w.heap.size w).alloc (Nat.le_refl _) _).trans (hb1.mono (by simp)))
    have hsp := SpAt.next (show SpAt _ w.heap.size _ from heap_alloc_at w _) hb1
    obtain ⟨k0, k1, k2, k3, k4, k5, k6, k7⟩ := hsp.all8
    have HSp := Lib.hid hsp
    clear hb1 hsp
    go_wp2_with fail
    refine (HSg.out _).mono ?_
    rintro e w2 ⟨rfl, hb2⟩
    have hsp := SpAt.next HSp.out hb2
    clear HSp k0 k1 k2 k3 k4 k5 k6 k7
    obtain ⟨k0, k1, k2, k3, k4, k5, k6, k7⟩ := hsp.all8
    have HSp := Lib.hid hsp
    clear hsp
    have HB2 := Lib.hid (HB1.out.trans (hb2.mono HB1.out.size))
    clear hb2 HB1
    go_wp2_with fail
    refine (HIb.out _).mono ?_
    rintro e w3 ⟨rfl, hb3⟩
    have hsp := SpAt.next HSp.out hb3
    clear HSp k0 k1 k2 k3 k4 k5 k6 k7
    obtain ⟨k0, k1, k2, k3, k4, k5, k6, k7⟩ := hsp.all8
    have HSp := Lib.hid hsp
    clear hsp
    have HB3 := Lib.hid (HB2.out.trans (hb3.mono HB2.out.size))
    clear hb3 HB2
    go_wp2_with fail
    refine wp_region_guarded (by kernel_rfl) (by kernel_rfl) (fun a0 V0 L a W => ∃ u : Nat → Value, a = { tmps := ((((((((((((((a0.tmps.setIfInBounds 61 (u 0)).setIfInBounds 62 (u 1)).setIfInBounds 63 (u 2)).setIfInBounds 64 (u 3)).setIfInBounds 65 (u 4)).setIfInBounds 66 (u 5)).setIfInBounds 67 (u 6)).setIfInBounds 68 (u 7)).setIfInBounds 69 (u 8)).setIfInBounds 70 (u 9)).setIfInBounds 71 (u 10)).setIfInBounds 72 (u 11)).setIfInBounds 73 (u 12)).setIfInBounds 4 (u 13)), defers := a0.defers } ∧ Hid (Below V0.heap.size V0 W) ∧ Hid (∀ i, L i = true → u i = valAt [.agg #[.bool m, .bool p, .bool bl, .bool true, .bool false, .int .i64 wd, .int .i64 pr, .int .u8 111], .pointer (some ⟨w.heap.size, 6, none⟩), .int .i64 pr, .int .i64 (q : Nat), .string R, .pointer (some ⟨w.heap.size, 4, none⟩), .bool false, .bool false, undef, undef, undef, .bool false, .string out, .string out] i)) ?h0 ?hstep ?hdone
    case h0 =>
     refine ⟨valAt [undef, undef, undef, undef, undef, undef, undef, undef, undef, undef, undef, undef, undef, .string ⟨#[]⟩], ?_, (Below.refl _ _).drew, fun _ h => (by cases h)⟩
     kernel_rfl
    case hstep =>
     refine ⟨?o0, ?o1, ?o2, ?o3, ?o4, ?o5, ?o6, ?o7, ?o8, ?o9, ?o10, ?o11, ?o12, ?o13, trivial⟩
     case o0 =>
      rintro L a' W ⟨u, rfl, HI, E⟩ hL hd K hK
      have kk0 := cellNext HI.out k0
      have kk1 := cellNext HI.out k1
      have kk2 := cellNext HI.out k2
      have kk3 := cellNext HI.out k3
      have kk4 := cellNext HI.out k4
      have kk5 := cellNext HI.out k5
      have kk6 := cellNext HI.out k6
      have kk7 := cellNext HI.out k7
      simp only [List.setIfInBounds_toArray, List.set_cons_zero, List.set_cons_succ]
      refine ite_take rfl ?_
      clear hL hd
      go_simp
      refine hK _ _ ⟨withVal u 0 (.agg #[.bool m, .bool p, .bool bl, .bool true, .bool false, .int .i64 wd, .int .i64 pr, .int .u8 111]), ?_, HI, withVal_next E 0 _ rfl⟩
      kernel_rfl
     case o1 =>
      rintro L a' W ⟨u, rfl, HI, E⟩ hL hd K hK
      simp only [List.setIfInBounds_toArray, List.set_cons_zero, List.set_cons_succ]
      refine ite_take rfl ?_
      clear hL hd
      go_simp
      refine hK _ _ ⟨withVal u 1 (.pointer (some ⟨w.heap.size, 6, none⟩)), ?_, HI, withVal_next E 1 _ rfl⟩
      kernel_rfl
     case o2 =>
      rintro L a' W ⟨u, rfl, HI, E⟩ hL hd K hK
      have e1 : u 1 = .pointer (some ⟨w.heap.size, 6, none⟩) := E.out 1 (hd 1 (List.elem_iff.1 (by kernel_rfl)))
      have kk6 := cellNext HI.out k6
      simp only [List.setIfInBounds_toArray, List.set_cons_zero, List.set_cons_succ, e1]
      refine ite_take rfl ?_
      clear hL hd
      go_simp
      refine hK _ _ ⟨withVal (withVal u 1 (.pointer (some ⟨w.heap.size, 6, none⟩))) 2 (.int .i64 pr), ?_, HI, withVal_next (withVal_same E 1 _ rfl) 2 _ rfl⟩
      kernel_rfl
     case o3 =>
      rintro L a' W ⟨u, rfl, HI, E⟩ hL hd K hK
      have e2 : u 2 = .int .i64 pr := E.out 2 (hd 2 (List.elem_iff.1 (by kernel_rfl)))
      have hq0 := HQ.out
      simp only [List.setIfInBounds_toArray, List.set_cons_zero, List.set_cons_succ, e2]
      refine ite_take rfl ?_
      clear hL hd
      go_simp
      refine hK _ _ ⟨withVal (withVal u 2 (.int .i64 pr)) 3 (.int .i64 (q : Nat)), ?_, HI, withVal_next (withVal_same E 2 _ rfl) 3 _ rfl⟩
      kernel_rfl
     case o4 =>
      rintro L a' W ⟨u, rfl, HI, E⟩ hL hd K hK
      have e3 : u 3 = .int .i64 (q : Nat) := E.out 3 (hd 3 (List.elem_iff.1 (by kernel_rfl)))
      simp only [List.setIfInBounds_toArray, List.set_cons_zero, List.set_cons_succ, e3]
      refine ite_take rfl ?_
      clear hL hd
      go_simp
      refine (HRp.out W).mono ?_
      rintro e W' ⟨rfl, hb⟩
      refine hK _ _ ⟨withVal (withVal u 3 (.int .i64 (q : Nat))) 4 (.string R), ?_, HI.out.trans (hb.mono HI.out.size), withVal_next (withVal_same E 3 _ rfl) 4 _ rfl⟩
      kernel_rfl
     case o5 =>
      rintro L a' W ⟨u, rfl, HI, E⟩ hL hd K hK
      simp only [List.setIfInBounds_toArray, List.set_cons_zero, List.set_cons_succ]
      refine ite_take rfl ?_
      clear hL hd
      go_simp
      refine hK _ _ ⟨withVal u 5 (.pointer (some ⟨w.heap.size, 4, none⟩)), ?_, HI, withVal_next E 5 _ rfl⟩
      kernel_rfl
     case o6 =>
      rintro L a' W ⟨u, rfl, HI, E⟩ hL hd K hK
      have e5 : u 5 = .pointer (some ⟨w.heap.size, 4, none⟩) := E.out 5 (hd 5 (List.elem_iff.1 (by kernel_rfl)))
      have kk4 := cellNext HI.out k4
      simp only [List.setIfInBounds_toArray, List.set_cons_zero, List.set_cons_succ, e5]
      refine ite_take rfl ?_
      clear hL hd
      go_simp
      refine hK _ _ ⟨withVal (withVal u 5 (.pointer (some ⟨w.heap.size, 4, none⟩))) 6 (.bool false), ?_, HI, withVal_next (withVal_same E 5 _ rfl) 6 _ rfl⟩
      kernel_rfl
     case o7 =>
      rintro L a' W ⟨u, rfl, HI, E⟩ hL hd K hK
      have e6 : u 6 = .bool false := E.out 6 (hd 6 (List.elem_iff.1 (by kernel_rfl)))
      simp only [List.setIfInBounds_toArray, List.set_cons_zero, List.set_cons_succ, e6]
      refine ite_take rfl ?_
      clear hL hd
      go_simp
      refine hK _ _ ⟨withVal (withVal u 6 (.bool false)) 7 (.bool false), ?_, HI, withVal_next (withVal_same E 6 _ rfl) 7 _ rfl⟩
      kernel_rfl
     case o8 =>
      rintro L a' W ⟨u, rfl, HI, E⟩ hL hd K hK
      have e7 : u 7 = .bool false := E.out 7 (hd 7 (List.elem_iff.1 (by kernel_rfl)))
      simp only [List.setIfInBounds_toArray, List.set_cons_zero, List.set_cons_succ, e7]
      refine ite_skip (fun h => Bool.false_ne_true h) ?_
      clear hL hd
      go_simp
      refine hK _ _ ⟨withVal (withVal u 7 (.bool false)) 8 (undef), ?_, HI, withVal_next (withVal_same E 7 _ rfl) 8 _ rfl⟩
      kernel_rfl
     case o9 =>
      rintro L a' W ⟨u, rfl, HI, E⟩ hL hd K hK
      have e7 : u 7 = .bool false := E.out 7 (hd 7 (List.elem_iff.1 (by kernel_rfl)))
      simp only [List.setIfInBounds_toArray, List.set_cons_zero, List.set_cons_succ, e7]
      refine ite_skip (fun h => Bool.false_ne_true h) ?_
      clear hL hd
      go_simp
      refine hK _ _ ⟨withVal (withVal u 7 (.bool false)) 9 (undef), ?_, HI, withVal_next (withVal_same E 7 _ rfl) 9 _ rfl⟩
      kernel_rfl
     case o10 =>
      rintro L a' W ⟨u, rfl, HI, E⟩ hL hd K hK
      have e7 : u 7 = .bool false := E.out 7 (hd 7 (List.elem_iff.1 (by kernel_rfl)))
      simp only [List.setIfInBounds_toArray, List.set_cons_zero, List.set_cons_succ, e7]
      refine ite_skip (fun h => Bool.false_ne_true h) ?_
      clear hL hd
      go_simp
      refine hK _ _ ⟨withVal (withVal u 7 (.bool false)) 10 (undef), ?_, HI, withVal_next (withVal_same E 7 _ rfl) 10 _ rfl⟩
      kernel_rfl
     case o11 =>
      rintro L a' W ⟨u, rfl, HI, E⟩ hL hd K hK
      have e7 : u 7 = .bool false := E.out 7 (hd 7 (List.elem_iff.1 (by kernel_rfl)))
      have e10 : u 10 = undef := E.out 10 (hd 10 (List.elem_iff.1 (by kernel_rfl)))
      simp only [List.setIfInBounds_toArray, List.set_cons_zero, List.set_cons_succ, e7, e10]
      refine ite_take rfl ?_
      clear hL hd
      go_simp
      refine hK _ _ ⟨withVal (withVal (withVal u 7 (.bool false)) 10 (undef)) 11 (.bool false), ?_, HI, withVal_next (withVal_same (withVal_same E 7 _ rfl) 10 _ rfl) 11 _ rfl⟩
      kernel_rfl
     case o12 =>
      rintro L a' W ⟨u, rfl, HI, E⟩ hL hd K hK
      have e0 : u 0 = .agg #[.bool m, .bool p, .bool bl, .bool true, .bool false, .int .i64 wd, .int .i64 pr, .int .u8 111] := E.out 0 (hd 0 (List.elem_iff.1 (by kernel_rfl)))
      have e4 : u 4 = .string R := E.out 4 (hd 4 (List.elem_iff.1 (by kernel_rfl)))
      have e11 : u 11 = .bool false := E.out 11 (hd 11 (List.elem_iff.1 (by kernel_rfl)))
      simp only [List.setIfInBounds_toArray, List.set_cons_zero, List.set_cons_succ, e0, e4, e11]
      refine ite_take rfl ?_
      clear hL hd
      go_simp
      refine (HPd.out W).mono ?_
      rintro e W' ⟨rfl, hb⟩
      refine hK _ _ ⟨withVal (withVal (withVal (withVal u 0 (.agg #[.bool m, .bool p, .bool bl, .bool true, .bool false, .int .i64 wd, .int .i64 pr, .int .u8 111])) 4 (.string R)) 11 (.bool false)) 12 (.string out), ?_, HI.out.trans (hb.mono HI.out.size), withVal_next (withVal_same (withVal_same (withVal_same E 0 _ rfl) 4 _ rfl) 11 _ rfl) 12 _ rfl⟩
      kernel_rfl
     case o13 =>
      rintro L a' W ⟨u, rfl, HI, E⟩ hL hd K hK
      have e12 : u 12 = .string out := E.out 12 (hd 12 (List.elem_iff.1 (by kernel_rfl)))
      simp only [List.setIfInBounds_toArray, List.set_cons_zero, List.set_cons_succ, e12]
      refine ite_take rfl ?_
      clear hL hd
      go_simp
      refine hK _ _ ⟨withVal (withVal u 12 (.string out)) 13 (.string out), ?_, HI, withVal_next (withVal_same E 12 _ rfl) 13 _ rfl⟩
      kernel_rfl
    case hdone =>
     rintro L a' W1 hall ⟨u, rfl, HI, E⟩
     have e0 : u 0 = .agg #[.bool m, .bool p, .bool bl, .bool true, .bool false, .int .i64 wd, .int .i64 pr, .int .u8 111] := E.out 0 (hall 0 (by decide))
     have e1 : u 1 = .pointer (some ⟨w.heap.size, 6, none⟩) := E.out 1 (hall 1 (by decide))
     have e2 : u 2 = .int .i64 pr := E.out 2 (hall 2 (by decide))
     have e3 : u 3 = .int .i64 (q : Nat) := E.out 3 (hall 3 (by decide))
     have e4 : u 4 = .string R := E.out 4 (hall 4 (by decide))
     have e5 : u 5 = .pointer (some ⟨w.heap.size, 4, none⟩) := E.out 5 (hall 5 (by decide))
     have e6 : u 6 = .bool false := E.out 6 (hall 6 (by decide))
     have e7 : u 7 = .bool false := E.out 7 (hall 7 (by decide))
     have e8 : u 8 = undef := E.out 8 (hall 8 (by decide))
     have e9 : u 9 = undef := E.out 9 (hall 9 (by decide))
     have e10 : u 10 = undef := E.out 10 (hall 10 (by decide))
     have e11 : u 11 = .bool false := E.out 11 (hall 11 (by decide))
     have e12 : u 12 = .string out := E.out 12 (hall 12 (by decide))
     have e13 : u 13 = .string out := E.out 13 (hall 13 (by decide))
     simp only [List.setIfInBounds_toArray, List.set_cons_zero, List.set_cons_succ, e0, e1, e2, e3, e4, e5, e6, e7, e8, e9, e10, e11, e12, e13]
     clear hall E
     go_wp2_with fail
     go_ret
     exact ⟨rfl, HB3.out.trans (HI.out.mono HB3.out.size)⟩
   ·obtain ⟨q, hq⟩ : ∃ q, q = (max pr 1).toNat := ⟨_, rfl⟩
    have HQ := Lib.hid (show max pr 1 = (q : Int) from by omega)
    have hq2 : q ≤ 190 := by omega
    obtain ⟨R, hR⟩ : ∃ R : ByteArray, R = ⟨(List.replicate q 48).toArray⟩ := ⟨_, rfl⟩
    have HRp := Lib.hid (fun W => Repeat_one 48 q W (by omega))
    rw [← hR] at HRp
    have hRl : List.replicate q 48 = R.data.toList := by rw [hR]
    have hRs : R.size ≤ 190 := by rw [sz_list, ← hRl, List.length_replicate]; omega
    have hn : numW true pr 111 0 = R.data.toList := by unfold numW; rw [if_pos rfl, if_pos ⟨rfl, rfl⟩, ← hq, hRl]
    have hh : headW p bl true 111 S 0 = (⟨#[]⟩ : ByteArray).data.toList := by unfold headW; rw [if_neg (by decide), if_neg (by decide), if_pos (by decide)]
    have HPd := Lib.hid (fun W => padded_any m p bl true true (decide (pr < 0)) wd pr 111 ⟨#[]⟩ R W hw hw2 (by decide) (by omega))
    unfold specA at HPd
    have hzz : (true && decide (pr < 0)) = (decide (pr < 0)) := by simp
    rw [hn, hh, hzz]
    generalize (⟨(padL m (decide (pr < 0)) wd (⟨#[]⟩ : ByteArray).data.toList R.data.toList).toArray⟩ : ByteArray) = out at *
    clear hn hh hR hRl hzz hq hsgl hsl hsa hnb hRs
    go_enter Tryz.func72, Tryz.ntmps72
    go_wp2_with fail
    refine (HTr.out _).mono ?_
    rintro e _ ⟨rfl, rfl⟩
    go_wp2_with fail
    refine (HFx.out _).mono ?_
    rintro e w1 ⟨rfl, hb1⟩
    have HB1 := Lib.hid (((Below.refl w.heap.size w).alloc (Nat.le_refl _) _).trans (hb1.mono (by simp)))
    have hsp := SpAt.next (show SpAt _ w.heap.size _ from heap_alloc_at w _) hb1
    obtain ⟨k0, k1, k2, k3, k4, k5, k6, k7⟩ := hsp.all8
    have HSp := Lib.hid hsp
    clear hb1 hsp
    go_wp2_with fail
    refine (HSg.out _).mono ?_
    rintro e w2 ⟨rfl, hb2⟩
    have hsp := SpAt.next HSp.out hb2
    clear HSp k0 k1 k2 k3 k4 k5 k6 k7
    obtain ⟨k0, k1, k2, k3, k4, k5, k6, k7⟩ := hsp.all8
    have HSp := Lib.hid hsp
    clear hsp
    have HB2 := Lib.hid (HB1.out.trans (hb2.mono HB1.out.size))
    clear hb2 HB1
    go_wp2_with fail
    refine (HIb.out _).mono ?_
    rintro e w3 ⟨rfl, hb3⟩
    have hsp := SpAt.next HSp.out hb3
    clear HSp k0 k1 k2 k3 k4 k5 k6 k7
    obtain ⟨k0, k1, k2, k3, k4, k5, k6, k7⟩ := hsp.all8
    have HSp := Lib.hid hsp
    clear hsp
    have HB3 := Lib.hid (HB2.out.trans (hb3.mono HB2.out.size))
    clear hb3 HB2
    go_wp2_with fail
    refine wp_region_guarded (by kernel_rfl) (by kernel_rfl) (fun a0 V0 L a W => ∃ u : Nat → Value, a = { tmps := ((((((((((((((a0.tmps.setIfInBounds 61 (u 0)).setIfInBounds 62 (u 1)).setIfInBounds 63 (u 2)).setIfInBounds 64 (u 3)).setIfInBounds 65 (u 4)).setIfInBounds 66 (u 5)).setIfInBounds 67 (u 6)).setIfInBounds 68 (u 7)).setIfInBounds 69 (u 8)).setIfInBounds 70 (u 9)).setIfInBounds 71 (u 10)).setIfInBounds 72 (u 11)).setIfInBounds 73 (u 12)).setIfInBounds 4 (u 13)), defers := a0.defers } ∧ Hid (Below V0.heap.size V0 W) ∧ Hid (∀ i, L i = true → u i = valAt [.agg #[.bool m, .bool p, .bool bl, .bool true, .bool true, .int .i64 wd, .int .i64 pr, .int .u8 111], .pointer (some ⟨w.heap.size, 6, none⟩), .int .i64 pr, .int .i64 (q : Nat), .string R, .pointer (some ⟨w.heap.size, 4, none⟩), .bool true, .bool true, .pointer (some ⟨w.heap.size, 6, none⟩), .int .i64 pr, .bool (decide (pr < 0)), .bool (decide (pr < 0)), .string out, .string out] i)) ?h0 ?hstep ?hdone
    case h0 =>
     refine ⟨valAt [undef, undef, undef, undef, undef, undef, undef, undef, undef, undef, undef, undef, undef, .string ⟨#[]⟩], ?_, (Below.refl _ _).drew, fun _ h => (by cases h)⟩
     kernel_rfl
    case hstep =>
     refine ⟨?o0, ?o1, ?o2, ?o3, ?o4, ?o5, ?o6, ?o7, ?o8, ?o9, ?o10, ?o11, ?o12, ?o13, trivial⟩
     case o0 =>
      rintro L a' W ⟨u, rfl, HI, E⟩ hL hd K hK
      have kk0 := cellNext HI.out k0
      have kk1 := cellNext HI.out k1
      have kk2 := cellNext HI.out k2
      have kk3 := cellNext HI.out k3
      have kk4 := cellNext HI.out k4
      have kk5 := cellNext HI.out k5
      have kk6 := cellNext HI.out k6
      have kk7 := cellNext HI.out k7
      simp only [List.setIfInBounds_toArray, List.set_cons_zero, List.set_cons_succ]
      refine ite_take rfl ?_
      clear hL hd
      go_simp
      refine hK _ _ ⟨withVal u 0 (.agg #[.bool m, .bool p, .bool bl, .bool true, .bool true, .int .i64 wd, .int .i64 pr, .int .u8 111]), ?_, HI, withVal_next E 0 _ rfl⟩
      kernel_rfl
     case o1 =>
      rintro L a' W ⟨u, rfl, HI, E⟩ hL hd K hK
      simp only [List.setIfInBounds_toArray, List.set_cons_zero, List.set_cons_succ]
      refine ite_take rfl ?_
      clear hL hd
      go_simp
      refine hK _ _ ⟨withVal u 1 (.pointer (some ⟨w.heap.size, 6, none⟩)), ?_, HI, withVal_next E 1 _ rfl⟩
      kernel_rfl
     case o2 =>
      rintro L a' W ⟨u, rfl, HI, E⟩ hL hd K hK
      have e1 : u 1 = .pointer (some ⟨w.heap.size, 6, none⟩) := E.out 1 (hd 1 (List.elem_iff.1 (by kernel_rfl)))
      have kk6 := cellNext HI.out k6
      simp only [List.setIfInBounds_toArray, List.set_cons_zero, List.set_cons_succ, e1]
      refine ite_take rfl ?_
      clear hL hd
      go_simp
      refine hK _ _ ⟨withVal (withVal u 1 (.pointer (some ⟨w.heap.size, 6, none⟩))) 2 (.int .i64 pr), ?_, HI, withVal_next (withVal_same E 1 _ rfl) 2 _ rfl⟩
      kernel_rfl
     case o3 =>
      rintro L a' W ⟨u, rfl, HI, E⟩ hL hd K hK
      have e2 : u 2 = .int .i64 pr := E.out 2 (hd 2 (List.elem_iff.1 (by kernel_rfl)))
      have hq0 := HQ.out
      simp only [List.setIfInBounds_toArray, List.set_cons_zero, List.set_cons_succ, e2]
      refine ite_take rfl ?_
      clear hL hd
      go_simp
      refine hK _ _ ⟨withVal (withVal u 2 (.int .i64 pr)) 3 (.int .i64 (q : Nat)), ?_, HI, withVal_next (withVal_same E 2 _ rfl) 3 _ rfl⟩
      kernel_rfl
     case o4 =>
      rintro L a' W ⟨u, rfl, HI, E⟩ hL hd K hK
      have e3 : u 3 = .int .i64 (q : Nat) := E.out 3 (hd 3 (List.elem_iff.1 (by kernel_rfl)))
      simp only [List.setIfInBounds_toArray, List.set_cons_zero, List.set_cons_succ, e3]
      refine ite_take rfl ?_
      clear hL hd
      go_simp
      refine (HRp.out W).mono ?_
      rintro e W' ⟨rfl, hb⟩
      refine hK _ _ ⟨withVal (withVal u 3 (.int .i64 (q : Nat))) 4 (.string R), ?_, HI.out.trans (hb.mono HI.out.size), withVal_next (withVal_same E 3 _ rfl) 4 _ rfl⟩
      kernel_rfl
     case o5 =>
      rintro L a' W ⟨u, rfl, HI, E⟩ hL hd K hK
      simp only [List.setIfInBounds_toArray, List.set_cons_zero, List.set_cons_succ]
      refine ite_take rfl ?_
      clear hL hd
      go_simp
      refine hK _ _ ⟨withVal u 5 (.pointer (some ⟨w.heap.size, 4, none⟩)), ?_, HI, withVal_next E 5 _ rfl⟩
      kernel_rfl
     case o6 =>
      rintro L a' W ⟨u, rfl, HI, E⟩ hL hd K hK
      have e5 : u 5 = .pointer (some ⟨w.heap.size, 4, none⟩) := E.out 5 (hd 5 (List.elem_iff.1 (by kernel_rfl)))
      have kk4 := cellNext HI.out k4
      simp only [List.setIfInBounds_toArray, List.set_cons_zero, List.set_cons_succ, e5]
      refine ite_take rfl ?_
      clear hL hd
      go_simp
      refine hK _ _ ⟨withVal (withVal u 5 (.pointer (some ⟨w.heap.size, 4, none⟩))) 6 (.bool true), ?_, HI, withVal_next (withVal_same E 5 _ rfl) 6 _ rfl⟩
      kernel_rfl
     case o7 =>
      rintro L a' W ⟨u, rfl, HI, E⟩ hL hd K hK
      have e6 : u 6 = .bool true := E.out 6 (hd 6 (List.elem_iff.1 (by kernel_rfl)))
      simp only [List.setIfInBounds_toArray, List.set_cons_zero, List.set_cons_succ, e6]
      refine ite_take rfl ?_
      clear hL hd
      go_simp
      refine hK _ _ ⟨withVal (withVal u 6 (.bool true)) 7 (.bool true), ?_, HI, withVal_next (withVal_same E 6 _ rfl) 7 _ rfl⟩
      kernel_rfl
     case o8 =>
      rintro L a' W ⟨u, rfl, HI, E⟩ hL hd K hK
      have e7 : u 7 = .bool true := E.out 7 (hd 7 (List.elem_iff.1 (by kernel_rfl)))
      simp only [List.setIfInBounds_toArray, List.set_cons_zero, List.set_cons_succ, e7]
      refine ite_take rfl ?_
      clear hL hd
      go_simp
      refine hK _ _ ⟨withVal (withVal u 7 (.bool true)) 8 (.pointer (some ⟨w.heap.size, 6, none⟩)), ?_, HI, withVal_next (withVal_same E 7 _ rfl) 8 _ rfl⟩
      kernel_rfl
     case o9 =>
      rintro L a' W ⟨u, rfl, HI, E⟩ hL hd K hK
      have e7 : u 7 = .bool true := E.out 7 (hd 7 (List.elem_iff.1 (by kernel_rfl)))
      have e8 : u 8 = .pointer (some ⟨w.heap.size, 6, none⟩) := E.out 8 (hd 8 (List.elem_iff.1 (by kernel_rfl)))
      have kk6 := cellNext HI.out k6
      simp only [List.setIfInBounds_toArray, List.set_cons_zero, List.set_cons_succ, e7, e8]
      refine ite_take rfl ?_
      clear hL hd
      go_simp
      refine hK _ _ ⟨withVal (withVal (withVal u 7 (.bool true)) 8 (.pointer (some ⟨w.heap.size, 6, none⟩))) 9 (.int .i64 pr), ?_, HI, withVal_next (withVal_same (withVal_same E 7 _ rfl) 8 _ rfl) 9 _ rfl⟩
      kernel_rfl
     case o10 =>
      rintro L a' W ⟨u, rfl, HI, E⟩ hL hd K hK
      have e7 : u 7 = .bool true := E.out 7 (hd 7 (List.elem_iff.1 (by kernel_rfl)))
      have e9 : u 9 = .int .i64 pr := E.out 9 (hd 9 (List.elem_iff.1 (by kernel_rfl)))
      simp only [List.setIfInBounds_toArray, List.set_cons_zero, List.set_cons_succ, e7, e9]
      refine ite_take rfl ?_
      clear hL hd
      go_simp
      refine hK _ _ ⟨withVal (withVal (withVal u 7 (.bool true)) 9 (.int .i64 pr)) 10 (.bool (decide (pr < 0))), ?_, HI, withVal_next (withVal_same (withVal_same E 7 _ rfl) 9 _ rfl) 10 _ rfl⟩
      kernel_rfl
     case o11 =>
      rintro L a' W ⟨u, rfl, HI, E⟩ hL hd K hK
      have e7 : u 7 = .bool true := E.out 7 (hd 7 (List.elem_iff.1 (by kernel_rfl)))
      have e10 : u 10 = .bool (decide (pr < 0)) := E.out 10 (hd 10 (List.elem_iff.1 (by kernel_rfl)))
      simp only [List.setIfInBounds_toArray, List.set_cons_zero, List.set_cons_succ, e7, e10]
      refine ite_take rfl ?_
      clear hL hd
      go_simp
      refine hK _ _ ⟨withVal (withVal (withVal u 7 (.bool true)) 10 (.bool (decide (pr < 0)))) 11 (.bool (decide (pr < 0))), ?_, HI, withVal_next (withVal_same (withVal_same E 7 _ rfl) 10 _ rfl) 11 _ rfl⟩
      kernel_rfl
     case o12 =>
      rintro L a' W ⟨u, rfl, HI, E⟩ hL hd K hK
      have e0 : u 0 = .agg #[.bool m, .bool p, .bool bl, .bool true, .bool true, .int .i64 wd, .int .i64 pr, .int .u8 111] := E.out 0 (hd 0 (List.elem_iff.1 (by kernel_rfl)))
      have e4 : u 4 = .string R := E.out 4 (hd 4 (List.elem_iff.1 (by kernel_rfl)))
      have e11 : u 11 = .bool (decide (pr < 0)) := E.out 11 (hd 11 (List.elem_iff.1 (by kernel_rfl)))
      simp only [List.setIfInBounds_toArray, List.set_cons_zero, List.set_cons_succ, e0, e4, e11]
      refine ite_take rfl ?_
      clear hL hd
      go_simp
      refine (HPd.out W).mono ?_
      rintro e W' ⟨rfl, hb⟩
      refine hK _ _ ⟨withVal (withVal (withVal (withVal u 0 (.agg #[.bool m, .bool p, .bool bl, .bool true, .bool true, .int .i64 wd, .int .i64 pr, .int .u8 111])) 4 (.string R)) 11 (.bool (decide (pr < 0)))) 12 (.string out), ?_, HI.out.trans (hb.mono HI.out.size), withVal_next (withVal_same (withVal_same (withVal_same E 0 _ rfl) 4 _ rfl) 11 _ rfl) 12 _ rfl⟩
      kernel_rfl
     case o13 =>
      rintro L a' W ⟨u, rfl, HI, E⟩ hL hd K hK
      have e12 : u 12 = .string out := E.out 12 (hd 12 (List.elem_iff.1 (by kernel_rfl)))
      simp only [List.setIfInBounds_toArray, List.set_cons_zero, List.set_cons_succ, e12]
      refine ite_take rfl ?_
      clear hL hd
      go_simp
      refine hK _ _ ⟨withVal (withVal u 12 (.string out)) 13 (.string out), ?_, HI, withVal_next (withVal_same E 12 _ rfl) 13 _ rfl⟩
      kernel_rfl
    case hdone =>
     rintro L a' W1 hall ⟨u, rfl, HI, E⟩
     have e0 : u 0 = .agg #[.bool m, .bool p, .bool bl, .bool true, .bool true, .int .i64 wd, .int .i64 pr, .int .u8 111] := E.out 0 (hall 0 (by decide))
     have e1 : u 1 = .pointer (some ⟨w.heap.size, 6, none⟩) := E.out 1 (hall 1 (by decide))
     have e2 : u 2 = .int .i64 pr := E.out 2 (hall 2 (by decide))
     have e3 : u 3 = .int .i64 (q : Nat) := E.out 3 (hall 3 (by decide))
     have e4 : u 4 = .string R := E.out 4 (hall 4 (by decide))
     have e5 : u 5 = .pointer (some ⟨w.heap.size, 4, none⟩) := E.out 5 (hall 5 (by decide))
     have e6 : u 6 = .bool true := E.out 6 (hall 6 (by decide))
     have e7 : u 7 = .bool true := E.out 7 (hall 7 (by decide))
     have e8 : u 8 = .pointer (some ⟨w.heap.size, 6, none⟩) := E.out 8 (hall 8 (by decide))
     have e9 : u 9 = .int .i64 pr := E.out 9 (hall 9 (by decide))
     have e10 : u 10 = .bool (decide (pr < 0)) := E.out 10 (hall 10 (by decide))
     have e11 : u 11 = .bool (decide (pr < 0)) := E.out 11 (hall 11 (by decide))
     have e12 : u 12 = .string out := E.out 12 (hall 12 (by decide))
     have e13 : u 13 = .string out := E.out 13 (hall 13 (by decide))
     simp only [List.setIfInBounds_toArray, List.set_cons_zero, List.set_cons_succ, e0, e1, e2, e3, e4, e5, e6, e7, e8, e9, e10, e11, e12, e13]
     clear hall E
     go_wp2_with fail
     go_ret
     exact ⟨rfl, HB3.out.trans (HI.out.mono HB3.out.size)⟩
  ·have hl48 := canon_ne0 hc hN
   have hl0 := hc.ne
   obtain ⟨F, hF⟩ : ∃ F : ByteArray, F = ⟨l.toArray⟩ := ⟨_, rfl⟩
   rw [← hF] at HFx
   have hFl : F.data.toList = l := by rw [hF]
   have hF48 : (F.toList == [48]) = false := not_48 (by rw [hFl]; exact hl48)
   have hF49 : ¬ F.toList = [48] := beq_eq_false_iff_ne.1 hF48
   have HIb := Lib.hid (fun W => inBase_any F N 8 W (by rw [hFl]; exact hc) (by rw [hFl]; exact hl) hnb (by decide) (by decide))
   obtain ⟨E, hE⟩ : ∃ E : ByteArray, E = bytesN (baseN 8 N) := ⟨_, rfl⟩
   have hEl : E.data.toList = baseD 8 N := by rw [hE]; rfl
   have hE0 : ¬ E.toList = [] := by rw [ByteArray.toList_eq, hEl]; exact baseD_ne (by decide) hN
   have hE2 : E.toList.isEmpty = false := isEmpty_no hE0
   have hE48 : (E.toList == [48]) = false := not_48 (by rw [hEl]; exact baseD_one (by decide) (by decide) hN)
   have hE49 : ¬ E.toList = [48] := beq_eq_false_iff_ne.1 hE48
   have hEs : E.size ≤ 4001 := by rw [sz_list, hEl]; exact baseD_len (by decide) hnb
   have hEa : Asc E.data.toList := by rw [hEl]; exact baseD_asc N (by decide) (by decide)
   rw [← hE] at HIb
   have hbw : baseW true 111 N = (⟨#[48]⟩ ++ E : ByteArray).data.toList := by unfold baseW; rw [if_pos rfl, if_pos rfl, ByteArray.data_append, Array.toList_append, hEl]; rfl
   have hDs : (⟨#[48]⟩ ++ E : ByteArray).size ≤ 4100 := by rw [ByteArray.size_append]; show 1 + E.size ≤ _; omega
   have hDz : (⟨#[48]⟩ ++ E : ByteArray).size = 1 + E.size := by rw [ByteArray.size_append]; rfl
   have hE1 : 0 < E.size := Nat.pos_of_ne_zero fun h => baseD_ne (B := 8) (by decide) hN (by rw [← hEl]; exact List.length_eq_zero_iff.1 (by rw [← sz_list]; exact h))
   have hD0 : ¬ (⟨#[48]⟩ ++ E : ByteArray).toList = [] := by rw [ByteArray.toList_eq]; intro h; have h9 := sz_list (⟨#[48]⟩ ++ E : ByteArray); rw [h] at h9; change _ = 0 at h9; omega
   have hD2 : (⟨#[48]⟩ ++ E : ByteArray).toList.isEmpty = false := isEmpty_no hD0
   have hD48 : ((⟨#[48]⟩ ++ E : ByteArray).toList == [48]) = false := not_48 (by intro h; have h9 := sz_list (⟨#[48]⟩ ++ E : ByteArray); rw [h] at h9; change _ = 1 at h9; omega)
   have hD49 : ¬ (⟨#[48]⟩ ++ E : ByteArray).toList = [48] := beq_eq_false_iff_ne.1 hD48
   clear hl48 hl0 hc hdl hF hFl hl hE
   obtain ⟨K, hK⟩ : ∃ K, K = (pr - ((⟨#[48]⟩ ++ E : ByteArray).size : Int)).toNat := ⟨_, rfl⟩
   have HK := Lib.hid (show max 0 (pr - (1 + (E.size : Int))) = (K : Int) from by omega)
   have hK2 : K ≤ 190 := by omega
   obtain ⟨R, hR⟩ : ∃ R : ByteArray, R = ⟨(List.replicate K 48).toArray⟩ := ⟨_, rfl⟩
   have HRp := Lib.hid (fun W => Repeat_one 48 K W (by omega))
   rw [← hR] at HRp
   have hRl : List.replicate K 48 = R.data.toList := by rw [hR]
   have hRs : R.size ≤ 190 := by rw [sz_list, ← hRl, List.length_replicate]; omega
   have hn : numW true pr 111 N = (R ++ (⟨#[48]⟩ ++ E : ByteArray)).data.toList := by unfold numW; rw [if_neg hN, hbw, ← sz_list, ← hK, hRl, ByteArray.data_append, Array.toList_append] <;> simp [ByteArray.data_append]
   have hh : headW p bl true 111 S N = sg.data.toList := by unfold headW; rw [if_neg (by decide), if_neg (fun h => by rcases h.1 with h | h <;> cases h), if_neg (fun h => hN h.2.2)]; exact hsgl
   have HPd := Lib.hid (fun W => padded_any m p bl true z (z && decide (pr < 0)) wd pr 111 sg (R ++ (⟨#[48]⟩ ++ E : ByteArray)) W hw hw2 (by rw [sz_list]; omega) (by rw [ByteArray.size_append]; omega))
   unfold specA at HPd
   have hzz : True := trivial
   rw [hn, hh]
   generalize (⟨(padL m (z && decide (pr < 0)) wd sg.data.toList (R ++ (⟨#[48]⟩ ++ E : ByteArray)).data.toList).toArray⟩ : ByteArray) = out at *
   clear hn hh hR hRl hzz hK hsgl hsl hsa hnb hbw hN hDz hE1 hEa
   cases z
   all_goals
    simp only [Bool.false_and, Bool.true_and] at HPd
    go_enter Tryz.func72, Tryz.ntmps72
    go_wp2_with fail
    refine (HTr.out _).mono ?_
    rintro e _ ⟨rfl, rfl⟩
    go_wp2_with fail
    refine (HFx.out _).mono ?_
    rintro e w1 ⟨rfl, hb1⟩
    have HB1 := Lib.hid (((Below.refl w.heap.size w).alloc (Nat.le_refl _) _).trans (hb1.mono (by simp)))
    have hsp := SpAt.next (show SpAt _ w.heap.size _ from heap_alloc_at w _) hb1
    obtain ⟨k0, k1, k2, k3, k4, k5, k6, k7⟩ := hsp.all8
    have HSp := Lib.hid hsp
    clear hb1 hsp
    go_wp2_with fail
    refine (HSg.out _).mono ?_
    rintro e w2 ⟨rfl, hb2⟩
    have hsp := SpAt.next HSp.out hb2
    clear HSp k0 k1 k2 k3 k4 k5 k6 k7
    obtain ⟨k0, k1, k2, k3, k4, k5, k6, k7⟩ := hsp.all8
    have HSp := Lib.hid hsp
    clear hsp
    have HB2 := Lib.hid (HB1.out.trans (hb2.mono HB1.out.size))
    clear hb2 HB1
    go_wp2_with fail
    refine (HIb.out _).mono ?_
    rintro e w3 ⟨rfl, hb3⟩
    have hsp := SpAt.next HSp.out hb3
    clear HSp k0 k1 k2 k3 k4 k5 k6 k7
    obtain ⟨k0, k1, k2, k3, k4, k5, k6, k7⟩ := hsp.all8
    have HSp := Lib.hid hsp
    clear hsp
    have HB3 := Lib.hid (HB2.out.trans (hb3.mono HB2.out.size))
    clear hb3 HB2
    go_wp2_with fail
    rw [HK.out]
    refine (HRp.out _).mono ?_
    rintro e w4 ⟨rfl, hb4⟩
    have hsp := SpAt.next HSp.out hb4
    clear HSp k0 k1 k2 k3 k4 k5 k6 k7
    obtain ⟨k0, k1, k2, k3, k4, k5, k6, k7⟩ := hsp.all8
    have HSp := Lib.hid hsp
    clear hsp
    have HB4 := Lib.hid (HB3.out.trans (hb4.mono HB3.out.size))
    clear hb4 HB3
    go_wp2_with fail
    refine (HPd.out _).mono ?_
    rintro e w5 ⟨rfl, hb5⟩
    have hsp := SpAt.next HSp.out hb5
    clear HSp k0 k1 k2 k3 k4 k5 k6 k7
    obtain ⟨k0, k1, k2, k3, k4, k5, k6, k7⟩ := hsp.all8
    have HSp := Lib.hid hsp
    clear hsp
    have HB5 := Lib.hid (HB4.out.trans (hb5.mono HB4.out.size))
    clear hb5 HB4
    go_wp2_with fail
    go_ret
    exact ⟨rfl, HB5.out⟩
end Go.Proofs.YtfdnhkjeoeffoaaGreatDoor
end
