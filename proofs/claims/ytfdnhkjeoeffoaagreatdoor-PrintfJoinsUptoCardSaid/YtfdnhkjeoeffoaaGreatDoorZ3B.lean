/- What a law wants besides of the texts that are merged (B). -/
import Derived.Test.YtfdnhkjeoeffoaaGreatDoorZ3
set_option linter.unusedVariables false
set_option linter.unusedSimpArgs false
section
namespace Go.Proofs.YtfdnhkjeoeffoaaGreatDoor
open Go.RowKit
set_option linter.unusedVariables false
set_option maxHeartbeats 16000000 in
set_option maxRecDepth 1000000 in
theorem whole_120 (m p bl al z : Bool) (wd pr : Int) (b : Nat) (w : World) (hb : b < 18446744073709551616) (hf : fin b = true) (hp1 : -1 ≤ pr) (hp2 : pr ≤ 190) (hw : 0 ≤ wd) (hw2 : wd ≤ 1024) :
 Calls Tryz.prog 72 #[.agg (specA m p bl al z wd pr 120), .float .f64 b] w fun e w' => e = .returned (.string (wholeO m p bl al z wd pr 120 b)) ∧ Below w.heap.size w w' := by
 have HTr := Lib.hid (fun W => Trunc_any b W hb)
 obtain ⟨ht1, ht2⟩ := trunc_fin hb hf
 obtain ⟨l, hc, hl, hfx, hdl⟩ := whole_text hb hf
 have HFx := Lib.hid (fun W => Fixed_det (truncB b) 0 W ht1 ht2 (by decide))
 rw [hfx] at HFx
 have hnb := whole_bits5 b
 have hS : (FloatKind.f64.format.order (truncB b) 0 == some .lt) = wholeS b := rfl
 have hO : wholeO m p bl al z wd pr 120 b = ⟨(padW m p bl al z wd pr 120 b).toArray⟩ := rfl
 rw [hO]
 clear hO
 unfold padW
 generalize truncB b = T at *
 generalize wholeN b = N at *
 generalize wholeS b = S at *
 clear ht1 ht2 hfx hb hf
 have HSg := Lib.hid (fun W => sign_any false false false false false S 0 0 0 W)
 obtain ⟨sg, hsg⟩ : ∃ sg : ByteArray, sg = ⟨(signL false false S).toArray⟩ := ⟨_, rfl⟩
 have hsl := signL_size5 false false S
 have hsa := signL_asc false false S
 rw [← hsg] at HSg
 have hsgl : signL false false S = sg.data.toList := by rw [hsg]
 rw [hsgl] at hsl hsa
 have hsgz : sg.size ≤ 1 := by rw [sz_list]; exact hsl
 clear hsg
 unfold specA at *
 cases al
 ·by_cases hN : N = 0
  ·subst hN
   have hl48 : l = [48] := canon_0 hc
   subst hl48
   clear hc hl hdl
   have HIb : Hid (∀ W, Calls Tryz.prog 129 #[.string ⟨#[48]⟩, .int .u64 16] W fun e w' => e = .returned (.string ⟨#[]⟩) ∧ Below W.heap.size W w') := fun W => inBase_any ⟨#[48]⟩ 0 16 W ⟨by simp, fun c hc => by (simp at hc; subst hc; decide), by decide, fun c r e hc => by (cases e; rfl)⟩ (by decide) (by decide) (by decide) (by decide)
   by_cases hpz : pr = 0
   ·subst hpz
    obtain ⟨R, hR⟩ : ∃ R : ByteArray, R = ⟨(List.replicate 0 48).toArray⟩ := ⟨_, rfl⟩
    have HRp : Hid (∀ W, Calls Tryz.prog 114 #[.string ⟨#[48]⟩, .int .i64 0] W fun e w' => e = .returned (.string R) ∧ Below W.heap.size W w') := fun W => by rw [hR]; exact Repeat_one 48 0 W (by decide)
    have hRl : List.replicate 0 48 = R.data.toList := by rw [hR]
    have hK : True := trivial
    have hRs : R.size ≤ 190 := by rw [sz_list, ← hRl, List.length_replicate]; omega
    have hn : numW false 0 120 0 = (R ++ ⟨#[]⟩).data.toList := by unfold numW; rw [if_pos rfl, if_neg (fun h => by cases h.1), if_pos rfl, ByteArray.data_append, Array.toList_append, ← hRl]; rfl
    have hh : headW p bl false 120 S 0 = sg.data.toList := by unfold headW; rw [if_neg (by decide), if_neg (fun h => h.2.2 rfl), if_neg (fun h => by cases h.1)]; exact hsgl
    have HPd := Lib.hid (fun W => padded_any m p bl false z (false) wd 0 120 sg (R ++ ⟨#[]⟩) W hw hw2 (by rw [sz_list]; omega) (by rw [ByteArray.size_append]; show R.size + 0 ≤ _; omega))
    unfold specA at HPd
    have hzz : (z && decide ((0 : Int) < 0)) = false := by simp
    rw [hn, hh, hzz]
    generalize (⟨(padL m (false) wd sg.data.toList (R ++ ⟨#[]⟩).data.toList).toArray⟩ : ByteArray) = out at *
    clear hn hh hR hRl hzz hK hsgl hsl hsa hnb
    cases z
    all_goals
     go_enter Tryz.func72, Tryz.ntmps72
     go_wp2_with fail
     refine (HTr.out _).mono ?_
     rintro e _ ⟨rfl, rfl⟩
     go_wp2_with fail
     refine (HFx.out _).mono ?_
     rintro e w1 ⟨rfl, hb1⟩
     have HB1 := Lib.hid (((Below.refl w.heap.size w).alloc (Nat.le_refl _) _).trans (hb1.mono (by simp)))
     have hsp := SpAt.next (show SpAt _ w.heap.size _ from heap_alloc_at w _) hb1
     obtain ⟨k0, k1, k2, k3, k4, k5, k6, k7⟩ := hsp.all8
     have HSp := Lib.hid hsp
     clear hb1 hsp
     go_wp2_with fail
     refine (HSg.out _).mono ?_
     rintro e w2 ⟨rfl, hb2⟩
     have hsp := SpAt.next HSp.out hb2
     clear HSp k0 k1 k2 k3 k4 k5 k6 k7
     obtain ⟨k0, k1, k2, k3, k4, k5, k6, k7⟩ := hsp.all8
     have HSp := Lib.hid hsp
     clear hsp
     have HB2 := Lib.hid (HB1.out.trans (hb2.mono HB1.out.size))
     clear hb2 HB1
     go_wp2_with fail
     refine (HIb.out _).mono ?_
     rintro e w3 ⟨rfl, hb3⟩
     have hsp := SpAt.next HSp.out hb3
     clear HSp k0 k1 k2 k3 k4 k5 k6 k7
     obtain ⟨k0, k1, k2, k3, k4, k5, k6, k7⟩ := hsp.all8
     have HSp := Lib.hid hsp
     clear hsp
     have HB3 := Lib.hid (HB2.out.trans (hb3.mono HB2.out.size))
     clear hb3 HB2
     go_wp2_with fail
     refine (HRp.out _).mono ?_
     rintro e w4 ⟨rfl, hb4⟩
     have hsp := SpAt.next HSp.out hb4
     clear HSp k0 k1 k2 k3 k4 k5 k6 k7
     obtain ⟨k0, k1, k2, k3, k4, k5, k6, k7⟩ := hsp.all8
     have HSp := Lib.hid hsp
     clear hsp
     have HB4 := Lib.hid (HB3.out.trans (hb4.mono HB3.out.size))
     clear hb4 HB3
     go_wp2_with fail
     refine (HPd.out _).mono ?_
     rintro e w5 ⟨rfl, hb5⟩
     have hsp := SpAt.next HSp.out hb5
     clear HSp k0 k1 k2 k3 k4 k5 k6 k7
     obtain ⟨k0, k1, k2, k3, k4, k5, k6, k7⟩ := hsp.all8
     have HSp := Lib.hid hsp
     clear hsp
     have HB5 := Lib.hid (HB4.out.trans (hb5.mono HB4.out.size))
     clear hb5 HB4
     go_wp2_with fail
     go_ret
     exact ⟨rfl, HB5.out⟩
   ·have hpz2 : (pr == 0) = false := beq_eq_false_iff_ne.2 hpz
    obtain ⟨K, hK⟩ : ∃ K, K = (pr - 1 : Int).toNat := ⟨_, rfl⟩
    have HK := Lib.hid (show max 0 ((pr : Int) - 1) = (K : Int) from by omega)
    have hK2 : K ≤ 190 := by omega
    obtain ⟨R, hR⟩ : ∃ R : ByteArray, R = ⟨(List.replicate K 48).toArray⟩ := ⟨_, rfl⟩
    have HRp := Lib.hid (fun W => Repeat_one 48 K W (by omega))
    rw [← hR] at HRp
    have hRl : List.replicate K 48 = R.data.toList := by rw [hR]
    have hRs : R.size ≤ 190 := by rw [sz_list, ← hRl, List.length_replicate]; omega
    have hn : numW false pr 120 0 = (R ++ ⟨#[48]⟩).data.toList := by unfold numW; rw [if_pos rfl, if_neg (fun h => by cases h.1), if_neg hpz, ByteArray.data_append, Array.toList_append, ← hRl, hK]
    have hh : headW p bl false 120 S 0 = sg.data.toList := by unfold headW; rw [if_neg (by decide), if_neg (fun h => h.2.2 rfl), if_neg (fun h => by cases h.1)]; exact hsgl
    have HPd := Lib.hid (fun W => padded_any m p bl false z (z && decide (pr < 0)) wd pr 120 sg (R ++ ⟨#[48]⟩) W hw hw2 (by rw [sz_list]; omega) (by rw [ByteArray.size_append]; show R.size + 1 ≤ _; omega))
    unfold specA at HPd
    have hzz : True := trivial
    rw [hn, hh]
    generalize (⟨(padL m (z && decide (pr < 0)) wd sg.data.toList (R ++ ⟨#[48]⟩).data.toList).toArray⟩ : ByteArray) = out at *
    clear hn hh hR hRl hzz hK hsgl hsl hsa hnb hpz
    cases z
    all_goals
     simp only [Bool.false_and, Bool.true_and] at HPd
     go_enter Tryz.func72, Tryz.ntmps72
     go_wp2_with fail
     refine (HTr.out _).mono ?_
     rintro e _ ⟨rfl, rfl⟩
     go_wp2_with fail
     refine (HFx.out _).mono ?_
     rintro e w1 ⟨rfl, hb1⟩
     have HB1 := Lib.hid (((Below.refl w.heap.size w).alloc (Nat.le_refl _) _).trans (hb1.mono (by simp)))
     have hsp := SpAt.next (show SpAt _ w.heap.size _ from heap_alloc_at w _) hb1
     obtain ⟨k0, k1, k2, k3, k4, k5, k6, k7⟩ := hsp.all8
     have HSp := Lib.hid hsp
     clear hb1 hsp
     go_wp2_with fail
     refine (HSg.out _).mono ?_
     rintro e w2 ⟨rfl, hb2⟩
     have hsp := SpAt.next HSp.out hb2
     clear HSp k0 k1 k2 k3 k4 k5 k6 k7
     obtain ⟨k0, k1, k2, k3, k4, k5, k6, k7⟩ := hsp.all8
     have HSp := Lib.hid hsp
     clear hsp
     have HB2 := Lib.hid (HB1.out.trans (hb2.mono HB1.out.size))
     clear hb2 HB1
     go_wp2_with fail
     refine (HIb.out _).mono ?_
     rintro e w3 ⟨rfl, hb3⟩
     have hsp := SpAt.next HSp.out hb3
     clear HSp k0 k1 k2 k3 k4 k5 k6 k7
     obtain ⟨k0, k1, k2, k3, k4, k5, k6, k7⟩ := hsp.all8
     have HSp := Lib.hid hsp
     clear hsp
     have HB3 := Lib.hid (HB2.out.trans (hb3.mono HB2.out.size))
     clear hb3 HB2
     go_wp2_with fail
     rw [HK.out]
     refine (HRp.out _).mono ?_
     rintro e w4 ⟨rfl, hb4⟩
     have hsp := SpAt.next HSp.out hb4
     clear HSp k0 k1 k2 k3 k4 k5 k6 k7
     obtain ⟨k0, k1, k2, k3, k4, k5, k6, k7⟩ := hsp.all8
     have HSp := Lib.hid hsp
     clear hsp
     have HB4 := Lib.hid (HB3.out.trans (hb4.mono HB3.out.size))
     clear hb4 HB3
     go_wp2_with fail
     refine (HPd.out _).mono ?_
     rintro e w5 ⟨rfl, hb5⟩
     have hsp := SpAt.next HSp.out hb5
     clear HSp k0 k1 k2 k3 k4 k5 k6 k7
     obtain ⟨k0, k1, k2, k3, k4, k5, k6, k7⟩ := hsp.all8
     have HSp := Lib.hid hsp
     clear hsp
     have HB5 := Lib.hid (HB4.out.trans (hb5.mono HB4.out.size))
     clear hb5 HB4
     go_wp2_with fail
     go_ret
     exact ⟨rfl, HB5.out⟩
  ·have hl48 := canon_ne0 hc hN
   have hl0 := hc.ne
   obtain ⟨F, hF⟩ : ∃ F : ByteArray, F = ⟨l.toArray⟩ := ⟨_, rfl⟩
   rw [← hF] at HFx
   have hFl : F.data.toList = l := by rw [hF]
   have hF48 : (F.toList == [48]) = false := not_48 (by rw [hFl]; exact hl48)
   have hF49 : ¬ F.toList = [48] := beq_eq_false_iff_ne.1 hF48
   have HIb := Lib.hid (fun W => inBase_any F N 16 W (by rw [hFl]; exact hc) (by rw [hFl]; exact hl) hnb (by decide) (by decide))
   obtain ⟨E, hE⟩ : ∃ E : ByteArray, E = bytesN (baseN 16 N) := ⟨_, rfl⟩
   have hEl : E.data.toList = baseD 16 N := by rw [hE]; rfl
   have hE0 : ¬ E.toList = [] := by rw [ByteArray.toList_eq, hEl]; exact baseD_ne (by decide) hN
   have hE2 : E.toList.isEmpty = false := isEmpty_no hE0
   have hE48 : (E.toList == [48]) = false := not_48 (by rw [hEl]; exact baseD_one (by decide) (by decide) hN)
   have hE49 : ¬ E.toList = [48] := beq_eq_false_iff_ne.1 hE48
   have hEs : E.size ≤ 4001 := by rw [sz_list, hEl]; exact baseD_len (by decide) hnb
   have hEa : Asc E.data.toList := by rw [hEl]; exact baseD_asc N (by decide) (by decide)
   rw [← hE] at HIb
   have hbw : baseW false 120 N = E.data.toList := by unfold baseW; rw [if_neg (by decide), if_pos (by decide), hEl]
   have hDs : E.size ≤ 4100 := by omega
   clear hl48 hl0 hc hdl hF hFl hl hE
   obtain ⟨K, hK⟩ : ∃ K, K = (pr - (E.size : Int)).toNat := ⟨_, rfl⟩
   have HK := Lib.hid (show max 0 (pr - (E.size : Int)) = (K : Int) from by omega)
   have hK2 : K ≤ 190 := by omega
   obtain ⟨R, hR⟩ : ∃ R : ByteArray, R = ⟨(List.replicate K 48).toArray⟩ := ⟨_, rfl⟩
   have HRp := Lib.hid (fun W => Repeat_one 48 K W (by omega))
   rw [← hR] at HRp
   have hRl : List.replicate K 48 = R.data.toList := by rw [hR]
   have hRs : R.size ≤ 190 := by rw [sz_list, ← hRl, List.length_replicate]; omega
   have hn : numW false pr 120 N = (R ++ E).data.toList := by unfold numW; rw [if_neg hN, hbw, ← sz_list, ← hK, hRl, ByteArray.data_append, Array.toList_append] <;> simp [ByteArray.data_append]
   have hh : headW p bl false 120 S N = sg.data.toList := by unfold headW; rw [if_neg (by decide), if_neg (fun h => by cases h.2.1), if_neg (fun h => hN h.2.2)]; exact hsgl
   have HPd := Lib.hid (fun W => padded_any m p bl false z (z && decide (pr < 0)) wd pr 120 sg (R ++ E) W hw hw2 (by rw [sz_list]; omega) (by rw [ByteArray.size_append]; omega))
   unfold specA at HPd
   have hzz : True := trivial
   rw [hn, hh]
   generalize (⟨(padL m (z && decide (pr < 0)) wd sg.data.toList (R ++ E).data.toList).toArray⟩ : ByteArray) = out at *
   clear hn hh hR hRl hzz hK hsgl hsl hsa hnb hbw hN hEa
   cases z
   all_goals
    simp only [Bool.false_and, Bool.true_and] at HPd
    go_enter Tryz.func72, Tryz.ntmps72
    go_wp2_with fail
    refine (HTr.out _).mono ?_
    rintro e _ ⟨rfl, rfl⟩
    go_wp2_with fail
    refine (HFx.out _).mono ?_
    rintro e w1 ⟨rfl, hb1⟩
    have HB1 := Lib.hid (((Below.refl w.heap.size w).alloc (Nat.le_refl _) _).trans (hb1.mono (by simp)))
    have hsp := SpAt.next (show SpAt _ w.heap.size _ from heap_alloc_at w _) hb1
    obtain ⟨k0, k1, k2, k3, k4, k5, k6, k7⟩ := hsp.all8
    have HSp := Lib.hid hsp
    clear hb1 hsp
    go_wp2_with fail
    refine (HSg.out _).mono ?_
    rintro e w2 ⟨rfl, hb2⟩
    have hsp := SpAt.next HSp.out hb2
    clear HSp k0 k1 k2 k3 k4 k5 k6 k7
    obtain ⟨k0, k1, k2, k3, k4, k5, k6, k7⟩ := hsp.all8
    have HSp := Lib.hid hsp
    clear hsp
    have HB2 := Lib.hid (HB1.out.trans (hb2.mono HB1.out.size))
    clear hb2 HB1
    go_wp2_with fail
    refine (HIb.out _).mono ?_
    rintro e w3 ⟨rfl, hb3⟩
    have hsp := SpAt.next HSp.out hb3
    clear HSp k0 k1 k2 k3 k4 k5 k6 k7
    obtain ⟨k0, k1, k2, k3, k4, k5, k6, k7⟩ := hsp.all8
    have HSp := Lib.hid hsp
    clear hsp
    have HB3 := Lib.hid (HB2.out.trans (hb3.mono HB2.out.size))
    clear hb3 HB2
    go_wp2_with fail
    rw [HK.out]
    refine (HRp.out _).mono ?_
    rintro e w4 ⟨rfl, hb4⟩
    have hsp := SpAt.next HSp.out hb4
    clear HSp k0 k1 k2 k3 k4 k5 k6 k7
    obtain ⟨k0, k1, k2, k3, k4, k5, k6, k7⟩ := hsp.all8
    have HSp := Lib.hid hsp
    clear hsp
    have HB4 := Lib.hid (HB3.out.trans (hb4.mono HB3.out.size))
    clear hb4 HB3
    go_wp2_with fail
    refine (HPd.out _).mono ?_
    rintro e w5 ⟨rfl, hb5⟩
    have hsp := SpAt.next HSp.out hb5
    clear HSp k0 k1 k2 k3 k4 k5 k6 k7
    obtain ⟨k0, k1, k2, k3, k4, k5, k6, k7⟩ := hsp.all8
    have HSp := Lib.hid hsp
    clear hsp
    have HB5 := Lib.hid (HB4.out.trans (hb5.mono HB4.out.size))
    clear hb5 HB4
    go_wp2_with fail
    go_ret
    exact ⟨rfl, HB5.out⟩
 ·by_cases hN : N = 0
  ·subst hN
   have hl48 : l = [48] := canon_0 hc
   subst hl48
   clear hc hl hdl
   have HIb : Hid (∀ W, Calls Tryz.prog 129 #[.string ⟨#[48]⟩, .int .u64 16] W fun e w' => e = .returned (.string ⟨#[]⟩) ∧ Below W.heap.size W w') := fun W => inBase_any ⟨#[48]⟩ 0 16 W ⟨by simp, fun c hc => by (simp at hc; subst hc; decide), by decide, fun c r e hc => by (cases e; rfl)⟩ (by decide) (by decide) (by decide) (by decide)
   by_cases hpz : pr = 0
   ·subst hpz
    obtain ⟨R, hR⟩ : ∃ R : ByteArray, R = ⟨(List.replicate 0 48).toArray⟩ := ⟨_, rfl⟩
    have HRp : Hid (∀ W, Calls Tryz.prog 114 #[.string ⟨#[48]⟩, .int .i64 0] W fun e w' => e = .returned (.string R) ∧ Below W.heap.size W w') := fun W => by rw [hR]; exact Repeat_one 48 0 W (by decide)
    have hRl : List.replicate 0 48 = R.data.toList := by rw [hR]
    have hK : True := trivial
    have hRs : R.size ≤ 190 := by rw [sz_list, ← hRl, List.length_replicate]; omega
    have hn : numW true 0 120 0 = (R ++ ⟨#[]⟩).data.toList := by unfold numW; rw [if_pos rfl, if_neg (fun h => by cases h.1), if_pos rfl, ByteArray.data_append, Array.toList_append, ← hRl]; rfl
    have hh : headW p bl true 120 S 0 = sg.data.toList := by unfold headW; rw [if_neg (by decide), if_neg (fun h => h.2.2 rfl), if_neg (fun h => by cases h.1)]; exact hsgl
    have HPd := Lib.hid (fun W => padded_any m p bl true z (false) wd 0 120 sg (R ++ ⟨#[]⟩) W hw hw2 (by rw [sz_list]; omega) (by rw [ByteArray.size_append]; show R.size + 0 ≤ _; omega))
    unfold specA at HPd
    have hzz : (z && decide ((0 : Int) < 0)) = false := by simp
    rw [hn, hh, hzz]
    generalize (⟨(padL m (false) wd sg.data.toList (R ++ ⟨#[]⟩).data.toList).toArray⟩ : ByteArray) = out at *
    clear hn hh hR hRl hzz hK hsgl hsl hsa hnb
    cases z
    all_goals
     go_enter Tryz.func72, Tryz.ntmps72
     go_wp2_with fail
     refine (HTr.out _).mono ?_
     rintro e _ ⟨rfl, rfl⟩
     go_wp2_with fail
     refine (HFx.out _).mono ?_
     rintro e w1 ⟨rfl, hb1⟩
     have HB1 := Lib.hid (((Below.refl w.heap.size w).alloc (Nat.le_refl _) _).trans (hb1.mono (by simp)))
     have hsp := SpAt.next (show SpAt _ w.heap.size _ from heap_alloc_at w _) hb1
     obtain ⟨k0, k1, k2, k3, k4, k5, k6, k7⟩ := hsp.all8
     have HSp := Lib.hid hsp
     clear hb1 hsp
     go_wp2_with fail
     refine (HSg.out _).mono ?_
     rintro e w2 ⟨rfl, hb2⟩
     have hsp := SpAt.next HSp.out hb2
     clear HSp k0 k1 k2 k3 k4 k5 k6 k7
     obtain ⟨k0, k1, k2, k3, k4, k5, k6, k7⟩ := hsp.all8
     have HSp := Lib.hid hsp
     clear hsp
     have HB2 := Lib.hid (HB1.out.trans (hb2.mono HB1.out.size))
     clear hb2 HB1
     go_wp2_with fail
     refine (HIb.out _).mono ?_
     rintro e w3 ⟨rfl, hb3⟩
     have hsp := SpAt.next HSp.out hb3
     clear HSp k0 k1 k2 k3 k4 k5 k6 k7
     obtain ⟨k0, k1, k2, k3, k4, k5, k6, k7⟩ := hsp.all8
     have HSp := Lib.hid hsp
     clear hsp
     have HB3 := Lib.hid (HB2.out.trans (hb3.mono HB2.out.size))
     clear hb3 HB2
     go_wp2_with fail
     refine (HRp.out _).mono ?_
     rintro e w4 ⟨rfl, hb4⟩
     have hsp := SpAt.next HSp.out hb4
     clear HSp k0 k1 k2 k3 k4 k5 k6 k7
     obtain ⟨k0, k1, k2, k3, k4, k5, k6, k7⟩ := hsp.all8
     have HSp := Lib.hid hsp
     clear hsp
     have HB4 := Lib.hid (HB3.out.trans (hb4.mono HB3.out.size))
     clear hb4 HB3
     go_wp2_with fail
     refine (HPd.out _).mono ?_
     rintro e w5 ⟨rfl, hb5⟩
     have hsp := SpAt.next HSp.out hb5
     clear HSp k0 k1 k2 k3 k4 k5 k6 k7
     obtain ⟨k0, k1, k2, k3, k4, k5, k6, k7⟩ := hsp.all8
     have HSp := Lib.hid hsp
     clear hsp
     have HB5 := Lib.hid (HB4.out.trans (hb5.mono HB4.out.size))
     clear hb5 HB4
     go_wp2_with fail
     go_ret
     exact ⟨rfl, HB5.out⟩
   ·have hpz2 : (pr == 0) = false := beq_eq_false_iff_ne.2 hpz
    obtain ⟨K, hK⟩ : ∃ K, K = (pr - 1 : Int).toNat := ⟨_, rfl⟩
    have HK := Lib.hid (show max 0 ((pr : Int) - 1) = (K : Int) from by omega)
    have hK2 : K ≤ 190 := by omega
    obtain ⟨R, hR⟩ : ∃ R : ByteArray, R = ⟨(List.replicate K 48).toArray⟩ := ⟨_, rfl⟩
    have HRp := Lib.hid (fun W => Repeat_one 48 K W (by omega))
    rw [← hR] at HRp
    have hRl : List.replicate K 48 = R.data.toList := by rw [hR]
    have hRs : R.size ≤ 190 := by rw [sz_list, ← hRl, List.length_replicate]; omega
    have hn : numW true pr 120 0 = (R ++ ⟨#[48]⟩).data.toList := by unfold numW; rw [if_pos rfl, if_neg (fun h => by cases h.1), if_neg hpz, ByteArray.data_append, Array.toList_append, ← hRl, hK]
    have hh : headW p bl true 120 S 0 = sg.data.toList := by unfold headW; rw [if_neg (by decide), if_neg (fun h => h.2.2 rfl), if_neg (fun h => by cases h.1)]; exact hsgl
    have HPd := Lib.hid (fun W => padded_any m p bl true z (z && decide (pr < 0)) wd pr 120 sg (R ++ ⟨#[48]⟩) W hw hw2 (by rw [sz_list]; omega) (by rw [ByteArray.size_append]; show R.size + 1 ≤ _; omega))
    unfold specA at HPd
    have hzz : True := trivial
    rw [hn, hh]
    generalize (⟨(padL m (z && decide (pr < 0)) wd sg.data.toList (R ++ ⟨#[48]⟩).data.toList).toArray⟩ : ByteArray) = out at *
    clear hn hh hR hRl hzz hK hsgl hsl hsa hnb hpz
    cases z
    all_goals
     simp only [Bool.false_and, Bool.true_and] at HPd
     go_enter Tryz.func72, Tryz.ntmps72
     go_wp2_with fail
     refine (HTr.out _).mono ?_
     rintro e _ ⟨rfl, rfl⟩
     go_wp2_with fail
     refine (HFx.out _).mono ?_
     rintro e w1 ⟨rfl, hb1⟩
     have HB1 := Lib.hid (((Below.refl w.heap.size w).alloc (Nat.le_refl _) _).trans (hb1.mono (by simp)))
     have hsp := SpAt.next (show SpAt _ w.heap.size _ from heap_alloc_at w _) hb1
     obtain ⟨k0, k1, k2, k3, k4, k5, k6, k7⟩ := hsp.all8
     have HSp := Lib.hid hsp
     clear hb1 hsp
     go_wp2_with fail
     refine (HSg.out _).mono ?_
     rintro e w2 ⟨rfl, hb2⟩
     have hsp := SpAt.next HSp.out hb2
     clear HSp k0 k1 k2 k3 k4 k5 k6 k7
     obtain ⟨k0, k1, k2, k3, k4, k5, k6, k7⟩ := hsp.all8
     have HSp := Lib.hid hsp
     clear hsp
     have HB2 := Lib.hid (HB1.out.trans (hb2.mono HB1.out.size))
     clear hb2 HB1
     go_wp2_with fail
     refine (HIb.out _).mono ?_
     rintro e w3 ⟨rfl, hb3⟩
     have hsp := SpAt.next HSp.out hb3
     clear HSp k0 k1 k2 k3 k4 k5 k6 k7
     obtain ⟨k0, k1, k2, k3, k4, k5, k6, k7⟩ := hsp.all8
     have HSp := Lib.hid hsp
     clear hsp
     have HB3 := Lib.hid (HB2.out.trans (hb3.mono HB2.out.size))
     clear hb3 HB2
     go_wp2_with fail
     rw [HK.out]
     refine (HRp.out _).mono ?_
     rintro e w4 ⟨rfl, hb4⟩
     have hsp := SpAt.next HSp.out hb4
     clear HSp k0 k1 k2 k3 k4 k5 k6 k7
     obtain ⟨k0, k1, k2, k3, k4, k5, k6, k7⟩ := hsp.all8
     have HSp := Lib.hid hsp
     clear hsp
     have HB4 := Lib.hid (HB3.out.trans (hb4.mono HB3.out.size))
     clear hb4 HB3
     go_wp2_with fail
     refine (HPd.out _).mono ?_
     rintro e w5 ⟨rfl, hb5⟩
     have hsp := SpAt.next HSp.out hb5
     clear HSp k0 k1 k2 k3 k4 k5 k6 k7
     obtain ⟨k0, k1, k2, k3, k4, k5, k6, k7⟩ := hsp.all8
     have HSp := Lib.hid hsp
     clear hsp
     have HB5 := Lib.hid (HB4.out.trans (hb5.mono HB4.out.size))
     clear hb5 HB4
     go_wp2_with fail
     go_ret
     exact ⟨rfl, HB5.out⟩
  ·have hl48 := canon_ne0 hc hN
   have hl0 := hc.ne
   obtain ⟨F, hF⟩ : ∃ F : ByteArray, F = ⟨l.toArray⟩ := ⟨_, rfl⟩
   rw [← hF] at HFx
   have hFl : F.data.toList = l := by rw [hF]
   have hF48 : (F.toList == [48]) = false := not_48 (by rw [hFl]; exact hl48)
   have hF49 : ¬ F.toList = [48] := beq_eq_false_iff_ne.1 hF48
   have HIb := Lib.hid (fun W => inBase_any F N 16 W (by rw [hFl]; exact hc) (by rw [hFl]; exact hl) hnb (by decide) (by decide))
   obtain ⟨E, hE⟩ : ∃ E : ByteArray, E = bytesN (baseN 16 N) := ⟨_, rfl⟩
   have hEl : E.data.toList = baseD 16 N := by rw [hE]; rfl
   have hE0 : ¬ E.toList = [] := by rw [ByteArray.toList_eq, hEl]; exact baseD_ne (by decide) hN
   have hE2 : E.toList.isEmpty = false := isEmpty_no hE0
   have hE48 : (E.toList == [48]) = false := not_48 (by rw [hEl]; exact baseD_one (by decide) (by decide) hN)
   have hE49 : ¬ E.toList = [48] := beq_eq_false_iff_ne.1 hE48
   have hEs : E.size ≤ 4001 := by rw [sz_list, hEl]; exact baseD_len (by decide) hnb
   have hEa : Asc E.data.toList := by rw [hEl]; exact baseD_asc N (by decide) (by decide)
   rw [← hE] at HIb
   have hbw : baseW true 120 N = E.data.toList := by unfold baseW; rw [if_neg (by decide), if_pos (by decide), hEl]
   have hDs : E.size ≤ 4100 := by omega
   clear hl48 hl0 hc hdl hF hFl hl hE
   obtain ⟨K, hK⟩ : ∃ K, K = (pr - (E.size : Int)).toNat := ⟨_, rfl⟩
   have HK := Lib.hid (show max 0 (pr - (E.size : Int)) = (K : Int) from by omega)
   have hK2 : K ≤ 190 := by omega
   obtain ⟨R, hR⟩ : ∃ R : ByteArray, R = ⟨(List.replicate K 48).toArray⟩ := ⟨_, rfl⟩
   have HRp := Lib.hid (fun W => Repeat_one 48 K W (by omega))
   rw [← hR] at HRp
   have hRl : List.replicate K 48 = R.data.toList := by rw [hR]
   have hRs : R.size ≤ 190 := by rw [sz_list, ← hRl, List.length_replicate]; omega
   have hn : numW true pr 120 N = (R ++ E).data.toList := by unfold numW; rw [if_neg hN, hbw, ← sz_list, ← hK, hRl, ByteArray.data_append, Array.toList_append] <;> simp [ByteArray.data_append]
   have hh : headW p bl true 120 S N = (sg ++ ⟨#[48, 120]⟩).data.toList := by unfold headW; rw [if_neg (by decide), if_pos ⟨by decide, rfl, hN⟩, hsgl, ByteArray.data_append, Array.toList_append]
   have HPd := Lib.hid (fun W => padded_any m p bl true z (z && decide (pr < 0)) wd pr 120 (sg ++ ⟨#[48, 120]⟩) (R ++ E) W hw hw2 (by rw [ByteArray.size_append, sz_list sg]; show _ + 2 ≤ _; omega) (by rw [ByteArray.size_append]; omega))
   unfold specA at HPd
   have hzz : True := trivial
   rw [hn, hh]
   generalize (⟨(padL m (z && decide (pr < 0)) wd (sg ++ ⟨#[48, 120]⟩).data.toList (R ++ E).data.toList).toArray⟩ : ByteArray) = out at *
   clear hn hh hR hRl hzz hK hsgl hsl hsa hnb hbw hN hEa
   cases z
   all_goals
    simp only [Bool.false_and, Bool.true_and] at HPd
    go_enter Tryz.func72, Tryz.ntmps72
    go_wp2_with fail
    refine (HTr.out _).mono ?_
    rintro e _ ⟨rfl, rfl⟩
    go_wp2_with fail
    refine (HFx.out _).mono ?_
    rintro e w1 ⟨rfl, hb1⟩
    have HB1 := Lib.hid (((Below.refl w.heap.size w).alloc (Nat.le_refl _) _).trans (hb1.mono (by simp)))
    have hsp := SpAt.next (show SpAt _ w.heap.size _ from heap_alloc_at w _) hb1
    obtain ⟨k0, k1, k2, k3, k4, k5, k6, k7⟩ := hsp.all8
    have HSp := Lib.hid hsp
    clear hb1 hsp
    go_wp2_with fail
    refine (HSg.out _).mono ?_
    rintro e w2 ⟨rfl, hb2⟩
    have hsp := SpAt.next HSp.out hb2
    clear HSp k0 k1 k2 k3 k4 k5 k6 k7
    obtain ⟨k0, k1, k2, k3, k4, k5, k6, k7⟩ := hsp.all8
    have HSp := Lib.hid hsp
    clear hsp
    have HB2 := Lib.hid (HB1.out.trans (hb2.mono HB1.out.size))
    clear hb2 HB1
    go_wp2_with fail
    refine (HIb.out _).mono ?_
    rintro e w3 ⟨rfl, hb3⟩
    have hsp := SpAt.next HSp.out hb3
    clear HSp k0 k1 k2 k3 k4 k5 k6 k7
    obtain ⟨k0, k1, k2, k3, k4, k5, k6, k7⟩ := hsp.all8
    have HSp := Lib.hid hsp
    clear hsp
    have HB3 := Lib.hid (HB2.out.trans (hb3.mono HB2.out.size))
    clear hb3 HB2
    go_wp2_with fail
    rw [HK.out]
    refine (HRp.out _).mono ?_
    rintro e w4 ⟨rfl, hb4⟩
    have hsp := SpAt.next HSp.out hb4
    clear HSp k0 k1 k2 k3 k4 k5 k6 k7
    obtain ⟨k0, k1, k2, k3, k4, k5, k6, k7⟩ := hsp.all8
    have HSp := Lib.hid hsp
    clear hsp
    have HB4 := Lib.hid (HB3.out.trans (hb4.mono HB3.out.size))
    clear hb4 HB3
    go_wp2_with fail
    refine (HPd.out _).mono ?_
    rintro e w5 ⟨rfl, hb5⟩
    have hsp := SpAt.next HSp.out hb5
    clear HSp k0 k1 k2 k3 k4 k5 k6 k7
    obtain ⟨k0, k1, k2, k3, k4, k5, k6, k7⟩ := hsp.all8
    have HSp := Lib.hid hsp
    clear hsp
    have HB5 := Lib.hid (HB4.out.trans (hb5.mono HB4.out.size))
    clear hb5 HB4
    go_wp2_with fail
    go_ret
    exact ⟨rfl, HB5.out⟩
set_option maxHeartbeats 16000000 in
set_option maxRecDepth 1000000 in
theorem whole_88 (m p bl al z : Bool) (wd pr : Int) (b : Nat) (w : World) (hb : b < 18446744073709551616) (hf : fin b = true) (hp1 : -1 ≤ pr) (hp2 : pr ≤ 190) (hw : 0 ≤ wd) (hw2 : wd ≤ 1024) :
 Calls Tryz.prog 72 #[.agg (specA m p bl al z wd pr 88), .float .f64 b] w fun e w' => e = .returned (.string (wholeO m p bl al z wd pr 88 b)) ∧ Below w.heap.size w w' := by
 have HTr := Lib.hid (fun W => Trunc_any b W hb)
 obtain ⟨ht1, ht2⟩ := trunc_fin hb hf
 obtain ⟨l, hc, hl, hfx, hdl⟩ := whole_text hb hf
 have HFx := Lib.hid (fun W => Fixed_det (truncB b) 0 W ht1 ht2 (by decide))
 rw [hfx] at HFx
 have hnb := whole_bits5 b
 have hS : (FloatKind.f64.format.order (truncB b) 0 == some .lt) = wholeS b := rfl
 have hO : wholeO m p bl al z wd pr 88 b = ⟨(Lib.toUpperA (padW m p bl al z wd pr 88 b)).toArray⟩ := rfl
 rw [hO]
 clear hO
 unfold padW
 generalize truncB b = T at *
 generalize wholeN b = N at *
 generalize wholeS b = S at *
 clear ht1 ht2 hfx hb hf
 have HSg := Lib.hid (fun W => sign_any false false false false false S 0 0 0 W)
 obtain ⟨sg, hsg⟩ : ∃ sg : ByteArray, sg = ⟨(signL false false S).toArray⟩ := ⟨_, rfl⟩
 have hsl := signL_size5 false false S
 have hsa := signL_asc false false S
 rw [← hsg] at HSg
 have hsgl : signL false false S = sg.data.toList := by rw [hsg]
 rw [hsgl] at hsl hsa
 have hsgz : sg.size ≤ 1 := by rw [sz_list]; exact hsl
 clear hsg
 unfold specA at *
 cases al
 ·by_cases hN : N = 0
  ·subst hN
   have hl48 : l = [48] := canon_0 hc
   subst hl48
   clear hc hl hdl
   have HIb : Hid (∀ W, Calls Tryz.prog 129 #[.string ⟨#[48]⟩, .int .u64 16] W fun e w' => e = .returned (.string ⟨#[]⟩) ∧ Below W.heap.size W w') := fun W => inBase_any ⟨#[48]⟩ 0 16 W ⟨by simp, fun c hc => by (simp at hc; subst hc; decide), by decide, fun c r e hc => by (cases e; rfl)⟩ (by decide) (by decide) (by decide) (by decide)
   by_cases hpz : pr = 0
   ·subst hpz
    obtain ⟨R, hR⟩ : ∃ R : ByteArray, R = ⟨(List.replicate 0 48).toArray⟩ := ⟨_, rfl⟩
    have HRp : Hid (∀ W, Calls Tryz.prog 114 #[.string ⟨#[48]⟩, .int .i64 0] W fun e w' => e = .returned (.string R) ∧ Below W.heap.size W w') := fun W => by rw [hR]; exact Repeat_one 48 0 W (by decide)
    have hRl : List.replicate 0 48 = R.data.toList := by rw [hR]
    have hK : True := trivial
    have hRs : R.size ≤ 190 := by rw [sz_list, ← hRl, List.length_replicate]; omega
    have hn : numW false 0 88 0 = (R ++ ⟨#[]⟩).data.toList := by unfold numW; rw [if_pos rfl, if_neg (fun h => by cases h.1), if_pos rfl, ByteArray.data_append, Array.toList_append, ← hRl]; rfl
    have hh : headW p bl false 88 S 0 = sg.data.toList := by unfold headW; rw [if_neg (by decide), if_neg (fun h => h.2.2 rfl), if_neg (fun h => by cases h.1)]; exact hsgl
    have HPd := Lib.hid (fun W => padded_any m p bl false z (false) wd 0 88 sg (R ++ ⟨#[]⟩) W hw hw2 (by rw [sz_list]; omega) (by rw [ByteArray.size_append]; show R.size + 0 ≤ _; omega))
    unfold specA at HPd
    have hzz : (z && decide ((0 : Int) < 0)) = false := by simp
    rw [hn, hh, hzz]
    have hoa := padL_asc (m := m) (z := false) (wd := wd) hsa (show Asc (R ++ ⟨#[]⟩).data.toList from Asc.appB (by rw [← hRl]; exact Asc.rep _ (by decide)) (by intro c hc; simp at hc; try (subst hc; decide)))
    have hol := padL_size5 (m := m) (z := false) (h := sg.data.toList) (s := (R ++ ⟨#[]⟩).data.toList) hw2
    rw [← sz_list, ← sz_list, ByteArray.size_append] at hol
    generalize padL m (false) wd sg.data.toList (R ++ ⟨#[]⟩).data.toList = ol at *
    have HUp := Lib.hid (fun W => Tryz.strings_ToUpper_ascii ⟨ol.toArray⟩ W (by rw [sz_list]; show ol.length ≤ _; have : (⟨#[]⟩ : ByteArray).size = 0 := rfl; rw [← sz_list] at hsl; omega) (fun j c hj => hoa c (List.mem_of_getElem? hj)))
    clear hoa hol
    clear hn hh hR hRl hzz hK hsgl hsl hsa hnb
    cases z
    all_goals
     go_enter Tryz.func72, Tryz.ntmps72
     go_wp2_with fail
     refine (HTr.out _).mono ?_
     rintro e _ ⟨rfl, rfl⟩
     go_wp2_with fail
     refine (HFx.out _).mono ?_
     rintro e w1 ⟨rfl, hb1⟩
     have HB1 := Lib.hid (((Below.refl w.heap.size w).alloc (Nat.le_refl _) _).trans (hb1.mono (by simp)))
     have hsp := SpAt.next (show SpAt _ w.heap.size _ from heap_alloc_at w _) hb1
     obtain ⟨k0, k1, k2, k3, k4, k5, k6, k7⟩ := hsp.all8
     have HSp := Lib.hid hsp
     clear hb1 hsp
     go_wp2_with fail
     refine (HSg.out _).mono ?_
     rintro e w2 ⟨rfl, hb2⟩
     have hsp := SpAt.next HSp.out hb2
     clear HSp k0 k1 k2 k3 k4 k5 k6 k7
     obtain ⟨k0, k1, k2, k3, k4, k5, k6, k7⟩ := hsp.all8
     have HSp := Lib.hid hsp
     clear hsp
     have HB2 := Lib.hid (HB1.out.trans (hb2.mono HB1.out.size))
     clear hb2 HB1
     go_wp2_with fail
     refine (HIb.out _).mono ?_
     rintro e w3 ⟨rfl, hb3⟩
     have hsp := SpAt.next HSp.out hb3
     clear HSp k0 k1 k2 k3 k4 k5 k6 k7
     obtain ⟨k0, k1, k2, k3, k4, k5, k6, k7⟩ := hsp.all8
     have HSp := Lib.hid hsp
     clear hsp
     have HB3 := Lib.hid (HB2.out.trans (hb3.mono HB2.out.size))
     clear hb3 HB2
     go_wp2_with fail
     refine (HRp.out _).mono ?_
     rintro e w4 ⟨rfl, hb4⟩
     have hsp := SpAt.next HSp.out hb4
     clear HSp k0 k1 k2 k3 k4 k5 k6 k7
     obtain ⟨k0, k1, k2, k3, k4, k5, k6, k7⟩ := hsp.all8
     have HSp := Lib.hid hsp
     clear hsp
     have HB4 := Lib.hid (HB3.out.trans (hb4.mono HB3.out.size))
     clear hb4 HB3
     go_wp2_with fail
     refine (HPd.out _).mono ?_
     rintro e w5 ⟨rfl, hb5⟩
     have hsp := SpAt.next HSp.out hb5
     clear HSp k0 k1 k2 k3 k4 k5 k6 k7
     obtain ⟨k0, k1, k2, k3, k4, k5, k6, k7⟩ := hsp.all8
     have HSp := Lib.hid hsp
     clear hsp
     have HB5 := Lib.hid (HB4.out.trans (hb5.mono HB4.out.size))
     clear hb5 HB4
     go_wp2_with fail
     refine (HUp.out _).mono ?_
     rintro e w6 ⟨rfl, hb6⟩
     have hsp := SpAt.next HSp.out hb6
     clear HSp k0 k1 k2 k3 k4 k5 k6 k7
     obtain ⟨k0, k1, k2, k3, k4, k5, k6, k7⟩ := hsp.all8
     have HSp := Lib.hid hsp
     clear hsp
     have HB6 := Lib.hid (HB5.out.trans (hb6.mono HB5.out.size))
     clear hb6 HB5
     go_wp2_with fail
     go_ret
     exact ⟨rfl, HB6.out⟩
   ·have hpz2 : (pr == 0) = false := beq_eq_false_iff_ne.2 hpz
    obtain ⟨K, hK⟩ : ∃ K, K = (pr - 1 : Int).toNat := ⟨_, rfl⟩
    have HK := Lib.hid (show max 0 ((pr : Int) - 1) = (K : Int) from by omega)
    have hK2 : K ≤ 190 := by omega
    obtain ⟨R, hR⟩ : ∃ R : ByteArray, R = ⟨(List.replicate K 48).toArray⟩ := ⟨_, rfl⟩
    have HRp := Lib.hid (fun W => Repeat_one 48 K W (by omega))
    rw [← hR] at HRp
    have hRl : List.replicate K 48 = R.data.toList := by rw [hR]
    have hRs : R.size ≤ 190 := by rw [sz_list, ← hRl, List.length_replicate]; omega
    have hn : numW false pr 88 0 = (R ++ ⟨#[48]⟩).data.toList := by unfold numW; rw [if_pos rfl, if_neg (fun h => by cases h.1), if_neg hpz, ByteArray.data_append, Array.toList_append, ← hRl, hK]
    have hh : headW p bl false 88 S 0 = sg.data.toList := by unfold headW; rw [if_neg (by decide), if_neg (fun h => h.2.2 rfl), if_neg (fun h => by cases h.1)]; exact hsgl
    have HPd := Lib.hid (fun W => padded_any m p bl false z (z && decide (pr < 0)) wd pr 88 sg (R ++ ⟨#[48]⟩) W hw hw2 (by rw [sz_list]; omega) (by rw [ByteArray.size_append]; show R.size + 1 ≤ _; omega))
    unfold specA at HPd
    have hzz : True := trivial
    rw [hn, hh]
    have hoa := padL_asc (m := m) (z := z && decide (pr < 0)) (wd := wd) hsa (show Asc (R ++ ⟨#[48]⟩).data.toList from Asc.appB (by rw [← hRl]; exact Asc.rep _ (by decide)) (by intro c hc; simp at hc; try (subst hc; decide)))
    have hol := padL_size5 (m := m) (z := z && decide (pr < 0)) (h := sg.data.toList) (s := (R ++ ⟨#[48]⟩).data.toList) hw2
    rw [← sz_list, ← sz_list, ByteArray.size_append] at hol
    generalize padL m (z && decide (pr < 0)) wd sg.data.toList (R ++ ⟨#[48]⟩).data.toList = ol at *
    have HUp := Lib.hid (fun W => Tryz.strings_ToUpper_ascii ⟨ol.toArray⟩ W (by rw [sz_list]; show ol.length ≤ _; have : (⟨#[48]⟩ : ByteArray).size = 1 := rfl; rw [← sz_list] at hsl; omega) (fun j c hj => hoa c (List.mem_of_getElem? hj)))
    clear hoa hol
    clear hn hh hR hRl hzz hK hsgl hsl hsa hnb hpz
    cases z
    all_goals
     simp only [Bool.false_and, Bool.true_and] at HPd
     go_enter Tryz.func72, Tryz.ntmps72
     go_wp2_with fail
     refine (HTr.out _).mono ?_
     rintro e _ ⟨rfl, rfl⟩
     go_wp2_with fail
     refine (HFx.out _).mono ?_
     rintro e w1 ⟨rfl, hb1⟩
     have HB1 := Lib.hid (((Below.refl w.heap.size w).alloc (Nat.le_refl _) _).trans (hb1.mono (by simp)))
     have hsp := SpAt.next (show SpAt _ w.heap.size _ from heap_alloc_at w _) hb1
     obtain ⟨k0, k1, k2, k3, k4, k5, k6, k7⟩ := hsp.all8
     have HSp := Lib.hid hsp
     clear hb1 hsp
     go_wp2_with fail
     refine (HSg.out _).mono ?_
     rintro e w2 ⟨rfl, hb2⟩
     have hsp := SpAt.next HSp.out hb2
     clear HSp k0 k1 k2 k3 k4 k5 k6 k7
     obtain ⟨k0, k1, k2, k3, k4, k5, k6, k7⟩ := hsp.all8
     have HSp := Lib.hid hsp
     clear hsp
     have HB2 := Lib.hid (HB1.out.trans (hb2.mono HB1.out.size))
     clear hb2 HB1
     go_wp2_with fail
     refine (HIb.out _).mono ?_
     rintro e w3 ⟨rfl, hb3⟩
     have hsp := SpAt.next HSp.out hb3
     clear HSp k0 k1 k2 k3 k4 k5 k6 k7
     obtain ⟨k0, k1, k2, k3, k4, k5, k6, k7⟩ := hsp.all8
     have HSp := Lib.hid hsp
     clear hsp
     have HB3 := Lib.hid (HB2.out.trans (hb3.mono HB2.out.size))
     clear hb3 HB2
     go_wp2_with fail
     rw [HK.out]
     refine (HRp.out _).mono ?_
     rintro e w4 ⟨rfl, hb4⟩
     have hsp := SpAt.next HSp.out hb4
     clear HSp k0 k1 k2 k3 k4 k5 k6 k7
     obtain ⟨k0, k1, k2, k3, k4, k5, k6, k7⟩ := hsp.all8
     have HSp := Lib.hid hsp
     clear hsp
     have HB4 := Lib.hid (HB3.out.trans (hb4.mono HB3.out.size))
     clear hb4 HB3
     go_wp2_with fail
     refine (HPd.out _).mono ?_
     rintro e w5 ⟨rfl, hb5⟩
     have hsp := SpAt.next HSp.out hb5
     clear HSp k0 k1 k2 k3 k4 k5 k6 k7
     obtain ⟨k0, k1, k2, k3, k4, k5, k6, k7⟩ := hsp.all8
     have HSp := Lib.hid hsp
     clear hsp
     have HB5 := Lib.hid (HB4.out.trans (hb5.mono HB4.out.size))
     clear hb5 HB4
     go_wp2_with fail
     refine (HUp.out _).mono ?_
     rintro e w6 ⟨rfl, hb6⟩
     have hsp := SpAt.next HSp.out hb6
     clear HSp k0 k1 k2 k3 k4 k5 k6 k7
     obtain ⟨k0, k1, k2, k3, k4, k5, k6, k7⟩ := hsp.all8
     have HSp := Lib.hid hsp
     clear hsp
     have HB6 := Lib.hid (HB5.out.trans (hb6.mono HB5.out.size))
     clear hb6 HB5
     go_wp2_with fail
     go_ret
     exact ⟨rfl, HB6.out⟩
  ·have hl48 := canon_ne0 hc hN
   have hl0 := hc.ne
   obtain ⟨F, hF⟩ : ∃ F : ByteArray, F = ⟨l.toArray⟩ := ⟨_, rfl⟩
   rw [← hF] at HFx
   have hFl : F.data.toList = l := by rw [hF]
   have hF48 : (F.toList == [48]) = false := not_48 (by rw [hFl]; exact hl48)
   have hF49 : ¬ F.toList = [48] := beq_eq_false_iff_ne.1 hF48
   have HIb := Lib.hid (fun W => inBase_any F N 16 W (by rw [hFl]; exact hc) (by rw [hFl]; exact hl) hnb (by decide) (by decide))
   obtain ⟨E, hE⟩ : ∃ E : ByteArray, E = bytesN (baseN 16 N) := ⟨_, rfl⟩
   have hEl : E.data.toList = baseD 16 N := by rw [hE]; rfl
   have hE0 : ¬ E.toList = [] := by rw [ByteArray.toList_eq, hEl]; exact baseD_ne (by decide) hN
   have hE2 : E.toList.isEmpty = false := isEmpty_no hE0
   have hE48 : (E.toList == [48]) = false := not_48 (by rw [hEl]; exact baseD_one (by decide) (by decide) hN)
   have hE49 : ¬ E.toList = [48] := beq_eq_false_iff_ne.1 hE48
   have hEs : E.size ≤ 4001 := by rw [sz_list, hEl]; exact baseD_len (by decide) hnb
   have hEa : Asc E.data.toList := by rw [hEl]; exact baseD_asc N (by decide) (by decide)
   rw [← hE] at HIb
   have hbw : baseW false 88 N = E.data.toList := by unfold baseW; rw [if_neg (by decide), if_pos (by decide), hEl]
   have hDs : E.size ≤ 4100 := by omega
   clear hl48 hl0 hc hdl hF hFl hl hE
   obtain ⟨K, hK⟩ : ∃ K, K = (pr - (E.size : Int)).toNat := ⟨_, rfl⟩
   have HK := Lib.hid (show max 0 (pr - (E.size : Int)) = (K : Int) from by omega)
   have hK2 : K ≤ 190 := by omega
   obtain ⟨R, hR⟩ : ∃ R : ByteArray, R = ⟨(List.replicate K 48).toArray⟩ := ⟨_, rfl⟩
   have HRp := Lib.hid (fun W => Repeat_one 48 K W (by omega))
   rw [← hR] at HRp
   have hRl : List.replicate K 48 = R.data.toList := by rw [hR]
   have hRs : R.size ≤ 190 := by rw [sz_list, ← hRl, List.length_replicate]; omega
   have hn : numW false pr 88 N = (R ++ E).data.toList := by unfold numW; rw [if_neg hN, hbw, ← sz_list, ← hK, hRl, ByteArray.data_append, Array.toList_append] <;> simp [ByteArray.data_append]
   have hh : headW p bl false 88 S N = sg.data.toList := by unfold headW; rw [if_neg (by decide), if_neg (fun h => by cases h.2.1), if_neg (fun h => hN h.2.2)]; exact hsgl
   have HPd := Lib.hid (fun W => padded_any m p bl false z (z && decide (pr < 0)) wd pr 88 sg (R ++ E) W hw hw2 (by rw [sz_list]; omega) (by rw [ByteArray.size_append]; omega))
   unfold specA at HPd
   have hzz : True := trivial
   rw [hn, hh]
   have hoa := padL_asc (m := m) (z := z && decide (pr < 0)) (wd := wd) hsa (show Asc (R ++ E).data.toList from Asc.appB (by rw [← hRl]; exact Asc.rep _ (by decide)) hEa)
   have hol := padL_size5 (m := m) (z := z && decide (pr < 0)) (h := sg.data.toList) (s := (R ++ E).data.toList) hw2
   rw [← sz_list, ← sz_list, ByteArray.size_append] at hol
   generalize padL m (z && decide (pr < 0)) wd sg.data.toList (R ++ E).data.toList = ol at *
   have HUp := Lib.hid (fun W => Tryz.strings_ToUpper_ascii ⟨ol.toArray⟩ W (by rw [sz_list]; show ol.length ≤ _; rw [← sz_list] at hsl; omega) (fun j c hj => hoa c (List.mem_of_getElem? hj)))
   clear hoa hol
   clear hn hh hR hRl hzz hK hsgl hsl hsa hnb hbw hN hEa
   cases z
   all_goals
    simp only [Bool.false_and, Bool.true_and] at HPd
    go_enter Tryz.func72, Tryz.ntmps72
    go_wp2_with fail
    refine (HTr.out _).mono ?_
    rintro e _ ⟨rfl, rfl⟩
    go_wp2_with fail
    refine (HFx.out _).mono ?_
    rintro e w1 ⟨rfl, hb1⟩
    have HB1 := Lib.hid (((Below.refl w.heap.size w).alloc (Nat.le_refl _) _).trans (hb1.mono (by simp)))
    have hsp := SpAt.next (show SpAt _ w.heap.size _ from heap_alloc_at w _) hb1
    obtain ⟨k0, k1, k2, k3, k4, k5, k6, k7⟩ := hsp.all8
    have HSp := Lib.hid hsp
    clear hb1 hsp
    go_wp2_with fail
    refine (HSg.out _).mono ?_
    rintro e w2 ⟨rfl, hb2⟩
    have hsp := SpAt.next HSp.out hb2
    clear HSp k0 k1 k2 k3 k4 k5 k6 k7
    obtain ⟨k0, k1, k2, k3, k4, k5, k6, k7⟩ := hsp.all8
    have HSp := Lib.hid hsp
    clear hsp
    have HB2 := Lib.hid (HB1.out.trans (hb2.mono HB1.out.size))
    clear hb2 HB1
    go_wp2_with fail
    refine (HIb.out _).mono ?_
    rintro e w3 ⟨rfl, hb3⟩
    have hsp := SpAt.next HSp.out hb3
    clear HSp k0 k1 k2 k3 k4 k5 k6 k7
    obtain ⟨k0, k1, k2, k3, k4, k5, k6, k7⟩ := hsp.all8
    have HSp := Lib.hid hsp
    clear hsp
    have HB3 := Lib.hid (HB2.out.trans (hb3.mono HB2.out.size))
    clear hb3 HB2
    go_wp2_with fail
    rw [HK.out]
    refine (HRp.out _).mono ?_
    rintro e w4 ⟨rfl, hb4⟩
    have hsp := SpAt.next HSp.out hb4
    clear HSp k0 k1 k2 k3 k4 k5 k6 k7
    obtain ⟨k0, k1, k2, k3, k4, k5, k6, k7⟩ := hsp.all8
    have HSp := Lib.hid hsp
    clear hsp
    have HB4 := Lib.hid (HB3.out.trans (hb4.mono HB3.out.size))
    clear hb4 HB3
    go_wp2_with fail
    refine (HPd.out _).mono ?_
    rintro e w5 ⟨rfl, hb5⟩
    have hsp := SpAt.next HSp.out hb5
    clear HSp k0 k1 k2 k3 k4 k5 k6 k7
    obtain ⟨k0, k1, k2, k3, k4, k5, k6, k7⟩ := hsp.all8
    have HSp := Lib.hid hsp
    clear hsp
    have HB5 := Lib.hid (HB4.out.trans (hb5.mono HB4.out.size))
    clear hb5 HB4
    go_wp2_with fail
    refine (HUp.out _).mono ?_
    rintro e w6 ⟨rfl, hb6⟩
    have hsp := SpAt.next HSp.out hb6
    clear HSp k0 k1 k2 k3 k4 k5 k6 k7
    obtain ⟨k0, k1, k2, k3, k4, k5, k6, k7⟩ := hsp.all8
    have HSp := Lib.hid hsp
    clear hsp
    have HB6 := Lib.hid (HB5.out.trans (hb6.mono HB5.out.size))
    clear hb6 HB5
    go_wp2_with fail
    go_ret
    exact ⟨rfl, HB6.out⟩
 ·by_cases hN : N = 0
  ·subst hN
   have hl48 : l = [48] := canon_0 hc
   subst hl48
   clear hc hl hdl
   have HIb : Hid (∀ W, Calls Tryz.prog 129 #[.string ⟨#[48]⟩, .int .u64 16] W fun e w' => e = .returned (.string ⟨#[]⟩) ∧ Below W.heap.size W w') := fun W => inBase_any ⟨#[48]⟩ 0 16 W ⟨by simp, fun c hc => by (simp at hc; subst hc; decide), by decide, fun c r e hc => by (cases e; rfl)⟩ (by decide) (by decide) (by decide) (by decide)
   by_cases hpz : pr = 0
   ·subst hpz
    obtain ⟨R, hR⟩ : ∃ R : ByteArray, R = ⟨(List.replicate 0 48).toArray⟩ := ⟨_, rfl⟩
    have HRp : Hid (∀ W, Calls Tryz.prog 114 #[.string ⟨#[48]⟩, .int .i64 0] W fun e w' => e = .returned (.string R) ∧ Below W.heap.size W w') := fun W => by rw [hR]; exact Repeat_one 48 0 W (by decide)
    have hRl : List.replicate 0 48 = R.data.toList := by rw [hR]
    have hK : True := trivial
    have hRs : R.size ≤ 190 := by rw [sz_list, ← hRl, List.length_replicate]; omega
    have hn : numW true 0 88 0 = (R ++ ⟨#[]⟩).data.toList := by unfold numW; rw [if_pos rfl, if_neg (fun h => by cases h.1), if_pos rfl, ByteArray.data_append, Array.toList_append, ← hRl]; rfl
    have hh : headW p bl true 88 S 0 = sg.data.toList := by unfold headW; rw [if_neg (by decide), if_neg (fun h => h.2.2 rfl), if_neg (fun h => by cases h.1)]; exact hsgl
    have HPd := Lib.hid (fun W => padded_any m p bl true z (false) wd 0 88 sg (R ++ ⟨#[]⟩) W hw hw2 (by rw [sz_list]; omega) (by rw [ByteArray.size_append]; show R.size + 0 ≤ _; omega))
    unfold specA at HPd
    have hzz : (z && decide ((0 : Int) < 0)) = false := by simp
    rw [hn, hh, hzz]
    have hoa := padL_asc (m := m) (z := false) (wd := wd) hsa (show Asc (R ++ ⟨#[]⟩).data.toList from Asc.appB (by rw [← hRl]; exact Asc.rep _ (by decide)) (by intro c hc; simp at hc; try (subst hc; decide)))
    have hol := padL_size5 (m := m) (z := false) (h := sg.data.toList) (s := (R ++ ⟨#[]⟩).data.toList) hw2
    rw [← sz_list, ← sz_list, ByteArray.size_append] at hol
    generalize padL m (false) wd sg.data.toList (R ++ ⟨#[]⟩).data.toList = ol at *
    have HUp := Lib.hid (fun W => Tryz.strings_ToUpper_ascii ⟨ol.toArray⟩ W (by rw [sz_list]; show ol.length ≤ _; have : (⟨#[]⟩ : ByteArray).size = 0 := rfl; rw [← sz_list] at hsl; omega) (fun j c hj => hoa c (List.mem_of_getElem? hj)))
    clear hoa hol
    clear hn hh hR hRl hzz hK hsgl hsl hsa hnb
    cases z
    all_goals
     go_enter Tryz.func72, Tryz.ntmps72
     go_wp2_with fail
     refine (HTr.out _).mono ?_
     rintro e _ ⟨rfl, rfl⟩
     go_wp2_with fail
     refine (HFx.out _).mono ?_
     rintro e w1 ⟨rfl, hb1⟩
     have HB1 := Lib.hid (((Below.refl w.heap.size w).alloc (Nat.le_refl _) _).trans (hb1.mono (by simp)))
     have hsp := SpAt.next (show SpAt _ w.heap.size _ from heap_alloc_at w _) hb1
     obtain ⟨k0, k1, k2, k3, k4, k5, k6, k7⟩ := hsp.all8
     have HSp := Lib.hid hsp
     clear hb1 hsp
     go_wp2_with fail
     refine (HSg.out _).mono ?_
     rintro e w2 ⟨rfl, hb2⟩
     have hsp := SpAt.next HSp.out hb2
     clear HSp k0 k1 k2 k3 k4 k5 k6 k7
     obtain ⟨k0, k1, k2, k3, k4, k5, k6, k7⟩ := hsp.all8
     have HSp := Lib.hid hsp
     clear hsp
     have HB2 := Lib.hid (HB1.out.trans (hb2.mono HB1.out.size))
     clear hb2 HB1
     go_wp2_with fail
     refine (HIb.out _).mono ?_
     rintro e w3 ⟨rfl, hb3⟩
     have hsp := SpAt.next HSp.out hb3
     clear HSp k0 k1 k2 k3 k4 k5 k6 k7
     obtain ⟨k0, k1, k2, k3, k4, k5, k6, k7⟩ := hsp.all8
     have HSp := Lib.hid hsp
     clear hsp
     have HB3 := Lib.hid (HB2.out.trans (hb3.mono HB2.out.size))
     clear hb3 HB2
     go_wp2_with fail
     refine (HRp.out _).mono ?_
     rintro e w4 ⟨rfl, hb4⟩
     have hsp := SpAt.next HSp.out hb4
     clear HSp k0 k1 k2 k3 k4 k5 k6 k7
     obtain ⟨k0, k1, k2, k3, k4, k5, k6, k7⟩ := hsp.all8
     have HSp := Lib.hid hsp
     clear hsp
     have HB4 := Lib.hid (HB3.out.trans (hb4.mono HB3.out.size))
     clear hb4 HB3
     go_wp2_with fail
     refine (HPd.out _).mono ?_
     rintro e w5 ⟨rfl, hb5⟩
     have hsp := SpAt.next HSp.out hb5
     clear HSp k0 k1 k2 k3 k4 k5 k6 k7
     obtain ⟨k0, k1, k2, k3, k4, k5, k6, k7⟩ := hsp.all8
     have HSp := Lib.hid hsp
     clear hsp
     have HB5 := Lib.hid (HB4.out.trans (hb5.mono HB4.out.size))
     clear hb5 HB4
     go_wp2_with fail
     refine (HUp.out _).mono ?_
     rintro e w6 ⟨rfl, hb6⟩
     have hsp := SpAt.next HSp.out hb6
     clear HSp k0 k1 k2 k3 k4 k5 k6 k7
     obtain ⟨k0, k1, k2, k3, k4, k5, k6, k7⟩ := hsp.all8
     have HSp := Lib.hid hsp
     clear hsp
     have HB6 := Lib.hid (HB5.out.trans (hb6.mono HB5.out.size))
     clear hb6 HB5
     go_wp2_with fail
     go_ret
     exact ⟨rfl, HB6.out⟩
   ·have hpz2 : (pr == 0) = false := beq_eq_false_iff_ne.2 hpz
    obtain ⟨K, hK⟩ : ∃ K, K = (pr - 1 : Int).toNat := ⟨_, rfl⟩
    have HK := Lib.hid (show max 0 ((pr : Int) - 1) = (K : Int) from by omega)
    have hK2 : K ≤ 190 := by omega
    obtain ⟨R, hR⟩ : ∃ R : ByteArray, R = ⟨(List.replicate K 48).toArray⟩ := ⟨_, rfl⟩
    have HRp := Lib.hid (fun W => Repeat_one 48 K W (by omega))
    rw [← hR] at HRp
    have hRl : List.replicate K 48 = R.data.toList := by rw [hR]
    have hRs : R.size ≤ 190 := by rw [sz_list, ← hRl, List.length_replicate]; omega
    have hn : numW true pr 88 0 = (R ++ ⟨#[48]⟩).data.toList := by unfold numW; rw [if_pos rfl, if_neg (fun h => by cases h.1), if_neg hpz, ByteArray.data_append, Array.toList_append, ← hRl, hK]
    have hh : headW p bl true 88 S 0 = sg.data.toList := by unfold headW; rw [if_neg (by decide), if_neg (fun h => h.2.2 rfl), if_neg (fun h => by cases h.1)]; exact hsgl
    have HPd := Lib.hid (fun W => padded_any m p bl true z (z && decide (pr < 0)) wd pr 88 sg (R ++ ⟨#[48]⟩) W hw hw2 (by rw [sz_list]; omega) (by rw [ByteArray.size_append]; show R.size + 1 ≤ _; omega))
    unfold specA at HPd
    have hzz : True := trivial
    rw [hn, hh]
    have hoa := padL_asc (m := m) (z := z && decide (pr < 0)) (wd := wd) hsa (show Asc (R ++ ⟨#[48]⟩).data.toList from Asc.appB (by rw [← hRl]; exact Asc.rep _ (by decide)) (by intro c hc; simp at hc; try (subst hc; decide)))
    have hol := padL_size5 (m := m) (z := z && decide (pr < 0)) (h := sg.data.toList) (s := (R ++ ⟨#[48]⟩).data.toList) hw2
    rw [← sz_list, ← sz_list, ByteArray.size_append] at hol
    generalize padL m (z && decide (pr < 0)) wd sg.data.toList (R ++ ⟨#[48]⟩).data.toList = ol at *
    have HUp := Lib.hid (fun W => Tryz.strings_ToUpper_ascii ⟨ol.toArray⟩ W (by rw [sz_list]; show ol.length ≤ _; have : (⟨#[48]⟩ : ByteArray).size = 1 := rfl; rw [← sz_list] at hsl; omega) (fun j c hj => hoa c (List.mem_of_getElem? hj)))
    clear hoa hol
    clear hn hh hR hRl hzz hK hsgl hsl hsa hnb hpz
    cases z
    all_goals
     simp only [Bool.false_and, Bool.true_and] at HPd
     go_enter Tryz.func72, Tryz.ntmps72
     go_wp2_with fail
     refine (HTr.out _).mono ?_
     rintro e _ ⟨rfl, rfl⟩
     go_wp2_with fail
     refine (HFx.out _).mono ?_
     rintro e w1 ⟨rfl, hb1⟩
     have HB1 := Lib.hid (((Below.refl w.heap.size w).alloc (Nat.le_refl _) _).trans (hb1.mono (by simp)))
     have hsp := SpAt.next (show SpAt _ w.heap.size _ from heap_alloc_at w _) hb1
     obtain ⟨k0, k1, k2, k3, k4, k5, k6, k7⟩ := hsp.all8
     have HSp := Lib.hid hsp
     clear hb1 hsp
     go_wp2_with fail
     refine (HSg.out _).mono ?_
     rintro e w2 ⟨rfl, hb2⟩
     have hsp := SpAt.next HSp.out hb2
     clear HSp k0 k1 k2 k3 k4 k5 k6 k7
     obtain ⟨k0, k1, k2, k3, k4, k5, k6, k7⟩ := hsp.all8
     have HSp := Lib.hid hsp
     clear hsp
     have HB2 := Lib.hid (HB1.out.trans (hb2.mono HB1.out.size))
     clear hb2 HB1
     go_wp2_with fail
     refine (HIb.out _).mono ?_
     rintro e w3 ⟨rfl, hb3⟩
     have hsp := SpAt.next HSp.out hb3
     clear HSp k0 k1 k2 k3 k4 k5 k6 k7
     obtain ⟨k0, k1, k2, k3, k4, k5, k6, k7⟩ := hsp.all8
     have HSp := Lib.hid hsp
     clear hsp
     have HB3 := Lib.hid (HB2.out.trans (hb3.mono HB2.out.size))
     clear hb3 HB2
     go_wp2_with fail
     rw [HK.out]
     refine (HRp.out _).mono ?_
     rintro e w4 ⟨rfl, hb4⟩
     have hsp := SpAt.next HSp.out hb4
     clear HSp k0 k1 k2 k3 k4 k5 k6 k7
     obtain ⟨k0, k1, k2, k3, k4, k5, k6, k7⟩ := hsp.all8
     have HSp := Lib.hid hsp
     clear hsp
     have HB4 := Lib.hid (HB3.out.trans (hb4.mono HB3.out.size))
     clear hb4 HB3
     go_wp2_with fail
     refine (HPd.out _).mono ?_
     rintro e w5 ⟨rfl, hb5⟩
     have hsp := SpAt.next HSp.out hb5
     clear HSp k0 k1 k2 k3 k4 k5 k6 k7
     obtain ⟨k0, k1, k2, k3, k4, k5, k6, k7⟩ := hsp.all8
     have HSp := Lib.hid hsp
     clear hsp
     have HB5 := Lib.hid (HB4.out.trans (hb5.mono HB4.out.size))
     clear hb5 HB4
     go_wp2_with fail
     refine (HUp.out _).mono ?_
     rintro e w6 ⟨rfl, hb6⟩
     have hsp := SpAt.next HSp.out hb6
     clear HSp k0 k1 k2 k3 k4 k5 k6 k7
     obtain ⟨k0, k1, k2, k3, k4, k5, k6, k7⟩ := hsp.all8
     have HSp := Lib.hid hsp
     clear hsp
     have HB6 := Lib.hid (HB5.out.trans (hb6.mono HB5.out.size))
     clear hb6 HB5
     go_wp2_with fail
     go_ret
     exact ⟨rfl, HB6.out⟩
  ·have hl48 := canon_ne0 hc hN
   have hl0 := hc.ne
   obtain ⟨F, hF⟩ : ∃ F : ByteArray, F = ⟨l.toArray⟩ := ⟨_, rfl⟩
   rw [← hF] at HFx
   have hFl : F.data.toList = l := by rw [hF]
   have hF48 : (F.toList == [48]) = false := not_48 (by rw [hFl]; exact hl48)
   have hF49 : ¬ F.toList = [48] := beq_eq_false_iff_ne.1 hF48
   have HIb := Lib.hid (fun W => inBase_any F N 16 W (by rw [hFl]; exact hc) (by rw [hFl]; exact hl) hnb (by decide) (by decide))
   obtain ⟨E, hE⟩ : ∃ E : ByteArray, E = bytesN (baseN 16 N) := ⟨_, rfl⟩
   have hEl : E.data.toList = baseD 16 N := by rw [hE]; rfl
   have hE0 : ¬ E.toList = [] := by rw [ByteArray.toList_eq, hEl]; exact baseD_ne (by decide) hN
   have hE2 : E.toList.isEmpty = false := isEmpty_no hE0
   have hE48 : (E.toList == [48]) = false := not_48 (by rw [hEl]; exact baseD_one (by decide) (by decide) hN)
   have hE49 : ¬ E.toList = [48] := beq_eq_false_iff_ne.1 hE48
   have hEs : E.size ≤ 4001 := by rw [sz_list, hEl]; exact baseD_len (by decide) hnb
   have hEa : Asc E.data.toList := by rw [hEl]; exact baseD_asc N (by decide) (by decide)
   rw [← hE] at HIb
   have hbw : baseW true 88 N = E.data.toList := by unfold baseW; rw [if_neg (by decide), if_pos (by decide), hEl]
   have hDs : E.size ≤ 4100 := by omega
   clear hl48 hl0 hc hdl hF hFl hl hE
   obtain ⟨K, hK⟩ : ∃ K, K = (pr - (E.size : Int)).toNat := ⟨_, rfl⟩
   have HK := Lib.hid (show max 0 (pr - (E.size : Int)) = (K : Int) from by omega)
   have hK2 : K ≤ 190 := by omega
   obtain ⟨R, hR⟩ : ∃ R : ByteArray, R = ⟨(List.replicate K 48).toArray⟩ := ⟨_, rfl⟩
   have HRp := Lib.hid (fun W => Repeat_one 48 K W (by omega))
   rw [← hR] at HRp
   have hRl : List.replicate K 48 = R.data.toList := by rw [hR]
   have hRs : R.size ≤ 190 := by rw [sz_list, ← hRl, List.length_replicate]; omega
   have hn : numW true pr 88 N = (R ++ E).data.toList := by unfold numW; rw [if_neg hN, hbw, ← sz_list, ← hK, hRl, ByteArray.data_append, Array.toList_append] <;> simp [ByteArray.data_append]
   have hh : headW p bl true 88 S N = (sg ++ ⟨#[48, 120]⟩).data.toList := by unfold headW; rw [if_neg (by decide), if_pos ⟨by decide, rfl, hN⟩, hsgl, ByteArray.data_append, Array.toList_append]
   have HPd := Lib.hid (fun W => padded_any m p bl true z (z && decide (pr < 0)) wd pr 88 (sg ++ ⟨#[48, 120]⟩) (R ++ E) W hw hw2 (by rw [ByteArray.size_append, sz_list sg]; show _ + 2 ≤ _; omega) (by rw [ByteArray.size_append]; omega))
   unfold specA at HPd
   have hzz : True := trivial
   rw [hn, hh]
   have hoa := padL_asc (m := m) (z := z && decide (pr < 0)) (wd := wd) (Asc.appB hsa (show Asc (⟨#[48, 120]⟩ : ByteArray).data.toList from (Asc.nil.cons (by decide)).cons (by decide))) (show Asc (R ++ E).data.toList from Asc.appB (by rw [← hRl]; exact Asc.rep _ (by decide)) hEa)
   have hol := padL_size5 (m := m) (z := z && decide (pr < 0)) (h := (sg ++ ⟨#[48, 120]⟩).data.toList) (s := (R ++ E).data.toList) hw2
   rw [← sz_list, ← sz_list, ByteArray.size_append, ByteArray.size_append] at hol
   generalize padL m (z && decide (pr < 0)) wd (sg ++ ⟨#[48, 120]⟩).data.toList (R ++ E).data.toList = ol at *
   have HUp := Lib.hid (fun W => Tryz.strings_ToUpper_ascii ⟨ol.toArray⟩ W (by rw [sz_list]; show ol.length ≤ _; rw [← sz_list] at hsl; have h2 : (⟨#[48, 120]⟩ : ByteArray).size = 2 := rfl; omega) (fun j c hj => hoa c (List.mem_of_getElem? hj)))
   clear hoa hol
   clear hn hh hR hRl hzz hK hsgl hsl hsa hnb hbw hN hEa
   cases z
   all_goals
    simp only [Bool.false_and, Bool.true_and] at HPd
    go_enter Tryz.func72, Tryz.ntmps72
    go_wp2_with fail
    refine (HTr.out _).mono ?_
    rintro e _ ⟨rfl, rfl⟩
    go_wp2_with fail
    refine (HFx.out _).mono ?_
    rintro e w1 ⟨rfl, hb1⟩
    have HB1 := Lib.hid (((Below.refl w.heap.size w).alloc (Nat.le_refl _) _).trans (hb1.mono (by simp)))
    have hsp := SpAt.next (show SpAt _ w.heap.size _ from heap_alloc_at w _) hb1
    obtain ⟨k0, k1, k2, k3, k4, k5, k6, k7⟩ := hsp.all8
    have HSp := Lib.hid hsp
    clear hb1 hsp
    go_wp2_with fail
    refine (HSg.out _).mono ?_
    rintro e w2 ⟨rfl, hb2⟩
    have hsp := SpAt.next HSp.out hb2
    clear HSp k0 k1 k2 k3 k4 k5 k6 k7
    obtain ⟨k0, k1, k2, k3, k4, k5, k6, k7⟩ := hsp.all8
    have HSp := Lib.hid hsp
    clear hsp
    have HB2 := Lib.hid (HB1.out.trans (hb2.mono HB1.out.size))
    clear hb2 HB1
    go_wp2_with fail
    refine (HIb.out _).mono ?_
    rintro e w3 ⟨rfl, hb3⟩
    have hsp := SpAt.next HSp.out hb3
    clear HSp k0 k1 k2 k3 k4 k5 k6 k7
    obtain ⟨k0, k1, k2, k3, k4, k5, k6, k7⟩ := hsp.all8
    have HSp := Lib.hid hsp
    clear hsp
    have HB3 := Lib.hid (HB2.out.trans (hb3.mono HB2.out.size))
    clear hb3 HB2
    go_wp2_with fail
    rw [HK.out]
    refine (HRp.out _).mono ?_
    rintro e w4 ⟨rfl, hb4⟩
    have hsp := SpAt.next HSp.out hb4
    clear HSp k0 k1 k2 k3 k4 k5 k6 k7
    obtain ⟨k0, k1, k2, k3, k4, k5, k6, k7⟩ := hsp.all8
    have HSp := Lib.hid hsp
    clear hsp
    have HB4 := Lib.hid (HB3.out.trans (hb4.mono HB3.out.size))
    clear hb4 HB3
    go_wp2_with fail
    refine (HPd.out _).mono ?_
    rintro e w5 ⟨rfl, hb5⟩
    have hsp := SpAt.next HSp.out hb5
    clear HSp k0 k1 k2 k3 k4 k5 k6 k7
    obtain ⟨k0, k1, k2, k3, k4, k5, k6, k7⟩ := hsp.all8
    have HSp := Lib.hid hsp
    clear hsp
    have HB5 := Lib.hid (HB4.out.trans (hb5.mono HB4.out.size))
    clear hb5 HB4
    go_wp2_with fail
    refine (HUp.out _).mono ?_
    rintro e w6 ⟨rfl, hb6⟩
    have hsp := SpAt.next HSp.out hb6
    clear HSp k0 k1 k2 k3 k4 k5 k6 k7
    obtain ⟨k0, k1, k2, k3, k4, k5, k6, k7⟩ := hsp.all8
    have HSp := Lib.hid hsp
    clear hsp
    have HB6 := Lib.hid (HB5.out.trans (hb6.mono HB5.out.size))
    clear hb6 HB5
    go_wp2_with fail
    go_ret
    exact ⟨rfl, HB6.out⟩
end Go.Proofs.YtfdnhkjeoeffoaaGreatDoor
end
