/- PrintfPlain, walked. -/
import Derived.Test.YtfdnhkjeoeffoaaGreatDoorI18
import Derived.Test.YtfdnhkjeoeffoaaGreatDoorM7
namespace Go.Proofs.YtfdnhkjeoeffoaaGreatDoor
open Go.RowKit
set_option linter.unusedVariables false
set_option linter.unusedSimpArgs false
theorem conv_row {W : World} {base : Nat} {v : Value} {l : List UInt8} (h : OwnB W base v (l.map UInt8.toNat)) : (convert 64 9 v).run Tryz.prog W = .ok (.string ⟨l.toArray⟩) W := by
 rcases h.slice with ⟨rfl, hn⟩ | ⟨g, cap, rfl, _, hr⟩
 ·have hl : l = [] := by simpa using hn
  subst hl
  exact run_convert_bytes_nil (P := Tryz.prog) (w := W) 64 5 undBytes undByte 0 0 9 undStr
 ·rw [List.length_map]
  exact run_convert_bytes_back (P := Tryz.prog) W 64 9 5 ⟨g, 0, none⟩ cap l undBytes undByte undStr (fun j hj => by
   rw [add_plain', Nat.zero_add]
   have h2 := hr.cell j (by simpa using hj)
   simpa using h2)
theorem CellsAt.step {w w' : World} {v : Value} {L : List CellT} (h : CellsAt w w.heap.size v L) (hb : Below w.heap.size w w') : CellsAt w' w'.heap.size v L := by
 obtain ⟨a, cap, e, h1, h2, h3⟩ := h.below (Nat.le_refl _) hb
 refine ⟨a, cap, e, h1, h2, fun i hi => ?_⟩
 obtain ⟨b0, off, x1, x2, x3⟩ := h3 i hi
 exact ⟨b0, off, x1, Nat.lt_of_lt_of_le x2 hb.size, x3⟩
theorem dblF_snoc (l : List UInt8) (c : UInt8) : dblF (l ++ [c]) = dblF l ++ (if c = 37 then [37, 37] else [c]) := by simp [dblF]
theorem dblF_len : ∀ l : List UInt8, (dblF l).length ≤ 2 * l.length
 | [] => by simp [dblF]
 | c :: l => by
   have h := dblF_len l
   show ((if c = 37 then [37, 37] else [c]) ++ dblF l).length ≤ _
   rw [List.length_append, List.length_cons]
   split <;> simp <;> omega
theorem made_at {w : World} {a : Option Addr} {n c : Nat} {L0 : List CellT} (hL : OnesR w a n L0) (hn : n ≤ 4000000000000) (hOk : ∀ e ∈ L0, e.2.1 < 18446744073709551616) (W : World) (hW : Below w.heap.size w W) :
 Calls Tryz.prog 34 #[.slice a n c] W fun e w' => (∃ v, e = .returned v ∧ CellsAt w' w'.heap.size v L0) ∧ Below W.heap.size W w' := by
 have hL2 := hL.below hW (Nat.le_refl _)
 refine (made11_any hL2 hn hOk).mono ?_
 rintro e w' ⟨⟨v, rfl, ho⟩, hb⟩
 exact ⟨⟨v, rfl, CellsAt.ofOwn ho hL.1 (by omega)⟩, hb⟩
/-- the places that are reached in a text of doubled percent signs, and the verbs there -/
theorem dbl_reach {f : ByteArray} {k : Nat} (hq : ∃ s, f.data.toList.drop k = dblF s) (hk : k + runN f k < f.size) : isNum (ch f (pv f (k + runN f k))) = false ∧ ∃ s, f.data.toList.drop (pv f (k + runN f k) + 1) = dblF s := by
 obtain ⟨s, E⟩ := hq
 have h1 := drop_len f k
 rcases split_at s with hs | ⟨e, r, rfl, hs⟩
 ·exfalso
  rw [dblF_plain hs] at E
  rw [runN_all E hs] at hk
  rw [E] at h1
  omega
 ·have E2 : f.data.toList.drop k = e ++ 37 :: 37 :: dblF r := by rw [E, dblF_append, dblF_plain hs]; rfl
  have E3 := drop_past E2
  rw [runN_at E2 hs]
  obtain ⟨_, _, _, h4, h5, _⟩ := parse_two E3 (.inr rfl)
  rw [h5, h4]
  exact ⟨by decide, r, drop_next (drop_next E3)⟩
theorem two_verbs {k : Nat} (hok : okP ⟨#[37, 115]⟩ k = true) : isNum (ch ⟨#[37, 115]⟩ (pv ⟨#[37, 115]⟩ k)) = false := by
 have h1 : pv ⟨#[37, 115]⟩ k < 2 := pv_in hok
 have hall : ((List.range 2).all fun i => !isNum (ch ⟨#[37, 115]⟩ i)) = true := by kernel_rfl
 have h2 := List.all_eq_true.1 hall _ (List.mem_range.2 h1)
 simpa using h2
set_option maxHeartbeats 16000000 in
set_option maxRecDepth 100000 in
theorem plain11_any {w : World} {ap : Option Addr} {n c : Nat} {L0 : List CellT} (s : ByteArray) (hT : Tabs5 w) (hL : OnesR w ap n L0) (hn : n ≤ 4000000000000) (hOk : ∀ e ∈ L0, e.2.1 < 18446744073709551616) (hZ : sizeC L0 ≤ 1000000000000000000) :
 Calls Tryz.prog 9 #[.string s, .slice ap n c] w fun e w' => e = .returned (.bool true) ∧ Below w.heap.size w w' := by
 have HF := Lib.hid (fixed11_any w hT)
 have HT := Lib.hid hT
 have HSz : Hid (∀ W, Below w.heap.size w W → Calls Tryz.prog 33 #[.slice ap n c] W fun e w' => e = .returned (.int .i64 (sizeC L0 : Nat)) ∧ Below W.heap.size W w') := fun W hW => size11_any (hL.below hW (Nat.le_refl _)) hn hZ
 have HMd : Hid (∀ W, Below w.heap.size w W → Calls Tryz.prog 34 #[.slice ap n c] W fun e w' => (∃ v, e = .returned v ∧ CellsAt w' w'.heap.size v L0) ∧ Below W.heap.size W w') := fun W hW => made_at hL hn hOk W hW
 obtain ⟨sn, hsn⟩ : ∃ sn, sn = s.size := ⟨_, rfl⟩
 have hs1 : s.size = sn := hsn.symm
 obtain ⟨zn, hzn⟩ : ∃ zn, zn = sizeC L0 := ⟨_, rfl⟩
 rw [← hzn] at HSz hZ
 have HZn := Lib.hid hzn
 have HOk := Lib.hid hOk
 clear hT hL hn hOk hsn hzn
 by_cases h900 : 900 < sn
 ·have hI : (900 : Int) < (sn : Int) := by omega
  go_enter Tryz.func9, Tryz.ntmps9
  go_wp2_with fail
  refine HF.out.mono ?_
  rintro e w1 ⟨rfl, hb1⟩
  have HB1 := Lib.hid hb1
  clear hb1
  go_wp2_with fail
  go_ret
  exact ⟨rfl, HB1.out⟩
 have hI : decide ((900 : Int) < (sn : Int)) = false := by simp; omega
 by_cases h3000 : 3000 < zn
 ·have hI2 : (3000 : Int) < (zn : Int) := by omega
  go_enter Tryz.func9, Tryz.ntmps9
  go_wp2_with fail
  refine HF.out.mono ?_
  rintro e w1 ⟨rfl, hb1⟩
  have HB1 := Lib.hid hb1
  clear hb1
  go_wp2_with fail
  refine (HSz.out _ HB1.out).mono ?_
  rintro e w2 ⟨rfl, hb2⟩
  have HB2 := Lib.hid (HB1.out.trans (hb2.mono HB1.out.size))
  clear hb2
  go_wp2_with fail
  go_ret
  exact ⟨rfl, HB2.out⟩
 have hI2 : decide ((3000 : Int) < (zn : Int)) = false := by simp; omega
 have HFit : Hid (∀ W, Tabs5 W → ∀ e ∈ L0, CFit 100000 W ⟨#[]⟩ sfC e) := fun W hW e he => cfit0 (by decide) hW (HOk.out e he) (by
  have h1 : e.2.2.size ≤ sizeC L0 := size_le_sizeC he
  have h2 := HZn.out
  omega)
 have hsn9 : sn ≤ 900 := by omega
 obtain ⟨FB, hFB⟩ : ∃ FB : ByteArray, FB = ⟨(dblF s.data.toList).toArray⟩ := ⟨_, rfl⟩
 have hFz : FB.size ≤ 1800 := by
  have h1 := dblF_len s.data.toList
  rw [← sz_list] at h1
  rw [hFB]
  show (dblF s.data.toList).length ≤ _
  omega
 have HSp : Hid (∀ W v, Below w.heap.size w W → CellsAt W W.heap.size v L0 → Calls Tryz.prog 35 #[.string FB, v, .agg #[.string ⟨#[]⟩, .bool false]] W fun e w' => e = .returned (.tuple #[.string s, .int .i64 0]) ∧ Below W.heap.size W w') := fun W v hW hv => by
  have hTW : Tabs5 W := ⟨HT.out.err.below hW, HT.out.pow.below hW, HT.out.utf.below hW⟩
  have hS := sprintf_any numF (fun k => ∃ s, FB.data.toList.drop k = dblF s) FB ⟨#[]⟩ false v L0 sfC W ⟨s.data.toList, by rw [hFB]; rfl⟩ (fun k hq hk _ => ⟨fun hn => (by rw [(dbl_reach hq hk).1] at hn; cases hn), (dbl_reach hq hk).2⟩) hTW (M := 100000) (by decide) (by decide) (by omega) (by omega) hv (HFit.out W hTW) (cfit0 (by decide) hTW (by decide) (by decide))
  have he := plain_spr (sf := sfC) (by_ := false) (f := FB) L0 s.data.toList.length s.data.toList 0 [] (Nat.le_refl _) (by rw [hFB]; rfl) (Nat.zero_le _) (by show s.data.toList.length ≤ _; rw [← sz_list]; omega)
  unfold sprS at he
  rw [he, List.nil_append] at hS
  rw [show (⟨s.data.toList.toArray⟩ : ByteArray) = s from bytes_self s] at hS
  exact hS
 have HS1 : Hid (∀ W g, Below w.heap.size w W → W.heap[g]? = some (.cells #[.int .i64 2, .float .f64 0, .string s] 48 (0, 0)) → Calls Tryz.prog 35 #[.string ⟨#[37, 115]⟩, .slice (some ⟨g, 0, none⟩) 1 1, .agg #[.string ⟨#[]⟩, .bool false]] W fun e w' => e = .returned (.tuple #[.string s, .int .i64 0]) ∧ Below W.heap.size W w') := fun W g hW hg => by
  have hTW : Tabs5 W := ⟨HT.out.err.below hW, HT.out.pow.below hW, HT.out.utf.below hW⟩
  have hA : CellsAt W W.heap.size (.slice (some ⟨g, 0, none⟩) 1 1) [txC s] := by
   refine ⟨some ⟨g, 0, none⟩, 1, rfl, Nat.le_refl _, by decide, fun i hi => ⟨g, 0, rfl, lt_of_heap hg, ?_⟩⟩
   match i, hi with
   | 0, _ => exact ⟨Lib.cell_of_heap hg _, Lib.cell_of_heap hg _, Lib.cell_of_heap hg _⟩
  have hS := sprintf_any numF (fun _ => True) ⟨#[37, 115]⟩ ⟨#[]⟩ false _ _ sfC W trivial (fun k _ _ hok => ⟨fun hn => (by rw [two_verbs hok] at hn; cases hn), trivial⟩) hTW (M := 100000) (by decide) (by decide) (by decide) (by decide) hA (fun c hc => by
   rw [List.mem_singleton.1 hc]
   exact cfit0 (by decide) hTW (show (0 : Nat) < 18446744073709551616 by decide) (by show s.size ≤ _; omega)) (cfit0 (by decide) hTW (by decide) (by decide))
  have he := texts_spr (sf := sfC) (by_ := false) (f := ⟨#[37, 115]⟩) (d := []) (by simp) (fun s => sfC_text s) [s] [] 0 [] (.inl rfl) (by rfl) (by decide) (by decide)
  unfold sprS at he
  have hW1 : ([] ++ ([] ++ strW [] [s]) : List UInt8) = s.data.toList := by simp [strW]
  rw [hW1, if_neg (by rw [← sz_list]; omega)] at he
  rw [show [txC s] = ([s].map fun s => ((2, 0, s) : CellT)) from rfl, he] at hS
  rw [show (⟨s.data.toList.toArray⟩ : ByteArray) = s from bytes_self s] at hS
  exact hS
 have HFB := Lib.hid hFB
 clear hFB hFz h900 h3000 hZ
 go_enter Tryz.func9, Tryz.ntmps9
 go_wp2_with fail
 refine HF.out.mono ?_
 rintro e w1 ⟨rfl, hb1⟩
 have HB1 := Lib.hid hb1
 clear hb1
 go_wp2_with fail
 refine (HSz.out _ HB1.out).mono ?_
 rintro e w2 ⟨rfl, hb2⟩
 have HB2 := Lib.hid (HB1.out.trans (hb2.mono HB1.out.size))
 clear hb2
 go_wp2_with fail
 go_loopw [5, 6] (fun v5 v6 wr => ∃ k : Nat, v6 = .int .i64 (k : Int) ∧ k ≤ sn ∧ Hid (OwnB wr w.heap.size v5 ((dblF (s.data.toList.take k)).map UInt8.toNat)) ∧ Hid (Below w.heap.size w wr)) (fun _ v6 _ => sn - (intOf v6).toNat)
 case atStart => exact ⟨0, rfl, Nat.zero_le _, OwnB.nil _ _, HB2.out⟩
 case round =>
  obtain ⟨k, rfl, hk, HO, HB⟩ := hrel
  have hgs := HB.out.size
  rcases Nat.lt_or_ge k sn with hlt | hge
  ·have hltI : (k : Int) < (sn : Int) := by omega
   have hks : k < s.size := by omega
   have hkl : k < s.data.toList.length := by rw [← sz_list]; exact hks
   obtain ⟨y, hc⟩ : ∃ y, y = s.data.toList[k] := ⟨_, rfl⟩
   have hcs : s[k].toNat = y.toNat := by rw [hc]; rfl
   have hst : dblF (s.data.toList.take (k + 1)) = dblF (s.data.toList.take k) ++ (if y = 37 then [37, 37] else [y]) := by rw [List.take_succ_eq_append_getElem hkl, dblF_snoc, hc]
   have hlen : (dblF (s.data.toList.take k)).length ≤ 1800 := by
    have h1 := dblF_len (s.data.toList.take k)
    rw [List.length_take] at h1
    omega
   obtain ⟨DL, hDL⟩ : ∃ DL, DL = dblF (s.data.toList.take k) := ⟨_, rfl⟩
   rw [← hDL] at hst hlen HO
   obtain ⟨cn, hcn⟩ : ∃ cn, cn = y.toNat := ⟨_, rfl⟩
   rw [← hcn] at hcs
   have hc256 : cn < 256 := by rw [hcn]; exact y.toNat_lt
   have HST := Lib.hid hst
   by_cases h37 : y = 37
   ·have h37n : cn = 37 := by rw [hcn, h37]; rfl
    have HST2 : Hid ((dblF (s.data.toList.take (k + 1))).map UInt8.toNat = DL.map UInt8.toNat ++ [37] ++ [37]) := by show _ = _; rw [HST.out, if_pos h37]; simp
    subst h37n
    clear hst hDL hcn hc h37
    go_wp2_with (first
     | (at_builtin
        go_loud (refine wpList_appB _ rfl _ _ rfl w.heap.size _ (DL.map UInt8.toNat) rfl (OwnB.alloc HO.out _) wr.heap.size 37 rfl (by simp [go_sem]) (by omega) (by simp; omega) (by simp; omega) ?_)
        intro v1 w3 hown1 hgr1
        have HO1 := Lib.hid hown1
        have HB3 := Lib.hid ((HB.out.alloc hgs _).grown hgr1 (by simp; omega) (fun x hx => (HO.out.own.lt x hx).1))
        have hgs3 := HB3.out.size
        clear hown1 hgr1)
     | (at_builtin
        go_loud (refine wpList_appB _ rfl _ _ rfl w.heap.size _ (DL.map UInt8.toNat ++ [37]) rfl (OwnB.alloc HO1.out _) w3.heap.size 37 rfl (by simp [go_sem]) (by omega) (by simp; omega) (by simp; omega) ?_)
        intro v2 w4 hown2 hgr2
        have HO2 := Lib.hid hown2
        have HB4 := Lib.hid ((HB3.out.alloc hgs3 _).grown hgr2 (by simp; omega) (fun x hx => (HO1.out.own.lt x hx).1))
        clear hown2 hgr2))
    go_wp2_with fail
    go_roundw
    case rel => exact ⟨k + 1, by go_num, by omega, by show OwnB _ _ _ _; rw [HST2.out]; exact HO2.out, HB4⟩
    case measure => simp only [intOf]; omega
   ·have h37n : ((cn : Int) == 37) = false := by
     rw [beq_eq_false_iff_ne]
     intro h
     refine h37 (UInt8.toNat_inj.1 ?_)
     show y.toNat = 37
     omega
    have HST2 : Hid ((dblF (s.data.toList.take (k + 1))).map UInt8.toNat = DL.map UInt8.toNat ++ [cn]) := by show _ = _; rw [HST.out, if_neg h37, hcn]; simp
    clear hst hDL hcn hc h37
    go_wp2_with (
     at_builtin
     go_loud (refine wpList_appB _ rfl _ _ rfl w.heap.size _ (DL.map UInt8.toNat) rfl (OwnB.alloc HO.out _) wr.heap.size cn rfl (by simp [go_sem]) (by omega) (by simp; omega) (by simp; omega) ?_)
     intro v1 w3 hown1 hgr1
     have HO1 := Lib.hid hown1
     have HB3 := Lib.hid ((HB.out.alloc hgs _).grown hgr1 (by simp; omega) (fun x hx => (HO.out.own.lt x hx).1))
     clear hown1 hgr1)
    go_wp2_with fail
    go_roundw
    case rel => exact ⟨k + 1, by go_num, by omega, by show OwnB _ _ _ _; rw [HST2.out]; exact HO1.out, HB3⟩
    case measure => simp only [intOf]; omega
  ·obtain rfl : k = sn := by omega
   have hltI : (k : Int) ≤ (k : Int) := Int.le_refl _
   have hO := HO.out
   rw [List.take_of_length_le (by rw [← sz_list]; omega)] at hO
   have HCv : Hid (∀ W, Below wr.heap.size wr W → (convert 64 9 u5).run Tryz.prog W = .ok (.string FB) W) := fun W hW => by
    rw [HFB.out]
    exact conv_row (OwnB.keep hO hW (Nat.le_refl _))
   have HBw := HB
   clear hO
   go_wp2_with fail
   refine wp_region_guarded (by kernel_rfl) (by kernel_rfl) (fun a0 V0 L a W => ∃ (u : Nat → Value) (V : Value), a = { tmps := (((((((((((a0.tmps.setIfInBounds 41 (u 0)).setIfInBounds 42 (u 1)).setIfInBounds 43 (u 2)).setIfInBounds 44 (u 3)).setIfInBounds 45 (u 4)).setIfInBounds 46 (u 5)).setIfInBounds 40 (u 6)).setIfInBounds 47 (u 7)).setIfInBounds 48 (u 8)).setIfInBounds 7 (u 9)).setIfInBounds 8 (u 10)), defers := a0.defers } ∧ Hid (Below V0.heap.size V0 W) ∧ Hid (∀ i, L i = true → u i = valAt [u5, .string FB, .slice ap n c, V, .agg #[.string ⟨#[]⟩, .bool false], .tuple #[.string s, .int .i64 0], .tuple #[.string s, .int .i64 0], .string s, .int .i64 0, .string s, .int .i64 0] i) ∧ Hid (L 3 = true → CellsAt W W.heap.size V L0)) ?h0 ?hstep ?hdone
   case h0 =>
    refine ⟨valAt [undef, undef, undef, undef, undef, undef, undef, undef, undef, undef, undef], undef, ?_, (Below.refl _ _).drew, (fun _ h => (by cases h)), (fun h => (by cases h))⟩
    kernel_rfl
   case hstep =>
    refine ⟨?o0, ?o1, ?o2, ?o3, ?o4, ?o5, ?o6, ?o7, ?o8, ?o9, ?o10, trivial⟩
    case o0 =>
     rintro L a' W ⟨u, V, rfl, HI, E, HP⟩ hL hd K hK
     simp only [List.setIfInBounds_toArray, List.set_cons_zero, List.set_cons_succ]
     refine ite_take rfl ?_
     clear hL hd
     go_simp
     refine hK _ _ ⟨withVal u 0 (u5), V, ?_, HI, withVal_next E 0 _ rfl, (fun h => HP.out (by rwa [upd_other L (by decide)] at h))⟩
     kernel_rfl
    case o1 =>
     rintro L a' W ⟨u, V, rfl, HI, E, HP⟩ hL hd K hK
     have e0 : u 0 = u5 := E.out 0 (hd 0 (List.elem_iff.1 (by kernel_rfl)))
     have hr := HCv.out W HI.out
     simp only [List.setIfInBounds_toArray, List.set_cons_zero, List.set_cons_succ, e0]
     refine ite_take rfl ?_
     clear hL hd
     go_simp
     refine hK _ _ ⟨withVal (withVal u 0 (u5)) 1 (.string FB), V, ?_, HI, withVal_next (withVal_same E 0 _ rfl) 1 _ rfl, (fun h => HP.out (by rwa [upd_other L (by decide)] at h))⟩
     kernel_rfl
    case o2 =>
     rintro L a' W ⟨u, V, rfl, HI, E, HP⟩ hL hd K hK
     simp only [List.setIfInBounds_toArray, List.set_cons_zero, List.set_cons_succ]
     refine ite_take rfl ?_
     clear hL hd
     go_simp
     refine hK _ _ ⟨withVal u 2 (.slice ap n c), V, ?_, HI, withVal_next E 2 _ rfl, (fun h => HP.out (by rwa [upd_other L (by decide)] at h))⟩
     kernel_rfl
    case o3 =>
     rintro L a' W ⟨u, V, rfl, HI, E, HP⟩ hL hd K hK
     have e2 : u 2 = .slice ap n c := E.out 2 (hd 2 (List.elem_iff.1 (by kernel_rfl)))
     simp only [List.setIfInBounds_toArray, List.set_cons_zero, List.set_cons_succ, e2]
     refine ite_take rfl ?_
     clear hd
     go_simp
     refine (HMd.out W (HBw.out.trans (HI.out.mono HBw.out.size))).mono ?_
     rintro e W' ⟨⟨V', rfl, hp'⟩, hb⟩
     have E' : Hid (∀ i, L i = true → u i = valAt [u5, .string FB, .slice ap n c, V', .agg #[.string ⟨#[]⟩, .bool false], .tuple #[.string s, .int .i64 0], .tuple #[.string s, .int .i64 0], .string s, .int .i64 0, .string s, .int .i64 0] i) := fun i hi => by
      have hne : i ≠ 3 := fun h => by rw [h, hL] at hi; cases hi
      rw [E.out i hi]
      exact valAt_other 3 hne (by rfl)
     refine hK _ _ ⟨withVal (withVal u 2 (.slice ap n c)) 3 (V'), V', ?_, HI.out.trans (hb.mono HI.out.size), withVal_next (withVal_same E' 2 _ rfl) 3 _ rfl, (fun _ => hp')⟩
     kernel_rfl
    case o4 =>
     rintro L a' W ⟨u, V, rfl, HI, E, HP⟩ hL hd K hK
     simp only [List.setIfInBounds_toArray, List.set_cons_zero, List.set_cons_succ]
     refine ite_take rfl ?_
     clear hL hd
     go_simp
     refine hK _ _ ⟨withVal u 4 (.agg #[.string ⟨#[]⟩, .bool false]), V, ?_, HI, withVal_next E 4 _ rfl, (fun h => HP.out (by rwa [upd_other L (by decide)] at h))⟩
     kernel_rfl
    case o5 =>
     rintro L a' W ⟨u, V, rfl, HI, E, HP⟩ hL hd K hK
     have e1 : u 1 = .string FB := E.out 1 (hd 1 (List.elem_iff.1 (by kernel_rfl)))
     have e3 : u 3 = V := E.out 3 (hd 3 (List.elem_iff.1 (by kernel_rfl)))
     have e4 : u 4 = .agg #[.string ⟨#[]⟩, .bool false] := E.out 4 (hd 4 (List.elem_iff.1 (by kernel_rfl)))
     have hp := HP.out (hd 3 (List.elem_iff.1 (by kernel_rfl)))
     have HQ := Lib.hid hp
     clear hp
     simp only [List.setIfInBounds_toArray, List.set_cons_zero, List.set_cons_succ, e1, e3, e4]
     refine ite_take rfl ?_
     clear hL hd
     go_simp
     refine (HSp.out W V (HBw.out.trans (HI.out.mono HBw.out.size)) HQ.out).mono ?_
     rintro e W' ⟨rfl, hb⟩
     refine hK _ _ ⟨withVal (withVal (withVal (withVal u 1 (.string FB)) 3 (V)) 4 (.agg #[.string ⟨#[]⟩, .bool false])) 5 (.tuple #[.string s, .int .i64 0]), V, ?_, HI.out.trans (hb.mono HI.out.size), withVal_next (withVal_same (withVal_same (withVal_same E 1 _ rfl) 3 _ rfl) 4 _ rfl) 5 _ rfl, (fun _ => (HQ.out).step hb)⟩
     kernel_rfl
    case o6 =>
     rintro L a' W ⟨u, V, rfl, HI, E, HP⟩ hL hd K hK
     have e5 : u 5 = .tuple #[.string s, .int .i64 0] := E.out 5 (hd 5 (List.elem_iff.1 (by kernel_rfl)))
     simp only [List.setIfInBounds_toArray, List.set_cons_zero, List.set_cons_succ, e5]
     refine ite_take rfl ?_
     clear hL hd
     go_simp
     refine hK _ _ ⟨withVal (withVal u 5 (.tuple #[.string s, .int .i64 0])) 6 (.tuple #[.string s, .int .i64 0]), V, ?_, HI, withVal_next (withVal_same E 5 _ rfl) 6 _ rfl, (fun h => HP.out (by rwa [upd_other L (by decide)] at h))⟩
     kernel_rfl
    case o7 =>
     rintro L a' W ⟨u, V, rfl, HI, E, HP⟩ hL hd K hK
     have e6 : u 6 = .tuple #[.string s, .int .i64 0] := E.out 6 (hd 6 (List.elem_iff.1 (by kernel_rfl)))
     simp only [List.setIfInBounds_toArray, List.set_cons_zero, List.set_cons_succ, e6]
     refine ite_take rfl ?_
     clear hL hd
     go_simp
     refine hK _ _ ⟨withVal (withVal u 6 (.tuple #[.string s, .int .i64 0])) 7 (.string s), V, ?_, HI, withVal_next (withVal_same E 6 _ rfl) 7 _ rfl, (fun h => HP.out (by rwa [upd_other L (by decide)] at h))⟩
     kernel_rfl
    case o8 =>
     rintro L a' W ⟨u, V, rfl, HI, E, HP⟩ hL hd K hK
     have e6 : u 6 = .tuple #[.string s, .int .i64 0] := E.out 6 (hd 6 (List.elem_iff.1 (by kernel_rfl)))
     simp only [List.setIfInBounds_toArray, List.set_cons_zero, List.set_cons_succ, e6]
     refine ite_take rfl ?_
     clear hL hd
     go_simp
     refine hK _ _ ⟨withVal (withVal u 6 (.tuple #[.string s, .int .i64 0])) 8 (.int .i64 0), V, ?_, HI, withVal_next (withVal_same E 6 _ rfl) 8 _ rfl, (fun h => HP.out (by rwa [upd_other L (by decide)] at h))⟩
     kernel_rfl
    case o9 =>
     rintro L a' W ⟨u, V, rfl, HI, E, HP⟩ hL hd K hK
     have e7 : u 7 = .string s := E.out 7 (hd 7 (List.elem_iff.1 (by kernel_rfl)))
     simp only [List.setIfInBounds_toArray, List.set_cons_zero, List.set_cons_succ, e7]
     refine ite_take rfl ?_
     clear hL hd
     go_simp
     refine hK _ _ ⟨withVal (withVal u 7 (.string s)) 9 (.string s), V, ?_, HI, withVal_next (withVal_same E 7 _ rfl) 9 _ rfl, (fun h => HP.out (by rwa [upd_other L (by decide)] at h))⟩
     kernel_rfl
    case o10 =>
     rintro L a' W ⟨u, V, rfl, HI, E, HP⟩ hL hd K hK
     have e8 : u 8 = .int .i64 0 := E.out 8 (hd 8 (List.elem_iff.1 (by kernel_rfl)))
     simp only [List.setIfInBounds_toArray, List.set_cons_zero, List.set_cons_succ, e8]
     refine ite_take rfl ?_
     clear hL hd
     go_simp
     refine hK _ _ ⟨withVal (withVal u 8 (.int .i64 0)) 10 (.int .i64 0), V, ?_, HI, withVal_next (withVal_same E 8 _ rfl) 10 _ rfl, (fun h => HP.out (by rwa [upd_other L (by decide)] at h))⟩
     kernel_rfl
   case hdone =>
    rintro L a' W1 hall ⟨u, V, rfl, HI, E, HP⟩
    have e0 : u 0 = u5 := E.out 0 (hall 0 (by decide))
    have e1 : u 1 = .string FB := E.out 1 (hall 1 (by decide))
    have e2 : u 2 = .slice ap n c := E.out 2 (hall 2 (by decide))
    have e3 : u 3 = V := E.out 3 (hall 3 (by decide))
    have e4 : u 4 = .agg #[.string ⟨#[]⟩, .bool false] := E.out 4 (hall 4 (by decide))
    have e5 : u 5 = .tuple #[.string s, .int .i64 0] := E.out 5 (hall 5 (by decide))
    have e6 : u 6 = .tuple #[.string s, .int .i64 0] := E.out 6 (hall 6 (by decide))
    have e7 : u 7 = .string s := E.out 7 (hall 7 (by decide))
    have e8 : u 8 = .int .i64 0 := E.out 8 (hall 8 (by decide))
    have e9 : u 9 = .string s := E.out 9 (hall 9 (by decide))
    have e10 : u 10 = .int .i64 0 := E.out 10 (hall 10 (by decide))
    simp only [List.setIfInBounds_toArray, List.set_cons_zero, List.set_cons_succ, e0, e1, e2, e3, e4, e5, e6, e7, e8, e9, e10]
    have HB9 := Lib.hid (HBw.out.trans (HI.out.mono HBw.out.size))
    clear hall E HP HI
    go_wp2_with fail
    refine (text11 _ _).mono ?_
    rintro e wt ⟨rfl, hbt⟩
    have hg := heap_alloc_at wt (.cells #[.int .i64 2, .float .f64 0, .string s] 48)
    have hbt9 := HB9.out.trans (hbt.mono HB9.out.size)
    have HB10 := Lib.hid (hbt9.alloc hbt9.size (.cells #[.int .i64 2, .float .f64 0, .string s] 48))
    clear hbt hbt9
    have HS2 := Lib.hid (HS1.out _ _ HB10.out hg)
    clear hg
    go_wp2_with fail
    refine HS2.out.mono ?_
    rintro e w12 ⟨rfl, hb12⟩
    have HB12 := Lib.hid (HB10.out.trans (hb12.mono HB10.out.size))
    clear hb12
    go_wp2_with fail
    go_ret
    exact ⟨by simp, HB12.out⟩
theorem plain11_law {a : Option Addr} {n c : Nat} (s : ByteArray) (L : List CellT) (w : World) (hT : Tabs5 w) (hs : s.size ≤ 900000000) (rs : OnesR w a n L) (nc : n ≤ c) (ok : ∀ e ∈ L, e.2.1 < 18446744073709551616) (bz : sizeC L + n ≤ 1048576) :
 Calls Tryz.prog 9 #[.string s, .slice a n c] w fun e w' => e = .returned (.bool true) ∧ Below w.heap.size w w' := plain11_any s hT rs (by omega) ok (by omega)
end Go.Proofs.YtfdnhkjeoeffoaaGreatDoor
