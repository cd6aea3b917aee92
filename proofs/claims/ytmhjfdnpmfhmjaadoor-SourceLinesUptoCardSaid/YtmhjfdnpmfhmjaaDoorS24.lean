/- thresherlaw19.SourceLines, walked. Printed by mks24.py. -/
import Derived.Test.YtmhjfdnpmfhmjaaDoorS11
import Derived.Test.YtmhjfdnpmfhmjaaDoorS23
import Derived.StillTailTactics
import Derived.Deep.RegionHeld3
import Derived.Deep.RegionWith
namespace Go.Proofs.YtmhjfdnpmfhmjaaDoor
open Go.RowKit
set_option linter.unusedVariables false

theorem OwnT.at_ {w : World} {base : Nat} {v : Value} {L : List Str} (h : OwnT w base v L) : ∃ a c, v = .slice a L.length c ∧ ∀ j l, L[j]? = some l → ∃ g, a = some ⟨g, 0, none⟩ ∧ base ≤ g ∧ g < w.heap.size ∧ w.cell? ⟨g, j, none⟩ = some (.string (B l)) := by
  obtain ⟨h2, h4⟩ := h.own
  rcases h4 with ⟨rfl, hn⟩ | ⟨g, cap, cur, rfl, hb, hg, hl, hm, hs, ht⟩
  · have := List.eq_nil_of_length_eq_zero hn
    subst this
    exact ⟨_, _, rfl, fun j l hj => by cases hj⟩
  · refine ⟨_, _, rfl, fun j l hj => ⟨g, rfl, hb, lt_of_heap hg, ?_⟩⟩
    have hc : (cellsT L)[j]? = some (.string (B l)) := by unfold cellsT; rw [List.getElem?_map, hj]; rfl
    have := h.own.cells (g := g) rfl j _ hc
    rwa [Addr.add_lit, Nat.zero_add] at this

def natOf1 : Value → Nat
  | .int _ n => (n + 1).toNat
  | _ => 0
theorem loadF_inv (Fs : List (Str × Str)) (n : Nat) (text : Str) (st : LS) (h : loadF (look Fs) n text = .ok st) : st.lines.length ≤ 8192 ∧ st.out.length ≤ 8192 := by
  have := textF_keeps (incF_keeps (N := Fs.map (·.1)) (fun x t ht => look_mem ht) n) _ _ _ _ ⟨by simp, (fun x hx => by cases hx), Nat.le_refl _, Nat.zero_le _⟩ h
  exact ⟨Nat.le_trans this.1.lines this.1.out, this.1.out⟩

set_option maxHeartbeats 16000000 in
set_option maxRecDepth 1000000 in
theorem sl_row (bk o : Nat) (s : ByteArray) (n fc : Nat) (L : List (ByteArray × List ByteArray)) (w : World) (hM : MaxOk w) (hn : n = L.length) (hF : FilesR w (.slice (some ⟨bk, o, none⟩) n fc) L) (hlt : bk < w.heap.size) (hc : ∀ (j : Nat) p, L[j]? = some p → ∃ v, w.cell? ⟨bk, o + j * 2, none⟩ = some (.string p.1) ∧ w.cell? ⟨bk, o + j * 2 + 1, none⟩ = some v ∧ ChunksR w v p.2) (hs : s.size + sizeF L ≤ 1050000) :
    Calls Tryd.prog 5 #[.string s, .slice (some ⟨bk, o, none⟩) n fc] w fun e w' => e = .returned (.bool true) ∧ Below w.heap.size w w' := by
  have HFx := Lib.hid (fixed_any w hM)
  have HM := Lib.hid hM
  have hll : L.length ≤ 1050000 := by have := sizeL_le L; omega
  have hsl : sizeL L ≤ 1050000 := by have := sizeL_le L; omega
  have HSF := Lib.hid (show sizeF L ≤ 1050000 by omega)
  have hss : s.size ≤ 1050000 := by omega
  clear hM hs
  have HF := Lib.hid hF
  have HC := Lib.hid hc
  have HLt := Lib.hid hlt
  clear hc hlt
  obtain ⟨z, hz⟩ : ∃ z, z = sizeL L := ⟨_, rfl⟩
  have HZ := Lib.hid (fun W (h : FilesR W (.slice (some ⟨bk, o, none⟩) n fc) L) => (show Calls Tryd.prog 8 #[.slice (some ⟨bk, o, none⟩) n fc] W fun e w' => e = .returned (.int .i64 (z : Int)) ∧ Below W.heap.size W w' from by rw [hz]; exact size_any _ L W h (by have := HSF.out; omega)))
  rw [← hn] at hll
  rw [← hz] at hsl
  have HN := Lib.hid hn
  have HZe := Lib.hid hz
  have HLn := Lib.hid (fun (x : ByteArray) (hx : x.size ≤ 900000000) W => Lines_any x W hx)
  clear hF hn hz
  go_enter Tryd.func5, Tryd.ntmps5
  go_wp2_with fail
  refine HFx.out.mono ?_
  rintro e w1 ⟨rfl, hb1⟩
  have HB1 := Lib.hid hb1
  have HM1 := Lib.hid (HM.out.below hb1 HM.out.lt)
  have HF1 := Lib.hid (HF.out.below hb1)
  clear hb1 HFx HM HF
  have HZ1 := Lib.hid (HZ.out _ HF1.out)
  clear HZ
  go_wp2_with fail
  refine HZ1.out.mono ?_
  rintro e w2 ⟨rfl, hb2⟩
  have HB2 := Lib.hid (HB1.out.trans (hb2.mono HB1.out.size))
  have HM2 := Lib.hid (HM1.out.below hb2 HM1.out.lt)
  have HF2 := Lib.hid (HF1.out.below hb2)
  clear hb2 HZ1 HM1 HF1 HB1
  by_cases hbig : 60000 < s.size + z
  · have hbI : (60000 : Int) < (s.size : Int) + (z : Int) := by omega
    go_wp2_with fail
    go_ret
    exact ⟨rfl, HB2.out⟩
  by_cases hmany : 100 < n
  · have hbI : ¬ (60000 : Int) < (s.size : Int) + (z : Int) := by omega
    have hmI : (100 : Int) < (n : Int) := by omega
    go_wp2_with fail
    go_ret
    exact ⟨rfl, HB2.out⟩
  have hbI : ¬ (60000 : Int) < (s.size : Int) + (z : Int) := by omega
  have hmI : ¬ (100 : Int) < (n : Int) := by omega
  have hFV : FilesV w2 (.slice (some ⟨bk, o, none⟩) n fc) (pairsF L) := HF2.out.toV (by have := HZe.out; omega) (by have := HSF.out; omega) (by have := HN.out; omega)
  have hload := Load_any (pairsF L) s (.slice (some ⟨bk, o, none⟩) n fc) w2 ⟨_, _, _, rfl⟩ HM2.out (by omega) (by simp [pairsF]; have := HN.out; omega) (.inr ⟨hFV, fun x t h => by have := look_size h; have := HZe.out; omega⟩)
  have hbad := loadF_bad (N := (pairsF L).map (·.1)) (F := look (pairsF L)) (fun x t h => look_mem h) s.data.toList
  have HInv := Lib.hid (fun st h => loadF_inv (pairsF L) (((pairsF L).map (·.1)).length + 1) s.data.toList st h)
  obtain ⟨r, hr⟩ : ∃ r, r = loadF (look (pairsF L)) (((pairsF L).map (·.1)).length + 1) s.data.toList := ⟨_, rfl⟩
  rw [← hr] at hload hbad
  have HL := Lib.hid hload
  have HR := Lib.hid hr
  clear hload hr hFV hbig hmany
  cases r with
  | bad f m c =>
    obtain ⟨hm1, hc0, hc2⟩ := hbad
    have hmI1 : (1 : Int) ≤ (m : Int) := by omega
    have hcI : ((c : Int) == 0) = false := by simp; omega
    go_wp2_with fail
    refine HL.out.mono ?_
    rintro e w3 ⟨rfl, hb3⟩
    have HB3 := Lib.hid (HB2.out.trans (hb3.mono HB2.out.size))
    clear hb3 HL HR
    go_wp2_with fail
    go_ret
    exact ⟨rfl, (HB3.out.alloc HB3.out.size _).alloc (by have := HB3.out.size; simp; omega) _⟩
  | ok st =>
    clear hbad
    go_wp2_with fail
    refine HL.out.mono ?_
    rintro e w3 ⟨lv, rfl, hrow, hb3⟩
    have HB3 := Lib.hid (HB2.out.trans (hb3.mono HB2.out.size))
    have HP := Lib.hid (Pls.ofOwn hrow)
    obtain ⟨q, hq⟩ : ∃ q, q = st.lines.length := ⟨_, rfl⟩
    obtain ⟨la, lc, hlv⟩ := HP.out.slice
    rw [← hq] at hlv
    subst hlv
    have hq2 : q ≤ 8192 := by rw [hq]; exact (HInv.out _ HR.out.symm).1
    have ho2 : st.out.length ≤ 8192 := (HInv.out _ HR.out.symm).2
    have hrow3 : (q = 0) ∨ ∃ g, la = some ⟨g, 0, none⟩ ∧ g < w3.heap.size ∧ ∀ k p, st.lines[k]? = some p → w3.cell? ⟨g, k * 2, none⟩ = some (.string (B p.1)) ∧ w3.cell? ⟨g, k * 2 + 1, none⟩ = some (.int .i64 (p.2 : Int)) := by
      rcases HP.out with ⟨a, c, he, hL⟩ | ⟨g, c, he, hg, hcl⟩
      · left; rw [hq, hL]; rfl
      · right
        injection he with he1 he2 he3
        exact ⟨g, he1, hg, hcl⟩
    have HRow3 := Lib.hid hrow3
    have HQ := Lib.hid hq
    clear hrow hb3 HL HP hrow3 hq HInv
    obtain ⟨ob, hob⟩ : ∃ ob, ob = B st.out := ⟨_, rfl⟩
    have hobs : ob.size ≤ 8192 := by rw [hob, B_size]; exact ho2
    rw [← hob]
    have HOb := Lib.hid hob
    clear hob ho2
    obtain ⟨w4, hw4⟩ : ∃ w4, w4 = (w3.alloc (.cells #[.string ob, .slice la q lc] 27)).alloc (.cells #[.string ⟨#[]⟩, .int .i64 0] 29) := ⟨_, rfl⟩
    have hb4 : Below w3.heap.size w3 w4 := hw4 ▸ (((Below.refl _ _).alloc (Nat.le_refl _) _).alloc (by simp) _)
    have hz4 : w4.heap.size = w3.heap.size + 1 + 1 := by rw [hw4]; simp
    have s3 : w4.heap[w3.heap.size]? = some (.cells #[.string ob, .slice la q lc] 27 (0, 0)) := by
      rw [hw4, heap_alloc_lt _ _ _ (by simp)]; exact heap_alloc_at w3 _
    have s4 : w4.heap[w3.heap.size + 1]? = some (.cells #[.string ⟨#[]⟩, .int .i64 0] 29 (0, 0)) := by
      rw [hw4]
      have h := heap_alloc_at (w3.alloc (.cells #[.string ob, .slice la q lc] 27)) (.cells #[.string ⟨#[]⟩, .int .i64 0] 29)
      rw [show (w3.alloc (.cells #[.string ob, .slice la q lc] 27)).heap.size = w3.heap.size + 1 from by simp] at h
      exact h
    have X0 := Lib.hid (show w4.cell? ⟨w3.heap.size, 0, none⟩ = some (.string ob) by rw [Lib.cell_of_heap s3]; rfl)
    have X1 := Lib.hid (show w4.cell? ⟨w3.heap.size, 1, none⟩ = some (.slice la q lc) by rw [Lib.cell_of_heap s3]; rfl)
    have X2 := Lib.hid (show w4.cell? ⟨w3.heap.size + 1, 0, none⟩ = some (.string ⟨#[]⟩) by rw [Lib.cell_of_heap s4]; rfl)
    have X3 := Lib.hid (show w4.cell? ⟨w3.heap.size + 1, 1, none⟩ = some (.int .i64 0) by rw [Lib.cell_of_heap s4]; rfl)
    have HB4 := Lib.hid (HB3.out.trans (hb4.mono HB3.out.size))
    have HW4 := Lib.hid hw4
    have HZ4 := Lib.hid hz4
    have HRow4 : Hid ((q = 0) ∨ ∃ g, la = some ⟨g, 0, none⟩ ∧ g < w4.heap.size ∧ ∀ k p, st.lines[k]? = some p → w4.cell? ⟨g, k * 2, none⟩ = some (.string (B p.1)) ∧ w4.cell? ⟨g, k * 2 + 1, none⟩ = some (.int .i64 (p.2 : Int))) := by
      rcases HRow3.out with h | ⟨g, h1, h2, h3⟩
      · exact .inl h
      · exact .inr ⟨g, h1, Nat.lt_of_lt_of_le h2 hb4.size, fun k p hp => ⟨(hb4.cell (p := ⟨g, k * 2, none⟩) h2).trans (h3 k p hp).1, (hb4.cell (p := ⟨g, k * 2 + 1, none⟩) h2).trans (h3 k p hp).2⟩⟩
    clear hb4 s3 s4 hw4 hz4 HRow3
    go_wp2_with fail
    rw [← HW4.out]
    go_loopw [54] (fun v54 wr => ∃ k : Nat, v54 = .int .i64 (k : Int) ∧ k ≤ n ∧ Hid (∀ j p, j < k → L[j]? = some p → p.1.data.toList ≠ []) ∧ Hid (Below w4.heap.size w4 wr)) (fun v54 _ => n - natOf v54)
    case atStart => exact ⟨0, rfl, Nat.zero_le _, (fun j p h => absurd h (by omega)), Below.refl _ _⟩
    case round =>
      obtain ⟨k, rfl, hk, HE, HB⟩ := hrel
      by_cases hlt : k < n
      · have hltI : (k : Int) < (n : Int) := by omega
        obtain ⟨p, hp⟩ : ∃ p, L[k]? = some p := ⟨L[k]'(by rw [← HN.out]; exact hlt), List.getElem?_eq_getElem _⟩
        obtain ⟨cv, h1, h2, h3⟩ := HC.out k p hp
        have hBw := HB4.out.trans (HB.out.mono HB4.out.size)
        have c1 : wr.cell? ⟨bk, o + k * 2, none⟩ = some (.string p.1) := (hBw.cell (p := ⟨bk, o + k * 2, none⟩) HLt.out).trans h1
        have c2 : wr.cell? ⟨bk, o + k * 2 + 1, none⟩ = some cv := (hBw.cell (p := ⟨bk, o + k * 2 + 1, none⟩) HLt.out).trans h2
        obtain ⟨ca, cn, cc, rfl⟩ := h3.isSlice
        have HP := Lib.hid hp
        have HBw := Lib.hid hBw
        clear h1 h2 h3 hp hBw
        by_cases he : p.1.data.toList = []
        · have hem : p.1.toList.isEmpty = true := by rw [Lib.toList_data, he]; rfl
          go_wp2_with fail
          go_ret
          exact ⟨rfl, HBw.out.alloc HBw.out.size _⟩
        · have hem : p.1.toList.isEmpty = false := by rw [Lib.toList_data]; cases h : p.1.data.toList with | nil => exact absurd h he | cons a b => rfl
          have HEm := Lib.hid he
          clear he
          go_wp2_with fail
          go_roundw
          case rel =>
            refine ⟨k + 1, rfl, by omega, fun j q hj hq => ?_, HB.out.alloc HB.out.size _⟩
            rcases Nat.lt_or_ge j k with h | h
            · exact HE.out j q h hq
            · obtain rfl : j = k := by omega
              rw [HP.out] at hq; cases hq; exact HEm.out
          case measure => simp only [natOf]; omega
      · have hltI : (n : Int) ≤ (k : Int) := by omega
        have hE : look (pairsF L) [] = none := look_nil (fun p hp => by
          obtain ⟨j, hj⟩ := List.mem_iff_getElem?.1 hp
          exact HE.out j p (by have := (List.getElem?_eq_some_iff.1 hj).1; have := HN.out; omega) hj)
        have HG := Lib.hid (loadF_good hE HR.out.symm)
        have x0 : wr.cell? ⟨w3.heap.size, 0, none⟩ = some (.string ob) := (HB.out.cell (p := ⟨w3.heap.size, 0, none⟩) (by have := HZ4.out; show w3.heap.size < _; omega)).trans X0.out
        have HL1 := Lib.hid (HLn.out ob (by omega) wr)
        clear hE HE HR
        go_wp2_with fail
        refine HL1.out.mono ?_
        rintro e w5 ⟨v, rfl, hown, hb5⟩
        clear HL1 x0
        have HB5 := Lib.hid (HB.out.trans (hb5.mono HB.out.size))
        obtain ⟨pl, hp1, hp2, hp3⟩ := HG.out
        have hlin : linesL ob.data.toList = pl.map (·.2) := by
          rw [HOb.out, B_list, hp2]
          exact lines_joinNl (fun l hl => by obtain ⟨x, hx, rfl⟩ := List.mem_map.1 hl; exact (hp3 x hx).1)
        rw [hlin] at hown
        obtain ⟨va, vc, hv, hat⟩ := hown.at_
        have hpq : (pl.map (·.2)).length = q := by rw [HQ.out, hp1]; simp
        rw [hpq] at hv
        subst hv
        have HAt := Lib.hid hat
        have HP1 := Lib.hid hp1
        have HP3 := Lib.hid hp3
        have HPQ := Lib.hid hpq
        have x0 : w5.cell? ⟨w3.heap.size, 0, none⟩ = some (.string ob) := (HB5.out.cell (p := ⟨w3.heap.size, 0, none⟩) (by have := HZ4.out; show w3.heap.size < _; omega)).trans X0.out
        have x1 : w5.cell? ⟨w3.heap.size, 1, none⟩ = some (.slice la q lc) := (HB5.out.cell (p := ⟨w3.heap.size, 1, none⟩) (by have := HZ4.out; show w3.heap.size < _; omega)).trans X1.out
        have x2 : w5.cell? ⟨w3.heap.size + 1, 0, none⟩ = some (.string ⟨#[]⟩) := (HB5.out.cell (p := ⟨w3.heap.size + 1, 0, none⟩) (by have := HZ4.out; show w3.heap.size + 1 < _; omega)).trans X2.out
        have x3 : w5.cell? ⟨w3.heap.size + 1, 1, none⟩ = some (.int .i64 0) := (HB5.out.cell (p := ⟨w3.heap.size + 1, 1, none⟩) (by have := HZ4.out; show w3.heap.size + 1 < _; omega)).trans X3.out
        have HBw := Lib.hid (HB4.out.trans (HB5.out.mono HB4.out.size))
        have HRow5 : Hid ((q = 0) ∨ ∃ g, la = some ⟨g, 0, none⟩ ∧ g < w5.heap.size ∧ ∀ k p, st.lines[k]? = some p → w5.cell? ⟨g, k * 2, none⟩ = some (.string (B p.1)) ∧ w5.cell? ⟨g, k * 2 + 1, none⟩ = some (.int .i64 (p.2 : Int))) := by
          rcases HRow4.out with h | ⟨g, h1, h2, h3⟩
          · exact .inl h
          · exact .inr ⟨g, h1, Nat.lt_of_lt_of_le h2 HB5.out.size, fun k p hp => ⟨(HB5.out.cell (p := ⟨g, k * 2, none⟩) h2).trans (h3 k p hp).1, (HB5.out.cell (p := ⟨g, k * 2 + 1, none⟩) h2).trans (h3 k p hp).2⟩⟩
        have hidx : (q = 0) ∨ ∃ g gl, la = some ⟨g, 0, none⟩ ∧ va = some ⟨gl, 0, none⟩ ∧ g < w5.heap.size ∧ gl < w5.heap.size ∧ ∀ i x, pl[i]? = some x → w5.cell? ⟨g, i * 2, none⟩ = some (.string (B x.1.1)) ∧ w5.cell? ⟨g, i * 2 + 1, none⟩ = some (.int .i64 (x.1.2 : Int)) ∧ w5.cell? ⟨gl, i, none⟩ = some (.string (B x.2)) := by
          rcases Nat.eq_zero_or_pos q with h0 | h0
          · exact .inl h0
          · rcases HRow5.out with h | ⟨g, h1, h2, h3⟩
            · exact .inl h
            · have hpos : 0 < pl.length := by have := hpq; simp at this; omega
              obtain ⟨gl, e1, e2, e3, _⟩ := hat 0 _ (by rw [List.getElem?_map, List.getElem?_eq_getElem hpos]; rfl)
              refine .inr ⟨g, gl, h1, e1, h2, e3, fun i x hx => ?_⟩
              have h5 := h3 i x.1 (by rw [hp1, List.getElem?_map, hx]; rfl)
              obtain ⟨gl', e1', _, _, e4⟩ := hat i x.2 (by rw [List.getElem?_map, hx]; rfl)
              rw [e1] at e1'
              cases e1'
              exact ⟨h5.1, h5.2, e4⟩
        have HIdx := Lib.hid hidx
        have hlen : pl.length = q := by simpa using hpq
        have HLen := Lib.hid hlen
        clear hidx hlen hb5 hown hp1 hp2 hp3 hlin hpq hat HG HOb HP1 HPQ HAt HRow5 HRow4 HB4 HB HQ
        go_wp2_with fail
        have hidx := HIdx.out
        clear HIdx x0 x1 x2 x3
        rcases hidx with rfl | ⟨g, gl, rfl, rfl, hg, hgl, hcl⟩
        · go_loopw [79] (fun v79 wr => v79 = .int .i64 0 ∧ Hid (Below w5.heap.size w5 wr)) (fun v79 _ => 0)
          case atStart => exact ⟨rfl, Below.refl _ _⟩
          case round =>
            obtain ⟨rfl, HBr⟩ := hrel
            go_wp2_with fail
            go_ret
            exact ⟨rfl, HBw.out.trans (HBr.out.mono HBw.out.size)⟩
        · have HGl := Lib.hid hgl
          have HGg := Lib.hid hg
          have HCl := Lib.hid hcl
          clear hg hgl hcl
          go_loopw [79] (fun v79 wr => ∃ i : Nat, v79 = .int .i64 (i : Int) ∧ i ≤ q ∧ Hid (Below w5.heap.size w5 wr)) (fun v79 _ => q - natOf v79)
          case atStart => exact ⟨0, rfl, Nat.zero_le _, Below.refl _ _⟩
          case round =>
            obtain ⟨i, rfl, hi, HBr⟩ := hrel
            obtain ⟨wo, rfl⟩ : ∃ wo : World, wo = wr := ⟨_, rfl⟩
            by_cases hil : i < q
            · have hilI : (i : Int) < (q : Int) := by omega
              obtain ⟨x, hx⟩ : ∃ x, pl[i]? = some x := ⟨pl[i]'(by rw [HLen.out]; exact hil), List.getElem?_eq_getElem _⟩
              obtain ⟨⟨file, m⟩, l⟩ := x
              obtain ⟨hG0, hG1, hG2⟩ := HP3.out _ (List.mem_of_getElem? hx)
              have hcx := HCl.out i _ hx
              dsimp only at hG0 hG1 hG2 hcx
              obtain ⟨j, rfl⟩ : ∃ j, m = j + 1 := ⟨m - 1, by omega⟩
              rw [Nat.add_sub_cancel] at hG2
              have y0 : wo.cell? ⟨g, i * 2, none⟩ = some (.string (B file)) := (HBr.out.cell (p := ⟨g, i * 2, none⟩) HGg.out).trans hcx.1
              have y1 : wo.cell? ⟨g, i * 2 + 1, none⟩ = some (.int .i64 ((j : Int) + 1)) := (HBr.out.cell (p := ⟨g, i * 2 + 1, none⟩) HGg.out).trans hcx.2.1
              obtain ⟨fb, hfb⟩ : ∃ fb, fb = B file := ⟨_, rfl⟩
              rw [← hfb] at y0
              obtain ⟨lb, hlb⟩ : ∃ lb, lb = B l := ⟨_, rfl⟩
              have Y2 : Hid (wo.cell? ⟨gl, i, none⟩ = some (.string lb)) := by rw [hlb]; exact (HBr.out.cell (p := ⟨gl, i, none⟩) HGl.out).trans hcx.2.2
              have HLb := Lib.hid hlb
              obtain ⟨src, hsrc⟩ : ∃ t, t = srcF (look (pairsF L)) s.data.toList file := ⟨_, rfl⟩
              rw [← hsrc] at hG2
              have hsz : src.length ≤ 1050000 := by
                rw [hsrc]; unfold srcF
                split
                · have : s.data.toList.length = s.size := by simp
                  omega
                · cases hl : look (pairsF L) file with
                  | none => exact Nat.zero_le _
                  | some t => have := look_size hl; have := HZe.out; simp only [Option.getD_some]; omega
              obtain ⟨N, hNN⟩ : ∃ N, (linesL src).length = N := ⟨_, rfl⟩
              have hNb : N ≤ 1050001 := by have := linesL_len src; omega
              have hjN : j < N := by rw [← hNN]; exact (List.getElem?_eq_some_iff.1 hG2).1
              have hjI : (j : Int) < (N : Int) := by omega
              have hjc : (j : Int) + 1 - 1 = (j : Int) := by omega
              have hjI2 : ¬ (N : Int) < (j : Int) + 1 := by omega
              have hjI3 : ¬ (j : Int) + 1 < 1 := by omega
              have hd2 : decide ((N : Int) < (j : Int) + 1) = false := decide_eq_false hjI2
              have hd3 : decide ((j : Int) + 1 < 1) = false := decide_eq_false hjI3
              have HG2 := Lib.hid hG2
              have Hsrc := Lib.hid hsrc
              obtain ⟨w6, hw6⟩ : ∃ w6, w6 = wo.alloc (.cells #[.string fb, .int .i64 ((j : Int) + 1)] 29) := ⟨_, rfl⟩
              have hb6 : Below wo.heap.size wo w6 := hw6 ▸ (Below.refl _ _).alloc (Nat.le_refl _) _
              have hz6 : w6.heap.size = wo.heap.size + 1 := by rw [hw6]; simp
              have s6 : w6.heap[wo.heap.size]? = some (.cells #[.string fb, .int .i64 ((j : Int) + 1)] 29 (0, 0)) := by rw [hw6]; exact heap_alloc_at wo _
              have U0 := Lib.hid (show w6.cell? ⟨wo.heap.size, 0, none⟩ = some (.string fb) by rw [Lib.cell_of_heap s6]; rfl)
              have U1 := Lib.hid (show w6.cell? ⟨wo.heap.size, 1, none⟩ = some (.int .i64 ((j : Int) + 1)) by rw [Lib.cell_of_heap s6]; rfl)
              have HBo := Lib.hid (HBr.out.trans (hb6.mono HBr.out.size))
              have Y26 : Hid (w6.cell? ⟨gl, i, none⟩ = some (.string lb)) := (hb6.cell (p := ⟨gl, i, none⟩) (Nat.lt_of_lt_of_le HGl.out HBr.out.size)).trans Y2.out
              have HZ6 := Lib.hid hz6
              have HW6 := Lib.hid hw6
              have HZo := Lib.hid HBr.out.size
              have HSz := Lib.hid (show src.length ≤ 1100000 by omega)
              clear hG0 hG1 hG2 hcx hx hsrc hlb hb6 s6 hz6 hw6 hsz Y2
              clear HBr
              by_cases hfe : file = []
              · have hem : fb.toList.isEmpty = true := by rw [Lib.toList_data, hfb, B_list, hfe]; rfl
                have HSrc : Hid (s.data.toList = src) := by show _ = _; rw [Hsrc.out, hfe]; unfold srcF; rw [if_pos rfl]
                have HLs := Lib.hid (HLn.out s (by omega) w6)
                have HB6 := HBo
                have HB6z := Lib.hid (Nat.le_refl w6.heap.size)
                have Y2 : Hid (w6.cell? ⟨gl, i, none⟩ = some (.string lb)) := Y26
                have HFb := Lib.hid hfb
                clear hfb Hsrc
                go_wp2_with fail
                rw [← HW6.out]
                refine HLs.out.mono ?_
                clear HLs
                rintro e w7 ⟨v, rfl, hown, hb7⟩
                have HB7 := Lib.hid (HB6.out.trans (hb7.mono HB6.out.size))
                have hfr2 : linesL s.data.toList = linesL src := by rw [HSrc.out]
                rw [hfr2] at hown
                obtain ⟨ma, mc, hv, hat⟩ := hown.at_
                obtain ⟨gm, hma, _, hgm, hcm⟩ := hat j l HG2.out
                subst hma
                rw [hNN] at hv
                subst hv
                have a1 : w7.cell? ⟨wo.heap.size, 1, none⟩ = some (.int .i64 ((j : Int) + 1)) := (hb7.cell (p := ⟨wo.heap.size, 1, none⟩) (by have := HZ6.out; have := HB6z.out; show wo.heap.size < _; omega)).trans (U1.out)
                have a2 : w7.cell? ⟨gm, j, none⟩ = some (.string lb) := by rw [HLb.out]; exact hcm
                have a3 : w7.cell? ⟨gl, i, none⟩ = some (.string lb) := (hb7.cell (p := ⟨gl, i, none⟩) (Nat.lt_of_lt_of_le HGl.out HB6.out.size)).trans Y2.out
                have a1' : w7.drew.cell? ⟨wo.heap.size, 1, none⟩ = some (.int .i64 ((j : Int) + 1)) := a1
                have a2' : w7.drew.cell? ⟨gm, j, none⟩ = some (.string lb) := a2
                have a3' : w7.drew.cell? ⟨gl, i, none⟩ = some (.string lb) := a3
                clear hown hb7 hat hcm hgm hfr2
                go_wp2_with fail
                go_region
                all_goals
                  go_wp2_with fail
                  go_roundw
                  case rel => exact ⟨i + 1, rfl, by omega, HB7.out.drew⟩
                  case measure => simp only [natOf]; omega
              · have hem : fb.toList.isEmpty = false := by rw [Lib.toList_data, hfb, B_list]; cases file with | nil => exact absurd rfl hfe | cons a b => rfl
                have HSrc0 : Hid ((look (pairsF L) file).getD [] = src) := by show _ = _; rw [Hsrc.out]; unfold srcF; rw [if_neg hfe]
                have HFb := Lib.hid hfb
                clear hfb Hsrc hfe
                go_wp2_with fail
                rw [← HW6.out]
                go_loopw [13, 14] (fun v13 v14 wi => ∃ (fr : ByteArray) (y : Int) (k2 : Nat), v13 = .string fr ∧ v14 = .int .i64 y ∧ y = (k2 : Int) - 1 ∧ k2 ≤ n ∧ Hid (fr = B ((look (pairsF (L.drop k2)) file).getD [])) ∧ Hid (Below w6.heap.size w6 wi)) (fun _ v14 _ => natOf1 v14)
                case atStart => exact ⟨⟨#[]⟩, _, n, rfl, rfl, rfl, Nat.le_refl _, by (show _ = _; rw [HN.out, List.drop_length]; rfl), Below.refl _ _⟩
                case round =>
                  obtain ⟨wi, rfl⟩ : ∃ wi : World, wi = wr := ⟨_, rfl⟩
                  obtain ⟨fr, y, k2, rfl, rfl, hy, hk2, HFr, HBi⟩ := hrel
                  by_cases hk0 : k2 = 0
                  · have hyI : ¬ (0 : Int) ≤ y := by omega
                    clear hy
                    have HSrc : Hid (fr.data.toList = src) := by show _ = _; rw [HFr.out, hk0, B_list, List.drop_zero]; exact HSrc0.out
                    have hfs : fr.size ≤ 1100000 := by
                      have h1 : fr.size = fr.data.toList.length := by simp
                      rw [h1, HSrc.out]; exact HSz.out
                    have HLs := Lib.hid (HLn.out fr (by omega) wi)
                    have HB6 := Lib.hid (HBo.out.trans (HBi.out.mono HBo.out.size))
                    have HB6z := Lib.hid HBi.out.size
                    have Y2 : Hid (wi.cell? ⟨gl, i, none⟩ = some (.string lb)) := (HBi.out.cell (p := ⟨gl, i, none⟩) (Nat.lt_of_lt_of_le HGl.out HBo.out.size)).trans Y26.out
                    have U1y := Lib.hid ((HBi.out.cell (p := ⟨wo.heap.size, 1, none⟩) (by have := HZ6.out; show wo.heap.size < _; omega)).trans U1.out)
                    clear hfs hk2 HFr
                    go_wp2_with fail
                    refine HLs.out.mono ?_
                    clear HLs
                    rintro e w7 ⟨v, rfl, hown, hb7⟩
                    have HB7 := Lib.hid (HB6.out.trans (hb7.mono HB6.out.size))
                    have hfr2 : linesL fr.data.toList = linesL src := by rw [HSrc.out]
                    rw [hfr2] at hown
                    obtain ⟨ma, mc, hv, hat⟩ := hown.at_
                    obtain ⟨gm, hma, _, hgm, hcm⟩ := hat j l HG2.out
                    subst hma
                    rw [hNN] at hv
                    subst hv
                    have a1 : w7.cell? ⟨wo.heap.size, 1, none⟩ = some (.int .i64 ((j : Int) + 1)) := (hb7.cell (p := ⟨wo.heap.size, 1, none⟩) (by have := HZ6.out; have := HB6z.out; show wo.heap.size < _; omega)).trans (U1y.out)
                    have a2 : w7.cell? ⟨gm, j, none⟩ = some (.string lb) := by rw [HLb.out]; exact hcm
                    have a3 : w7.cell? ⟨gl, i, none⟩ = some (.string lb) := (hb7.cell (p := ⟨gl, i, none⟩) (Nat.lt_of_lt_of_le HGl.out HB6.out.size)).trans Y2.out
                    have a1' : w7.drew.cell? ⟨wo.heap.size, 1, none⟩ = some (.int .i64 ((j : Int) + 1)) := a1
                    have a2' : w7.drew.cell? ⟨gm, j, none⟩ = some (.string lb) := a2
                    have a3' : w7.drew.cell? ⟨gl, i, none⟩ = some (.string lb) := a3
                    clear hown hb7 hat hcm hgm hfr2
                    go_wp2_with fail
                    go_region
                    all_goals
                      go_wp2_with fail
                      go_roundw
                      case rel => exact ⟨i + 1, rfl, by omega, HB7.out.drew⟩
                      case measure => simp only [natOf]; omega
                  · obtain ⟨k3, rfl⟩ : ∃ k3, k2 = k3 + 1 := ⟨k2 - 1, by omega⟩
                    obtain rfl : y = (k3 : Int) := by omega
                    clear hy hk0
                    have hkI : (k3 : Int) < (n : Int) := by omega
                    have hkn : k3 < n := by omega
                    obtain ⟨p, hp⟩ : ∃ p, L[k3]? = some p := ⟨L[k3]'(by rw [← HN.out]; exact hkn), List.getElem?_eq_getElem _⟩
                    obtain ⟨cv, h1, h2, h3⟩ := HC.out k3 p hp
                    have hBw := HBw.out.trans ((HBo.out.trans (HBi.out.mono HBo.out.size)).mono HBw.out.size)
                    have c1 : wi.cell? ⟨bk, o + k3 * 2, none⟩ = some (.string p.1) := (hBw.cell (p := ⟨bk, o + k3 * 2, none⟩) HLt.out).trans h1
                    have c2 : wi.cell? ⟨bk, o + k3 * 2 + 1, none⟩ = some cv := (hBw.cell (p := ⟨bk, o + k3 * 2 + 1, none⟩) HLt.out).trans h2
                    have c3 : wi.cell? ⟨wo.heap.size, 0, none⟩ = some (.string fb) := (HBi.out.cell (p := ⟨wo.heap.size, 0, none⟩) (by have := HZ6.out; show wo.heap.size < _; omega)).trans U0.out
                    have c1' : wi.drew.cell? ⟨bk, o + k3 * 2, none⟩ = some (.string p.1) := c1
                    have c2' : wi.drew.cell? ⟨bk, o + k3 * 2 + 1, none⟩ = some cv := c2
                    have c3' : wi.drew.cell? ⟨wo.heap.size, 0, none⟩ = some (.string fb) := c3
                    have h3w : ChunksR wi cv p.2 := h3.below hBw
                    have hzp := sizeC_le hp
                    have HJ : Hid (Calls Tryd.prog 14 #[cv] wi.drew fun e w' => e = .returned (.string (B (joinB p.2))) ∧ w' = wi.drew) := Joined_any cv p.2 wi.drew h3w (by have := HSF.out; omega)
                    obtain ⟨ca, cn, cc, rfl⟩ := h3.isSlice
                    obtain ⟨jb, hjb⟩ : ∃ b, b = B (joinB p.2) := ⟨_, rfl⟩
                    rw [← hjb] at HJ
                    have HP := Lib.hid hp
                    have HJb := Lib.hid hjb
                    have hld := look_drop (name := file) hp
                    have HLd := Lib.hid hld
                    clear h1 h2 h3 h3w hzp hp hjb hBw hld
                    cases hq : (p.1.data.toList == file) with
                    | true =>
                      have ht : (p.1.toList == fb.toList) = true := by rw [Lib.toList_data, Lib.toList_data, HFb.out, B_list]; exact hq
                      have HQ := Lib.hid hq
                      clear hq
                      go_wp2_with fail
                      go_region
                      all_goals
                        go_wp2_with fail
                        refine HJ.out.mono ?_
                        rintro e w8 ⟨rfl, rfl⟩
                        go_wp2_with fail
                        go_roundw
                        case rel => exact ⟨jb, _, k3, rfl, rfl, rfl, by omega, by (show _ = _; rw [HLd.out, HQ.out, HJb.out]; rfl), HBi.out.drew⟩
                        case measure => simp only [natOf1]; omega
                    | false =>
                      have ht : (p.1.toList == fb.toList) = false := by rw [Lib.toList_data, Lib.toList_data, HFb.out, B_list]; exact hq
                      have HQ := Lib.hid hq
                      clear hq HJ
                      go_wp2_with fail
                      go_region
                      all_goals
                        go_wp2_with fail
                        go_roundw
                        case rel => exact ⟨fr, _, k3, rfl, rfl, rfl, by omega, by (show _ = _; rw [HLd.out, HQ.out, HFr.out]; rfl), HBi.out.drew⟩
                        case measure => simp only [natOf1]; omega
            · have hilI : (q : Int) ≤ (i : Int) := by omega
              go_wp2_with fail
              go_ret
              exact ⟨rfl, HBw.out.trans (HBr.out.mono HBw.out.size)⟩

set_option maxHeartbeats 16000000 in
set_option maxRecDepth 1000000 in
theorem sl_nil (fa : Option Addr) (s : ByteArray) (n fc : Nat) (L : List (ByteArray × List ByteArray)) (w : World) (hM : MaxOk w) (hn : n = L.length) (hF : FilesR w (.slice fa n fc) L) (hn0 : n = 0) (hs : s.size + sizeF L ≤ 1050000) :
    Calls Tryd.prog 5 #[.string s, .slice fa n fc] w fun e w' => e = .returned (.bool true) ∧ Below w.heap.size w w' := by
  have HFx := Lib.hid (fixed_any w hM)
  have HM := Lib.hid hM
  have hll : L.length ≤ 1050000 := by have := sizeL_le L; omega
  have hsl : sizeL L ≤ 1050000 := by have := sizeL_le L; omega
  have HSF := Lib.hid (show sizeF L ≤ 1050000 by omega)
  have hss : s.size ≤ 1050000 := by omega
  clear hM hs
  have HF := Lib.hid hF
  have HN0 := Lib.hid hn0
  clear hn0
  obtain ⟨z, hz⟩ : ∃ z, z = sizeL L := ⟨_, rfl⟩
  have HZ := Lib.hid (fun W (h : FilesR W (.slice fa n fc) L) => (show Calls Tryd.prog 8 #[.slice fa n fc] W fun e w' => e = .returned (.int .i64 (z : Int)) ∧ Below W.heap.size W w' from by rw [hz]; exact size_any _ L W h (by have := HSF.out; omega)))
  rw [← hn] at hll
  rw [← hz] at hsl
  have HN := Lib.hid hn
  have HZe := Lib.hid hz
  have HLn := Lib.hid (fun (x : ByteArray) (hx : x.size ≤ 900000000) W => Lines_any x W hx)
  clear hF hn hz
  go_enter Tryd.func5, Tryd.ntmps5
  go_wp2_with fail
  refine HFx.out.mono ?_
  rintro e w1 ⟨rfl, hb1⟩
  have HB1 := Lib.hid hb1
  have HM1 := Lib.hid (HM.out.below hb1 HM.out.lt)
  have HF1 := Lib.hid (HF.out.below hb1)
  clear hb1 HFx HM HF
  have HZ1 := Lib.hid (HZ.out _ HF1.out)
  clear HZ
  go_wp2_with fail
  refine HZ1.out.mono ?_
  rintro e w2 ⟨rfl, hb2⟩
  have HB2 := Lib.hid (HB1.out.trans (hb2.mono HB1.out.size))
  have HM2 := Lib.hid (HM1.out.below hb2 HM1.out.lt)
  have HF2 := Lib.hid (HF1.out.below hb2)
  clear hb2 HZ1 HM1 HF1 HB1
  by_cases hbig : 60000 < s.size + z
  · have hbI : (60000 : Int) < (s.size : Int) + (z : Int) := by omega
    go_wp2_with fail
    go_ret
    exact ⟨rfl, HB2.out⟩
  by_cases hmany : 100 < n
  · have hbI : ¬ (60000 : Int) < (s.size : Int) + (z : Int) := by omega
    have hmI : (100 : Int) < (n : Int) := by omega
    go_wp2_with fail
    go_ret
    exact ⟨rfl, HB2.out⟩
  have hbI : ¬ (60000 : Int) < (s.size : Int) + (z : Int) := by omega
  have hmI : ¬ (100 : Int) < (n : Int) := by omega
  have hFV : FilesV w2 (.slice fa n fc) (pairsF L) := HF2.out.toV (by have := HZe.out; omega) (by have := HSF.out; omega) (by have := HN.out; omega)
  have hload := Load_any (pairsF L) s (.slice fa n fc) w2 ⟨_, _, _, rfl⟩ HM2.out (by omega) (by simp [pairsF]; have := HN.out; omega) (.inr ⟨hFV, fun x t h => by have := look_size h; have := HZe.out; omega⟩)
  have hbad := loadF_bad (N := (pairsF L).map (·.1)) (F := look (pairsF L)) (fun x t h => look_mem h) s.data.toList
  have HInv := Lib.hid (fun st h => loadF_inv (pairsF L) (((pairsF L).map (·.1)).length + 1) s.data.toList st h)
  obtain ⟨r, hr⟩ : ∃ r, r = loadF (look (pairsF L)) (((pairsF L).map (·.1)).length + 1) s.data.toList := ⟨_, rfl⟩
  rw [← hr] at hload hbad
  have HL := Lib.hid hload
  have HR := Lib.hid hr
  clear hload hr hFV hbig hmany
  cases r with
  | bad f m c =>
    obtain ⟨hm1, hc0, hc2⟩ := hbad
    have hmI1 : (1 : Int) ≤ (m : Int) := by omega
    have hcI : ((c : Int) == 0) = false := by simp; omega
    go_wp2_with fail
    refine HL.out.mono ?_
    rintro e w3 ⟨rfl, hb3⟩
    have HB3 := Lib.hid (HB2.out.trans (hb3.mono HB2.out.size))
    clear hb3 HL HR
    go_wp2_with fail
    go_ret
    exact ⟨rfl, (HB3.out.alloc HB3.out.size _).alloc (by have := HB3.out.size; simp; omega) _⟩
  | ok st =>
    clear hbad
    go_wp2_with fail
    refine HL.out.mono ?_
    rintro e w3 ⟨lv, rfl, hrow, hb3⟩
    have HB3 := Lib.hid (HB2.out.trans (hb3.mono HB2.out.size))
    have HP := Lib.hid (Pls.ofOwn hrow)
    obtain ⟨q, hq⟩ : ∃ q, q = st.lines.length := ⟨_, rfl⟩
    obtain ⟨la, lc, hlv⟩ := HP.out.slice
    rw [← hq] at hlv
    subst hlv
    have hq2 : q ≤ 8192 := by rw [hq]; exact (HInv.out _ HR.out.symm).1
    have ho2 : st.out.length ≤ 8192 := (HInv.out _ HR.out.symm).2
    have hrow3 : (q = 0) ∨ ∃ g, la = some ⟨g, 0, none⟩ ∧ g < w3.heap.size ∧ ∀ k p, st.lines[k]? = some p → w3.cell? ⟨g, k * 2, none⟩ = some (.string (B p.1)) ∧ w3.cell? ⟨g, k * 2 + 1, none⟩ = some (.int .i64 (p.2 : Int)) := by
      rcases HP.out with ⟨a, c, he, hL⟩ | ⟨g, c, he, hg, hcl⟩
      · left; rw [hq, hL]; rfl
      · right
        injection he with he1 he2 he3
        exact ⟨g, he1, hg, hcl⟩
    have HRow3 := Lib.hid hrow3
    have HQ := Lib.hid hq
    clear hrow hb3 HL HP hrow3 hq HInv
    obtain ⟨ob, hob⟩ : ∃ ob, ob = B st.out := ⟨_, rfl⟩
    have hobs : ob.size ≤ 8192 := by rw [hob, B_size]; exact ho2
    rw [← hob]
    have HOb := Lib.hid hob
    clear hob ho2
    obtain ⟨w4, hw4⟩ : ∃ w4, w4 = (w3.alloc (.cells #[.string ob, .slice la q lc] 27)).alloc (.cells #[.string ⟨#[]⟩, .int .i64 0] 29) := ⟨_, rfl⟩
    have hb4 : Below w3.heap.size w3 w4 := hw4 ▸ (((Below.refl _ _).alloc (Nat.le_refl _) _).alloc (by simp) _)
    have hz4 : w4.heap.size = w3.heap.size + 1 + 1 := by rw [hw4]; simp
    have s3 : w4.heap[w3.heap.size]? = some (.cells #[.string ob, .slice la q lc] 27 (0, 0)) := by
      rw [hw4, heap_alloc_lt _ _ _ (by simp)]; exact heap_alloc_at w3 _
    have s4 : w4.heap[w3.heap.size + 1]? = some (.cells #[.string ⟨#[]⟩, .int .i64 0] 29 (0, 0)) := by
      rw [hw4]
      have h := heap_alloc_at (w3.alloc (.cells #[.string ob, .slice la q lc] 27)) (.cells #[.string ⟨#[]⟩, .int .i64 0] 29)
      rw [show (w3.alloc (.cells #[.string ob, .slice la q lc] 27)).heap.size = w3.heap.size + 1 from by simp] at h
      exact h
    have X0 := Lib.hid (show w4.cell? ⟨w3.heap.size, 0, none⟩ = some (.string ob) by rw [Lib.cell_of_heap s3]; rfl)
    have X1 := Lib.hid (show w4.cell? ⟨w3.heap.size, 1, none⟩ = some (.slice la q lc) by rw [Lib.cell_of_heap s3]; rfl)
    have X2 := Lib.hid (show w4.cell? ⟨w3.heap.size + 1, 0, none⟩ = some (.string ⟨#[]⟩) by rw [Lib.cell_of_heap s4]; rfl)
    have X3 := Lib.hid (show w4.cell? ⟨w3.heap.size + 1, 1, none⟩ = some (.int .i64 0) by rw [Lib.cell_of_heap s4]; rfl)
    have HB4 := Lib.hid (HB3.out.trans (hb4.mono HB3.out.size))
    have HW4 := Lib.hid hw4
    have HZ4 := Lib.hid hz4
    have HRow4 : Hid ((q = 0) ∨ ∃ g, la = some ⟨g, 0, none⟩ ∧ g < w4.heap.size ∧ ∀ k p, st.lines[k]? = some p → w4.cell? ⟨g, k * 2, none⟩ = some (.string (B p.1)) ∧ w4.cell? ⟨g, k * 2 + 1, none⟩ = some (.int .i64 (p.2 : Int))) := by
      rcases HRow3.out with h | ⟨g, h1, h2, h3⟩
      · exact .inl h
      · exact .inr ⟨g, h1, Nat.lt_of_lt_of_le h2 hb4.size, fun k p hp => ⟨(hb4.cell (p := ⟨g, k * 2, none⟩) h2).trans (h3 k p hp).1, (hb4.cell (p := ⟨g, k * 2 + 1, none⟩) h2).trans (h3 k p hp).2⟩⟩
    clear hb4 s3 s4 hw4 hz4 HRow3
    go_wp2_with fail
    rw [← HW4.out]
    go_loopw [54] (fun v54 wr => ∃ k : Nat, v54 = .int .i64 (k : Int) ∧ k ≤ n ∧ Hid (∀ j p, j < k → L[j]? = some p → p.1.data.toList ≠ []) ∧ Hid (Below w4.heap.size w4 wr)) (fun v54 _ => n - natOf v54)
    case atStart => exact ⟨0, rfl, Nat.zero_le _, (fun j p h => absurd h (by omega)), Below.refl _ _⟩
    case round =>
      obtain ⟨k, rfl, hk, HE, HB⟩ := hrel
      by_cases hlt : k < n
      · exact absurd hlt (by have := HN0.out; omega)
      · have hltI : (n : Int) ≤ (k : Int) := by omega
        have hE : look (pairsF L) [] = none := look_nil (fun p hp => by
          obtain ⟨j, hj⟩ := List.mem_iff_getElem?.1 hp
          exact HE.out j p (by have := (List.getElem?_eq_some_iff.1 hj).1; have := HN.out; omega) hj)
        have HG := Lib.hid (loadF_good hE HR.out.symm)
        have x0 : wr.cell? ⟨w3.heap.size, 0, none⟩ = some (.string ob) := (HB.out.cell (p := ⟨w3.heap.size, 0, none⟩) (by have := HZ4.out; show w3.heap.size < _; omega)).trans X0.out
        have HL1 := Lib.hid (HLn.out ob (by omega) wr)
        clear hE HE HR
        go_wp2_with fail
        refine HL1.out.mono ?_
        rintro e w5 ⟨v, rfl, hown, hb5⟩
        clear HL1 x0
        have HB5 := Lib.hid (HB.out.trans (hb5.mono HB.out.size))
        obtain ⟨pl, hp1, hp2, hp3⟩ := HG.out
        have hlin : linesL ob.data.toList = pl.map (·.2) := by
          rw [HOb.out, B_list, hp2]
          exact lines_joinNl (fun l hl => by obtain ⟨x, hx, rfl⟩ := List.mem_map.1 hl; exact (hp3 x hx).1)
        rw [hlin] at hown
        obtain ⟨va, vc, hv, hat⟩ := hown.at_
        have hpq : (pl.map (·.2)).length = q := by rw [HQ.out, hp1]; simp
        rw [hpq] at hv
        subst hv
        have HAt := Lib.hid hat
        have HP1 := Lib.hid hp1
        have HP3 := Lib.hid hp3
        have HPQ := Lib.hid hpq
        have x0 : w5.cell? ⟨w3.heap.size, 0, none⟩ = some (.string ob) := (HB5.out.cell (p := ⟨w3.heap.size, 0, none⟩) (by have := HZ4.out; show w3.heap.size < _; omega)).trans X0.out
        have x1 : w5.cell? ⟨w3.heap.size, 1, none⟩ = some (.slice la q lc) := (HB5.out.cell (p := ⟨w3.heap.size, 1, none⟩) (by have := HZ4.out; show w3.heap.size < _; omega)).trans X1.out
        have x2 : w5.cell? ⟨w3.heap.size + 1, 0, none⟩ = some (.string ⟨#[]⟩) := (HB5.out.cell (p := ⟨w3.heap.size + 1, 0, none⟩) (by have := HZ4.out; show w3.heap.size + 1 < _; omega)).trans X2.out
        have x3 : w5.cell? ⟨w3.heap.size + 1, 1, none⟩ = some (.int .i64 0) := (HB5.out.cell (p := ⟨w3.heap.size + 1, 1, none⟩) (by have := HZ4.out; show w3.heap.size + 1 < _; omega)).trans X3.out
        have HBw := Lib.hid (HB4.out.trans (HB5.out.mono HB4.out.size))
        have HRow5 : Hid ((q = 0) ∨ ∃ g, la = some ⟨g, 0, none⟩ ∧ g < w5.heap.size ∧ ∀ k p, st.lines[k]? = some p → w5.cell? ⟨g, k * 2, none⟩ = some (.string (B p.1)) ∧ w5.cell? ⟨g, k * 2 + 1, none⟩ = some (.int .i64 (p.2 : Int))) := by
          rcases HRow4.out with h | ⟨g, h1, h2, h3⟩
          · exact .inl h
          · exact .inr ⟨g, h1, Nat.lt_of_lt_of_le h2 HB5.out.size, fun k p hp => ⟨(HB5.out.cell (p := ⟨g, k * 2, none⟩) h2).trans (h3 k p hp).1, (HB5.out.cell (p := ⟨g, k * 2 + 1, none⟩) h2).trans (h3 k p hp).2⟩⟩
        have hidx : (q = 0) ∨ ∃ g gl, la = some ⟨g, 0, none⟩ ∧ va = some ⟨gl, 0, none⟩ ∧ g < w5.heap.size ∧ gl < w5.heap.size ∧ ∀ i x, pl[i]? = some x → w5.cell? ⟨g, i * 2, none⟩ = some (.string (B x.1.1)) ∧ w5.cell? ⟨g, i * 2 + 1, none⟩ = some (.int .i64 (x.1.2 : Int)) ∧ w5.cell? ⟨gl, i, none⟩ = some (.string (B x.2)) := by
          rcases Nat.eq_zero_or_pos q with h0 | h0
          · exact .inl h0
          · rcases HRow5.out with h | ⟨g, h1, h2, h3⟩
            · exact .inl h
            · have hpos : 0 < pl.length := by have := hpq; simp at this; omega
              obtain ⟨gl, e1, e2, e3, _⟩ := hat 0 _ (by rw [List.getElem?_map, List.getElem?_eq_getElem hpos]; rfl)
              refine .inr ⟨g, gl, h1, e1, h2, e3, fun i x hx => ?_⟩
              have h5 := h3 i x.1 (by rw [hp1, List.getElem?_map, hx]; rfl)
              obtain ⟨gl', e1', _, _, e4⟩ := hat i x.2 (by rw [List.getElem?_map, hx]; rfl)
              rw [e1] at e1'
              cases e1'
              exact ⟨h5.1, h5.2, e4⟩
        have HIdx := Lib.hid hidx
        have hlen : pl.length = q := by simpa using hpq
        have HLen := Lib.hid hlen
        clear hidx hlen hb5 hown hp1 hp2 hp3 hlin hpq hat HG HOb HP1 HPQ HAt HRow5 HRow4 HB4 HB HQ
        go_wp2_with fail
        have hidx := HIdx.out
        clear HIdx x0 x1 x2 x3
        rcases hidx with rfl | ⟨g, gl, rfl, rfl, hg, hgl, hcl⟩
        · go_loopw [79] (fun v79 wr => v79 = .int .i64 0 ∧ Hid (Below w5.heap.size w5 wr)) (fun v79 _ => 0)
          case atStart => exact ⟨rfl, Below.refl _ _⟩
          case round =>
            obtain ⟨rfl, HBr⟩ := hrel
            go_wp2_with fail
            go_ret
            exact ⟨rfl, HBw.out.trans (HBr.out.mono HBw.out.size)⟩
        · have HGl := Lib.hid hgl
          have HGg := Lib.hid hg
          have HCl := Lib.hid hcl
          clear hg hgl hcl
          go_loopw [79] (fun v79 wr => ∃ i : Nat, v79 = .int .i64 (i : Int) ∧ i ≤ q ∧ Hid (Below w5.heap.size w5 wr)) (fun v79 _ => q - natOf v79)
          case atStart => exact ⟨0, rfl, Nat.zero_le _, Below.refl _ _⟩
          case round =>
            obtain ⟨i, rfl, hi, HBr⟩ := hrel
            obtain ⟨wo, rfl⟩ : ∃ wo : World, wo = wr := ⟨_, rfl⟩
            by_cases hil : i < q
            · have hilI : (i : Int) < (q : Int) := by omega
              obtain ⟨x, hx⟩ : ∃ x, pl[i]? = some x := ⟨pl[i]'(by rw [HLen.out]; exact hil), List.getElem?_eq_getElem _⟩
              obtain ⟨⟨file, m⟩, l⟩ := x
              obtain ⟨hG0, hG1, hG2⟩ := HP3.out _ (List.mem_of_getElem? hx)
              have hcx := HCl.out i _ hx
              dsimp only at hG0 hG1 hG2 hcx
              obtain ⟨j, rfl⟩ : ∃ j, m = j + 1 := ⟨m - 1, by omega⟩
              rw [Nat.add_sub_cancel] at hG2
              have y0 : wo.cell? ⟨g, i * 2, none⟩ = some (.string (B file)) := (HBr.out.cell (p := ⟨g, i * 2, none⟩) HGg.out).trans hcx.1
              have y1 : wo.cell? ⟨g, i * 2 + 1, none⟩ = some (.int .i64 ((j : Int) + 1)) := (HBr.out.cell (p := ⟨g, i * 2 + 1, none⟩) HGg.out).trans hcx.2.1
              obtain ⟨fb, hfb⟩ : ∃ fb, fb = B file := ⟨_, rfl⟩
              rw [← hfb] at y0
              obtain ⟨lb, hlb⟩ : ∃ lb, lb = B l := ⟨_, rfl⟩
              have Y2 : Hid (wo.cell? ⟨gl, i, none⟩ = some (.string lb)) := by rw [hlb]; exact (HBr.out.cell (p := ⟨gl, i, none⟩) HGl.out).trans hcx.2.2
              have HLb := Lib.hid hlb
              obtain ⟨src, hsrc⟩ : ∃ t, t = srcF (look (pairsF L)) s.data.toList file := ⟨_, rfl⟩
              rw [← hsrc] at hG2
              have hsz : src.length ≤ 1050000 := by
                rw [hsrc]; unfold srcF
                split
                · have : s.data.toList.length = s.size := by simp
                  omega
                · cases hl : look (pairsF L) file with
                  | none => exact Nat.zero_le _
                  | some t => have := look_size hl; have := HZe.out; simp only [Option.getD_some]; omega
              obtain ⟨N, hNN⟩ : ∃ N, (linesL src).length = N := ⟨_, rfl⟩
              have hNb : N ≤ 1050001 := by have := linesL_len src; omega
              have hjN : j < N := by rw [← hNN]; exact (List.getElem?_eq_some_iff.1 hG2).1
              have hjI : (j : Int) < (N : Int) := by omega
              have hjc : (j : Int) + 1 - 1 = (j : Int) := by omega
              have hjI2 : ¬ (N : Int) < (j : Int) + 1 := by omega
              have hjI3 : ¬ (j : Int) + 1 < 1 := by omega
              have hd2 : decide ((N : Int) < (j : Int) + 1) = false := decide_eq_false hjI2
              have hd3 : decide ((j : Int) + 1 < 1) = false := decide_eq_false hjI3
              have HG2 := Lib.hid hG2
              have Hsrc := Lib.hid hsrc
              obtain ⟨w6, hw6⟩ : ∃ w6, w6 = wo.alloc (.cells #[.string fb, .int .i64 ((j : Int) + 1)] 29) := ⟨_, rfl⟩
              have hb6 : Below wo.heap.size wo w6 := hw6 ▸ (Below.refl _ _).alloc (Nat.le_refl _) _
              have hz6 : w6.heap.size = wo.heap.size + 1 := by rw [hw6]; simp
              have s6 : w6.heap[wo.heap.size]? = some (.cells #[.string fb, .int .i64 ((j : Int) + 1)] 29 (0, 0)) := by rw [hw6]; exact heap_alloc_at wo _
              have U0 := Lib.hid (show w6.cell? ⟨wo.heap.size, 0, none⟩ = some (.string fb) by rw [Lib.cell_of_heap s6]; rfl)
              have U1 := Lib.hid (show w6.cell? ⟨wo.heap.size, 1, none⟩ = some (.int .i64 ((j : Int) + 1)) by rw [Lib.cell_of_heap s6]; rfl)
              have HBo := Lib.hid (HBr.out.trans (hb6.mono HBr.out.size))
              have Y26 : Hid (w6.cell? ⟨gl, i, none⟩ = some (.string lb)) := (hb6.cell (p := ⟨gl, i, none⟩) (Nat.lt_of_lt_of_le HGl.out HBr.out.size)).trans Y2.out
              have HZ6 := Lib.hid hz6
              have HW6 := Lib.hid hw6
              have HZo := Lib.hid HBr.out.size
              have HSz := Lib.hid (show src.length ≤ 1100000 by omega)
              clear hG0 hG1 hG2 hcx hx hsrc hlb hb6 s6 hz6 hw6 hsz Y2
              clear HBr
              by_cases hfe : file = []
              · have hem : fb.toList.isEmpty = true := by rw [Lib.toList_data, hfb, B_list, hfe]; rfl
                have HSrc : Hid (s.data.toList = src) := by show _ = _; rw [Hsrc.out, hfe]; unfold srcF; rw [if_pos rfl]
                have HLs := Lib.hid (HLn.out s (by omega) w6)
                have HB6 := HBo
                have HB6z := Lib.hid (Nat.le_refl w6.heap.size)
                have Y2 : Hid (w6.cell? ⟨gl, i, none⟩ = some (.string lb)) := Y26
                have HFb := Lib.hid hfb
                clear hfb Hsrc
                go_wp2_with fail
                rw [← HW6.out]
                refine HLs.out.mono ?_
                clear HLs
                rintro e w7 ⟨v, rfl, hown, hb7⟩
                have HB7 := Lib.hid (HB6.out.trans (hb7.mono HB6.out.size))
                have hfr2 : linesL s.data.toList = linesL src := by rw [HSrc.out]
                rw [hfr2] at hown
                obtain ⟨ma, mc, hv, hat⟩ := hown.at_
                obtain ⟨gm, hma, _, hgm, hcm⟩ := hat j l HG2.out
                subst hma
                rw [hNN] at hv
                subst hv
                have a1 : w7.cell? ⟨wo.heap.size, 1, none⟩ = some (.int .i64 ((j : Int) + 1)) := (hb7.cell (p := ⟨wo.heap.size, 1, none⟩) (by have := HZ6.out; have := HB6z.out; show wo.heap.size < _; omega)).trans (U1.out)
                have a2 : w7.cell? ⟨gm, j, none⟩ = some (.string lb) := by rw [HLb.out]; exact hcm
                have a3 : w7.cell? ⟨gl, i, none⟩ = some (.string lb) := (hb7.cell (p := ⟨gl, i, none⟩) (Nat.lt_of_lt_of_le HGl.out HB6.out.size)).trans Y2.out
                have a1' : w7.drew.cell? ⟨wo.heap.size, 1, none⟩ = some (.int .i64 ((j : Int) + 1)) := a1
                have a2' : w7.drew.cell? ⟨gm, j, none⟩ = some (.string lb) := a2
                have a3' : w7.drew.cell? ⟨gl, i, none⟩ = some (.string lb) := a3
                clear hown hb7 hat hcm hgm hfr2
                go_wp2_with fail
                go_region
                all_goals
                  go_wp2_with fail
                  go_roundw
                  case rel => exact ⟨i + 1, rfl, by omega, HB7.out.drew⟩
                  case measure => simp only [natOf]; omega
              · have hem : fb.toList.isEmpty = false := by rw [Lib.toList_data, hfb, B_list]; cases file with | nil => exact absurd rfl hfe | cons a b => rfl
                have HSrc0 : Hid ((look (pairsF L) file).getD [] = src) := by show _ = _; rw [Hsrc.out]; unfold srcF; rw [if_neg hfe]
                have HFb := Lib.hid hfb
                clear hfb Hsrc hfe
                go_wp2_with fail
                rw [← HW6.out]
                go_loopw [13, 14] (fun v13 v14 wi => ∃ (fr : ByteArray) (y : Int) (k2 : Nat), v13 = .string fr ∧ v14 = .int .i64 y ∧ y = (k2 : Int) - 1 ∧ k2 ≤ n ∧ Hid (fr = B ((look (pairsF (L.drop k2)) file).getD [])) ∧ Hid (Below w6.heap.size w6 wi)) (fun _ v14 _ => natOf1 v14)
                case atStart => exact ⟨⟨#[]⟩, _, n, rfl, rfl, rfl, Nat.le_refl _, by (show _ = _; rw [HN.out, List.drop_length]; rfl), Below.refl _ _⟩
                case round =>
                  obtain ⟨wi, rfl⟩ : ∃ wi : World, wi = wr := ⟨_, rfl⟩
                  obtain ⟨fr, y, k2, rfl, rfl, hy, hk2, HFr, HBi⟩ := hrel
                  by_cases hk0 : k2 = 0
                  · have hyI : ¬ (0 : Int) ≤ y := by omega
                    clear hy
                    have HSrc : Hid (fr.data.toList = src) := by show _ = _; rw [HFr.out, hk0, B_list, List.drop_zero]; exact HSrc0.out
                    have hfs : fr.size ≤ 1100000 := by
                      have h1 : fr.size = fr.data.toList.length := by simp
                      rw [h1, HSrc.out]; exact HSz.out
                    have HLs := Lib.hid (HLn.out fr (by omega) wi)
                    have HB6 := Lib.hid (HBo.out.trans (HBi.out.mono HBo.out.size))
                    have HB6z := Lib.hid HBi.out.size
                    have Y2 : Hid (wi.cell? ⟨gl, i, none⟩ = some (.string lb)) := (HBi.out.cell (p := ⟨gl, i, none⟩) (Nat.lt_of_lt_of_le HGl.out HBo.out.size)).trans Y26.out
                    have U1y := Lib.hid ((HBi.out.cell (p := ⟨wo.heap.size, 1, none⟩) (by have := HZ6.out; show wo.heap.size < _; omega)).trans U1.out)
                    clear hfs hk2 HFr
                    go_wp2_with fail
                    refine HLs.out.mono ?_
                    clear HLs
                    rintro e w7 ⟨v, rfl, hown, hb7⟩
                    have HB7 := Lib.hid (HB6.out.trans (hb7.mono HB6.out.size))
                    have hfr2 : linesL fr.data.toList = linesL src := by rw [HSrc.out]
                    rw [hfr2] at hown
                    obtain ⟨ma, mc, hv, hat⟩ := hown.at_
                    obtain ⟨gm, hma, _, hgm, hcm⟩ := hat j l HG2.out
                    subst hma
                    rw [hNN] at hv
                    subst hv
                    have a1 : w7.cell? ⟨wo.heap.size, 1, none⟩ = some (.int .i64 ((j : Int) + 1)) := (hb7.cell (p := ⟨wo.heap.size, 1, none⟩) (by have := HZ6.out; have := HB6z.out; show wo.heap.size < _; omega)).trans (U1y.out)
                    have a2 : w7.cell? ⟨gm, j, none⟩ = some (.string lb) := by rw [HLb.out]; exact hcm
                    have a3 : w7.cell? ⟨gl, i, none⟩ = some (.string lb) := (hb7.cell (p := ⟨gl, i, none⟩) (Nat.lt_of_lt_of_le HGl.out HB6.out.size)).trans Y2.out
                    have a1' : w7.drew.cell? ⟨wo.heap.size, 1, none⟩ = some (.int .i64 ((j : Int) + 1)) := a1
                    have a2' : w7.drew.cell? ⟨gm, j, none⟩ = some (.string lb) := a2
                    have a3' : w7.drew.cell? ⟨gl, i, none⟩ = some (.string lb) := a3
                    clear hown hb7 hat hcm hgm hfr2
                    go_wp2_with fail
                    go_region
                    all_goals
                      go_wp2_with fail
                      go_roundw
                      case rel => exact ⟨i + 1, rfl, by omega, HB7.out.drew⟩
                      case measure => simp only [natOf]; omega
                  · exact absurd hk2 (by have := HN0.out; omega)
            · have hilI : (q : Int) ≤ (i : Int) := by omega
              go_wp2_with fail
              go_ret
              exact ⟨rfl, HBw.out.trans (HBr.out.mono HBw.out.size)⟩

theorem sl_any (s : ByteArray) (fv : Value) (L : List (ByteArray × List ByteArray)) (w : World) (hM : MaxOk w) (hF : FilesR w fv L) (hs : s.size + sizeF L ≤ 1050000) :
    Calls Tryd.prog 5 #[.string s, fv] w fun e w' => e = .returned (.bool true) ∧ Below w.heap.size w w' := by
  rcases hF with ⟨a, c, rfl, rfl⟩ | ⟨bk, o, c, rfl, h1, h2, h3⟩
  · exact sl_nil a s 0 c [] w hM rfl (.inl ⟨a, c, rfl, rfl⟩) rfl hs
  · exact sl_row bk o s L.length c L w hM rfl (.inr ⟨bk, o, c, rfl, h1, h2, h3⟩) h2 h3 hs
end Go.Proofs.YtmhjfdnpmfhmjaaDoor
