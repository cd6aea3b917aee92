/- thresherlaw19.SourcePlain, walked. -/
import Derived.Test.YtmhjfdnpmfhmjaaDoorS11
import Derived.Test.YtmhjfdnpmfhmjaaDoorS16
import Derived.StillTailTactics
import Derived.Deep.RegionHeld3
import Derived.Deep.RegionWith
namespace Go.Proofs.YtmhjfdnpmfhmjaaDoor
open Go.RowKit
set_option linter.unusedVariables false

theorem suffix_nl (s : Str) : Lib.hasSuffix s [10] = decide (s.getLast? = some 10) := by
  unfold Lib.hasSuffix
  by_cases h : s.getLast? = some 10
  · rw [decide_eq_true h]
    obtain ⟨q, hq⟩ := List.getLast?_eq_some_iff.1 h
    rw [hq]
    exact List.isSuffixOf_iff_suffix.2 (List.suffix_append _ _)
  · rw [decide_eq_false h]
    cases hc : List.isSuffixOf [10] s with
    | false => rfl
    | true =>
      obtain ⟨q, hq⟩ := List.isSuffixOf_iff_suffix.1 hc
      exact absurd (by rw [← hq]; simp) h

set_option maxHeartbeats 16000000 in
set_option maxRecDepth 1000000 in
theorem plain_any (s : ByteArray) (fa : Option Addr) (fn fc : Nat) (w : World) (hM : MaxOk w) (hs : s.size ≤ 900000000) :
    Calls Tryd.prog 6 #[.string s, .slice fa fn fc] w fun e w' => e = .returned (.bool true) ∧ Below w.heap.size w w' := by
  have HFx := Lib.hid (fixed_any w hM)
  have HM := Lib.hid hM
  clear hM
  have HC := Lib.hid (fun W (h : MaxOk W) => (show Calls Tryd.prog 12 #[.string s, .string ⟨#[64, 105, 110, 99, 108, 117, 100, 101]⟩] W fun e w' => e = .returned (.bool (Lib.contains s.data.toList incW)) ∧ w' = W from by
    obtain ⟨m, hm⟩ := h
    exact Tryd.strings_Contains s ⟨#[64, 105, 110, 99, 108, 117, 100, 101]⟩ m W (by omega) hm))
  obtain ⟨k1, hk1⟩ : ∃ k, k = Lib.contains s.data.toList incW := ⟨_, rfl⟩
  rw [← hk1] at HC
  have HK1 := Lib.hid hk1
  clear hk1
  go_enter Tryd.func6, Tryd.ntmps6
  go_wp2_with fail
  refine HFx.out.mono ?_
  rintro e w1 ⟨rfl, hb1⟩
  have HB1 := Lib.hid hb1
  have HM1 := Lib.hid (HM.out.below hb1 HM.out.lt)
  clear hb1 HFx HM
  go_wp2_with fail
  refine (HC.out _ HM1.out).mono ?_
  rintro e w1 ⟨rfl, rfl⟩
  clear HC
  cases k1 with
  | true =>
    go_wp2_with fail
    go_ret
    exact ⟨rfl, HB1.out⟩
  | false =>
    by_cases hbig : 8191 < s.size
    · have hbI : (8191 : Int) < (s.size : Int) := by omega
      go_wp2_with fail
      go_ret
      exact ⟨rfl, HB1.out⟩
    · have hbI : ¬ (8191 : Int) < (s.size : Int) := by omega
      have hsl : s.data.toList.length ≤ 8191 := by simpa using (by omega : s.size ≤ 8191)
      have hno : Lib.contains s.data.toList incW = false := HK1.out.symm
      have hload := Load_any [] s (.slice fa fn fc) w1 ⟨_, _, _, rfl⟩ HM1.out (by omega) (by decide) (.inl (fun l hl h1 h2 => by rw [dir_none hno (mem_lines hl)] at h1; cases h1))
      rw [plain_load _ _ hno hsl] at hload
      have HL := Lib.hid hload
      have hcnt := want_count s.data.toList
      have hnl : (linesL s.data.toList).length ≤ 10000 := by have := linesL_len s.data.toList; omega
      obtain ⟨n, hn⟩ : ∃ n, n = (linesL s.data.toList).length := ⟨_, rfl⟩
      rw [← hn] at HL hcnt hnl
      obtain ⟨o, ho⟩ : ∃ o, o = wantL s.data.toList := ⟨_, rfl⟩
      rw [← ho] at HL hcnt
      have HO := Lib.hid ho
      have HCn := Lib.hid hcnt
      clear hload hn ho hcnt hno hsl
      go_wp2_with fail
      refine HL.out.mono ?_
      rintro e w2 ⟨lv, rfl, hrow, hb2⟩
      have HP := Lib.hid (Pls.ofOwn hrow)
      have hpl : (places [] 1 n).length = n := places_len _ _ _
      obtain ⟨la, lc, rfl⟩ := HP.out.slice
      rw [hpl] at HP ⊢
      have HB2 := Lib.hid (HB1.out.trans (hb2.mono HB1.out.size))
      clear hrow hb2 HL hpl HM1
      obtain ⟨w3, hw3⟩ : ∃ w3, w3 = (w2.alloc (.cells #[.string (B o), .slice la n lc] 27)).alloc (.cells #[.string ⟨#[]⟩, .int .i64 0] 29) := ⟨_, rfl⟩
      have hb3 : Below w2.heap.size w2 w3 := hw3 ▸ (((Below.refl _ _).alloc (Nat.le_refl _) _).alloc (by simp) _)
      have s3 : w3.heap[w2.heap.size]? = some (.cells #[.string (B o), .slice la n lc] 27 (0, 0)) := by
        rw [hw3, heap_alloc_lt _ _ _ (by simp)]; exact heap_alloc_at w2 _
      have x0 : w3.cell? ⟨w2.heap.size, 0, none⟩ = some (.string (B o)) := by rw [Lib.cell_of_heap s3]; rfl
      have x1 : w3.cell? ⟨w2.heap.size, 1, none⟩ = some (.slice la n lc) := by rw [Lib.cell_of_heap s3]; rfl
      have HP3 := Lib.hid (HP.out.below hb3)
      have HB3 := Lib.hid (HB2.out.trans (hb3.mono HB2.out.size))
      clear hb3 s3 HP
      have hE : s.toList.isEmpty = decide (s.data.toList = []) := by rw [Lib.toList_data]; cases s.data.toList <;> rfl
      have HHS := Lib.hid (fun W => Tryd.strings_HasSuffix s ⟨#[10]⟩ W (by omega))
      rw [show (⟨#[10]⟩ : ByteArray).data.toList = [10] from rfl, suffix_nl] at HHS
      have HCt := Lib.hid (fun (x : ByteArray) (hx : x.data.toList = o) W => (show Calls Tryd.prog 16 #[.string x, .string ⟨#[10]⟩] W fun e w' => e = .returned (.int .i64 (n : Int)) ∧ w' = W from by
        have h := Tryd.strings_Count_one x 10 W
        rw [show Lib.countByte x.data.toList 10 = n by rw [hx]; exact HCn.out] at h
        exact h))
      have hxx : ∀ x : ByteArray, x.data.toList = o → ((B o).toList == x.toList) = true := by
        intro x h; rw [Lib.toList_data, Lib.toList_data, h, B_list]; simp
      have HW3 := Lib.hid hw3
      clear hw3
      have x0' : w3.drew.cell? ⟨w2.heap.size, 0, none⟩ = some (.string (B o)) := x0
      have x1' : w3.drew.cell? ⟨w2.heap.size, 1, none⟩ = some (.slice la n lc) := x1
      have hrow3 : (n = 0) ∨ ∃ g, la = some ⟨g, 0, none⟩ ∧ g < w3.heap.size ∧ ∀ k, k < n → w3.cell? ⟨g, k * 2, none⟩ = some (.string ⟨#[]⟩) ∧ w3.cell? ⟨g, k * 2 + 1, none⟩ = some (.int .i64 ((k : Int) + 1)) := by
        rcases HP3.out with ⟨a, c, he, hL⟩ | ⟨g, c, he, hg, hcl⟩
        · left
          have := congrArg List.length hL
          rw [places_len] at this
          exact this
        · right
          injection he with he1 he2 he3
          refine ⟨g, he1, hg, fun k hk => ?_⟩
          have hp := List.getElem?_eq_getElem (l := places [] 1 n) (i := k) (by rw [places_len]; exact hk)
          have hpe := places_at [] n 1 k _ hp
          have := hcl k _ hp
          rw [hpe] at this
          simpa [B, Int.add_comm] using this
      have HRow3 := Lib.hid hrow3
      clear hrow3 HP3
      by_cases h0 : s.data.toList = []
      · obtain hwb : s.data.toList = o := by rw [HO.out, h0]; rfl
        have hem : s.toList.isEmpty = true := by rw [hE]; simpa using h0
        have hq := hxx _ hwb
        have HCw := Lib.hid (HCt.out _ hwb)
        clear hxx HCt hwb hE HO HCn
        go_wp2_with fail
        rw [← HW3.out]
        go_region_with (go_at_call 16; refine (HCw.out _).mono ?_; rintro e w4 ⟨rfl, rfl⟩)
        all_goals
          go_wp2_with fail
          have hrow3 := HRow3.out
          clear x0 x1 x0' x1' hq HCw HRow3
          rcases hrow3 with rfl | ⟨g, rfl, hg, hcl⟩
          · go_loopw [56] (fun v56 wr => v56 = .int .i64 0 ∧ Hid (Below w3.heap.size w3 wr)) (fun v56 _ => 0)
            case atStart => exact ⟨rfl, (Below.refl _ _).drew⟩
            case round =>
              obtain ⟨rfl, HB⟩ := hrel
              go_wp2_with fail
              go_ret
              exact ⟨rfl, HB3.out.trans (HB.out.mono HB3.out.size)⟩
          · have HCL := Lib.hid hcl
            have HG := Lib.hid hg
            clear hcl hg
            go_loopw [56] (fun v56 wr => ∃ k : Nat, v56 = .int .i64 (k : Int) ∧ k ≤ n ∧ Hid (Below w3.heap.size w3 wr)) (fun v56 _ => n - natO v56)
            case atStart => exact ⟨0, rfl, Nat.zero_le _, (Below.refl _ _).drew⟩
            case round =>
              obtain ⟨k, rfl, hk, HB⟩ := hrel
              by_cases hlt : k < n
              · have hltI : (k : Int) < (n : Int) := by omega
                have y0 : wr.cell? ⟨g, k * 2, none⟩ = some (.string ⟨#[]⟩) := (HB.out.cell (p := ⟨g, k * 2, none⟩) HG.out).trans (HCL.out k hlt).1
                have y1 : wr.cell? ⟨g, k * 2 + 1, none⟩ = some (.int .i64 ((k : Int) + 1)) := (HB.out.cell (p := ⟨g, k * 2 + 1, none⟩) HG.out).trans (HCL.out k hlt).2
                go_wp2_with fail
                go_roundw
                case rel => exact ⟨k + 1, rfl, by omega, HB.out.alloc HB.out.size _⟩
                case measure => simp only [natO]; omega
              · have hltI : (n : Int) ≤ (k : Int) := by omega
                go_wp2_with fail
                go_ret
                exact ⟨rfl, HB3.out.trans (HB.out.mono HB3.out.size)⟩
      · by_cases h1 : s.data.toList.getLast? = some 10
        · obtain hwb : s.data.toList = o := by rw [HO.out]; unfold wantL; rw [if_neg (fun h => h.2 h1)]
          have hem : s.toList.isEmpty = false := by rw [hE]; simpa using h0
          rw [decide_eq_true h1] at HHS
          have hq := hxx _ hwb
          have HCw := Lib.hid (HCt.out _ hwb)
          clear hxx HCt hwb hE HO HCn
          go_wp2_with fail
          rw [← HW3.out]
          refine (HHS.out _).mono ?_
          rintro e w3 ⟨rfl, rfl⟩
          clear HHS
          go_wp2_with fail
          go_region_with (go_at_call 16; refine (HCw.out _).mono ?_; rintro e w4 ⟨rfl, rfl⟩)
          all_goals
            go_wp2_with fail
            have hrow3 := HRow3.out
            clear x0 x1 x0' x1' hq HCw HRow3
            rcases hrow3 with rfl | ⟨g, rfl, hg, hcl⟩
            · go_loopw [56] (fun v56 wr => v56 = .int .i64 0 ∧ Hid (Below w3.heap.size w3 wr)) (fun v56 _ => 0)
              case atStart => exact ⟨rfl, (Below.refl _ _).drew⟩
              case round =>
                obtain ⟨rfl, HB⟩ := hrel
                go_wp2_with fail
                go_ret
                exact ⟨rfl, HB3.out.trans (HB.out.mono HB3.out.size)⟩
            · have HCL := Lib.hid hcl
              have HG := Lib.hid hg
              clear hcl hg
              go_loopw [56] (fun v56 wr => ∃ k : Nat, v56 = .int .i64 (k : Int) ∧ k ≤ n ∧ Hid (Below w3.heap.size w3 wr)) (fun v56 _ => n - natO v56)
              case atStart => exact ⟨0, rfl, Nat.zero_le _, (Below.refl _ _).drew⟩
              case round =>
                obtain ⟨k, rfl, hk, HB⟩ := hrel
                by_cases hlt : k < n
                · have hltI : (k : Int) < (n : Int) := by omega
                  have y0 : wr.cell? ⟨g, k * 2, none⟩ = some (.string ⟨#[]⟩) := (HB.out.cell (p := ⟨g, k * 2, none⟩) HG.out).trans (HCL.out k hlt).1
                  have y1 : wr.cell? ⟨g, k * 2 + 1, none⟩ = some (.int .i64 ((k : Int) + 1)) := (HB.out.cell (p := ⟨g, k * 2 + 1, none⟩) HG.out).trans (HCL.out k hlt).2
                  go_wp2_with fail
                  go_roundw
                  case rel => exact ⟨k + 1, rfl, by omega, HB.out.alloc HB.out.size _⟩
                  case measure => simp only [natO]; omega
                · have hltI : (n : Int) ≤ (k : Int) := by omega
                  go_wp2_with fail
                  go_ret
                  exact ⟨rfl, HB3.out.trans (HB.out.mono HB3.out.size)⟩
        · obtain hwb : (s ++ ⟨#[10]⟩).data.toList = o := by rw [HO.out]; unfold wantL; rw [if_pos ⟨h0, h1⟩]; simp [ByteArray.data_append]
          have hem : s.toList.isEmpty = false := by rw [hE]; simpa using h0
          rw [decide_eq_false h1] at HHS
          have hq := hxx _ hwb
          have HCw := Lib.hid (HCt.out _ hwb)
          clear hxx HCt hwb hE HO HCn
          go_wp2_with fail
          rw [← HW3.out]
          refine (HHS.out _).mono ?_
          rintro e w3 ⟨rfl, rfl⟩
          clear HHS
          go_wp2_with fail
          go_region_with (go_at_call 16; refine (HCw.out _).mono ?_; rintro e w4 ⟨rfl, rfl⟩)
          all_goals
            go_wp2_with fail
            have hrow3 := HRow3.out
            clear x0 x1 x0' x1' hq HCw HRow3
            rcases hrow3 with rfl | ⟨g, rfl, hg, hcl⟩
            · go_loopw [56] (fun v56 wr => v56 = .int .i64 0 ∧ Hid (Below w3.heap.size w3 wr)) (fun v56 _ => 0)
              case atStart => exact ⟨rfl, (Below.refl _ _).drew⟩
              case round =>
                obtain ⟨rfl, HB⟩ := hrel
                go_wp2_with fail
                go_ret
                exact ⟨rfl, HB3.out.trans (HB.out.mono HB3.out.size)⟩
            · have HCL := Lib.hid hcl
              have HG := Lib.hid hg
              clear hcl hg
              go_loopw [56] (fun v56 wr => ∃ k : Nat, v56 = .int .i64 (k : Int) ∧ k ≤ n ∧ Hid (Below w3.heap.size w3 wr)) (fun v56 _ => n - natO v56)
              case atStart => exact ⟨0, rfl, Nat.zero_le _, (Below.refl _ _).drew⟩
              case round =>
                obtain ⟨k, rfl, hk, HB⟩ := hrel
                by_cases hlt : k < n
                · have hltI : (k : Int) < (n : Int) := by omega
                  have y0 : wr.cell? ⟨g, k * 2, none⟩ = some (.string ⟨#[]⟩) := (HB.out.cell (p := ⟨g, k * 2, none⟩) HG.out).trans (HCL.out k hlt).1
                  have y1 : wr.cell? ⟨g, k * 2 + 1, none⟩ = some (.int .i64 ((k : Int) + 1)) := (HB.out.cell (p := ⟨g, k * 2 + 1, none⟩) HG.out).trans (HCL.out k hlt).2
                  go_wp2_with fail
                  go_roundw
                  case rel => exact ⟨k + 1, rfl, by omega, HB.out.alloc HB.out.size _⟩
                  case measure => simp only [natO]; omega
                · have hltI : (n : Int) ≤ (k : Int) := by omega
                  go_wp2_with fail
                  go_ret
                  exact ⟨rfl, HB3.out.trans (HB.out.mono HB3.out.size)⟩
end Go.Proofs.YtmhjfdnpmfhmjaaDoor
