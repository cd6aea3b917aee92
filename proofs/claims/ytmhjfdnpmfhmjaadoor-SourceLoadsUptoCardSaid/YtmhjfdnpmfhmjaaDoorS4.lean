/- Package source: directive. -/
import Derived.Test.YtmhjfdnpmfhmjaaDoorS3
import Derived.Laws.BitsAllLaws
namespace Go.Proofs.YtmhjfdnpmfhmjaaDoor
open Go.RowKit
set_option linter.unusedVariables false

theorem B_get {c : UInt8} {t : Str} (h : 0 < (B (c :: t)).size) : (B (c :: t))[0].toNat = c.toNat := rfl
theorem B_get0 {l : Str} {c : UInt8} (hc : l.head? = some c) (h : 0 < (B l).size) : (B l)[0].toNat = c.toNat := by
  cases l with
  | nil => cases hc
  | cons a t => cases hc; rfl
theorem B_getl {l : Str} {c : UInt8} {n : Nat} (hn : l.length = n + 1) (hc : l.getLast? = some c) (h : n < (B l).size) : (B l)[n].toNat = c.toNat := by
  have e : l[n]? = some c := by rw [← hc, List.getLast?_eq_getElem?, hn]; rfl
  have h2 : n < l.length := by omega
  rw [List.getElem?_eq_getElem h2] at e
  show (l.toArray[n]'(by simpa using h2)).toNat = c.toNat
  rw [List.getElem_toArray, Option.some.inj e]
theorem B_extract {l : Str} {n : Nat} (hn : l.length = n + 1) : (B l).extract 1 n = B ((l.drop 1).dropLast) := by
  have h : ((B l).extract 1 n).data.toList = (l.drop 1).dropLast := by
    rw [ByteArray.data_extract]
    simp [B, List.dropLast_eq_take, hn]
  rw [← h, B_self]

set_option maxHeartbeats 4000000 in
set_option maxRecDepth 100000 in
/-- no directive at all -/
theorem directive_no (s : ByteArray) (w : World) (h : incW.isPrefixOf (trimBl s.data.toList) = false) :
    Calls Tryd.prog 28 #[.string s] w fun e w' => e = .returned (.tuple #[.string (B []), .bool false, .bool false]) ∧ Below w.heap.size w w' := by
  have HT := Lib.hid (TrimLeft_bl s w)
  have hc0 := fun W => CutPrefix_inc (B (trimBl s.data.toList)) W
  rw [B_list, h] at hc0
  have HC := Lib.hid hc0
  clear hc0
  generalize trimBl s.data.toList = r at *
  clear h
  go_enter Tryd.func28, Tryd.ntmps28
  go_wp2_with fail
  refine HT.out.mono ?_
  rintro e w1 ⟨rfl, hb⟩
  have HB := Lib.hid hb
  clear hb
  go_wp2_with fail
  refine (HC.out _).mono ?_
  rintro e _ ⟨rfl, rfl⟩
  go_wp2_with fail
  go_ret3
  exact ⟨rfl, HB.out⟩

theorem dir_ways (tr rs wd : Str) : tr = rs ∨ (tr ≠ rs ∧ wd.length < 2) ∨ (tr ≠ rs ∧ 2 ≤ wd.length ∧ wd.head? ≠ some 34) ∨ (tr ≠ rs ∧ 2 ≤ wd.length ∧ wd.head? = some 34 ∧ wd.getLast? ≠ some 34) ∨ (tr ≠ rs ∧ 2 ≤ wd.length ∧ wd.head? = some 34 ∧ wd.getLast? = some 34) := by
  by_cases h1 : tr = rs
  · exact .inl h1
  · rcases Nat.lt_or_ge wd.length 2 with h2 | h2
    · exact .inr (.inl ⟨h1, h2⟩)
    · by_cases h3 : wd.head? = some 34
      · by_cases h4 : wd.getLast? = some 34
        · exact .inr (.inr (.inr (.inr ⟨h1, h2, h3, h4⟩)))
        · exact .inr (.inr (.inr (.inl ⟨h1, h2, h3, h4⟩)))
      · exact .inr (.inr (.inl ⟨h1, h2, h3⟩))

set_option maxHeartbeats 8000000 in
set_option maxRecDepth 100000 in
/-- a letter behind the word -/
theorem directive_letter (s : ByteArray) (w : World) (h : incW.isPrefixOf (trimBl s.data.toList) = true) (h2 : headWord ((trimBl s.data.toList).drop 8) = true) :
    Calls Tryd.prog 28 #[.string s] w fun e w' => e = .returned (.tuple #[.string (B []), .bool false, .bool false]) ∧ Below w.heap.size w w' := by
  have HT := Lib.hid (TrimLeft_bl s w)
  have hc0 := fun W => CutPrefix_inc (B (trimBl s.data.toList)) W
  rw [B_list, h, if_pos rfl] at hc0
  have HC := Lib.hid hc0
  clear hc0
  generalize trimBl s.data.toList = r at *
  obtain ⟨c, t, hr⟩ : ∃ c t, r.drop 8 = c :: t := by
    cases hd : r.drop 8 with
    | nil => rw [hd] at h2; cases h2
    | cons c t => exact ⟨c, t, rfl⟩
  rw [hr] at h2 HC
  clear hr h
  have hlt : c.toNat < 256 := c.toNat_lt
  have hor : bits .or .u8 (c.toNat : Int) 32 = ((c.toNat ||| 32 : Nat) : Int) := u8_or_nat c.toNat 32 hlt (by decide)
  have hne : (B (c :: t)).toList.isEmpty = false := by rw [B_emp]; rfl
  have hpos : 0 < (B (c :: t)).size := by rw [B_size]; simp
  have hg : (B (c :: t))[0].toNat = c.toNat := rfl
  have h95 : (c == 95) = decide (c.toNat = 95) := by
    by_cases e : c = 95
    · subst e; rfl
    · rw [beq_eq_false_iff_ne.2 e, decide_eq_false]
      intro h; exact e (UInt8.toNat.inj h)
  change (c == 95 || (decide (48 ≤ c.toNat) && decide (c.toNat ≤ 57)) || (decide (97 ≤ c.toNat ||| 32) && decide (c.toNat ||| 32 ≤ 122))) = _ at h2
  rw [h95] at h2
  generalize c.toNat ||| 32 = y at *
  generalize c.toNat = x at *
  clear h95
  simp only [Bool.or_eq_true, Bool.and_eq_true, decide_eq_true_eq] at h2
  generalize B (c :: t) = rest at *
  by_cases e1 : x = 95
  · have f1 : ((x : Int) == 95) = true := by simp; omega
    clear h2 hlt
    go_enter Tryd.func28, Tryd.ntmps28
    go_wp2_with fail
    refine HT.out.mono ?_
    rintro e w1 ⟨rfl, hb⟩
    have HB := Lib.hid hb
    clear hb
    go_wp2_with fail
    refine (HC.out _).mono ?_
    rintro e _ ⟨rfl, rfl⟩
    go_wp2_with fail
    go_ret3
    exact ⟨rfl, HB.out⟩
  · by_cases e2 : 48 ≤ x ∧ x ≤ 57
    · have f1 : ((x : Int) == 95) = false := by simp; omega
      have f2 : decide ((48 : Int) ≤ (x : Int)) = true := by simp; omega
      have f3 : decide ((x : Int) ≤ 57) = true := by simp; omega
      clear h2 hlt
      go_enter Tryd.func28, Tryd.ntmps28
      go_wp2_with fail
      refine HT.out.mono ?_
      rintro e w1 ⟨rfl, hb⟩
      have HB := Lib.hid hb
      clear hb
      go_wp2_with fail
      refine (HC.out _).mono ?_
      rintro e _ ⟨rfl, rfl⟩
      go_wp2_with fail
      go_ret3
      exact ⟨rfl, HB.out⟩
    · by_cases e3 : 48 ≤ x
      · have f1 : ((x : Int) == 95) = false := by simp; omega
        have f2 : decide ((48 : Int) ≤ (x : Int)) = true := by simp; omega
        have f3 : decide ((x : Int) ≤ 57) = false := by simp; omega
        have f4 : decide ((97 : Int) ≤ (y : Int)) = true := by simp; omega
        have f5 : decide ((y : Int) ≤ 122) = true := by simp; omega
        clear h2 hlt
        go_enter Tryd.func28, Tryd.ntmps28
        go_wp2_with fail
        refine HT.out.mono ?_
        rintro e w1 ⟨rfl, hb⟩
        have HB := Lib.hid hb
        clear hb
        go_wp2_with fail
        refine (HC.out _).mono ?_
        rintro e _ ⟨rfl, rfl⟩
        go_wp2_with fail
        go_ret3
        exact ⟨rfl, HB.out⟩
      · have f1 : ((x : Int) == 95) = false := by simp; omega
        have f2 : decide ((48 : Int) ≤ (x : Int)) = false := by simp; omega
        have f4 : decide ((97 : Int) ≤ (y : Int)) = true := by simp; omega
        have f5 : decide ((y : Int) ≤ 122) = true := by simp; omega
        clear h2 hlt
        go_enter Tryd.func28, Tryd.ntmps28
        go_wp2_with fail
        refine HT.out.mono ?_
        rintro e w1 ⟨rfl, hb⟩
        have HB := Lib.hid hb
        clear hb
        go_wp2_with fail
        refine (HC.out _).mono ?_
        rintro e _ ⟨rfl, rfl⟩
        go_wp2_with fail
        go_ret3
        exact ⟨rfl, HB.out⟩

set_option maxHeartbeats 8000000 in
set_option maxRecDepth 100000 in
/-- no letter behind the word -/
theorem directive_word (s : ByteArray) (w : World) (hs : s.size ≤ 1000000) (h : incW.isPrefixOf (trimBl s.data.toList) = true) (h2 : headWord ((trimBl s.data.toList).drop 8) = false) (q : Str × Bool × Bool)
    (hq : q = if trimBl ((trimBl s.data.toList).drop 8) = (trimBl s.data.toList).drop 8 ∨ (Lib.trimS ((trimBl s.data.toList).drop 8) blank).length < 2 ∨ (Lib.trimS ((trimBl s.data.toList).drop 8) blank).head? ≠ some 34 ∨ (Lib.trimS ((trimBl s.data.toList).drop 8) blank).getLast? ≠ some 34 then ([], true, false)
      else (((Lib.trimS ((trimBl s.data.toList).drop 8) blank).drop 1).dropLast, true, !(((Lib.trimS ((trimBl s.data.toList).drop 8) blank).drop 1).dropLast).contains 34)) :
    Calls Tryd.prog 28 #[.string s] w fun e w' => e = .returned (.tuple #[.string (B q.1), .bool q.2.1, .bool q.2.2]) ∧ Below w.heap.size w w' := by
  have HT := Lib.hid (TrimLeft_bl s w)
  have hc0 := fun W => CutPrefix_inc (B (trimBl s.data.toList)) W
  rw [B_list, h, if_pos rfl] at hc0
  have HC := Lib.hid hc0
  clear hc0
  have hrl : ((trimBl s.data.toList).drop 8).length ≤ 1000000 := by
    have h1 : (trimBl s.data.toList).length ≤ s.data.toList.length := (List.dropWhile_sublist _).length_le
    have h3 : s.data.toList.length = s.size := by simp
    rw [List.length_drop]; omega
  obtain ⟨rs, hrs⟩ : ∃ rs, rs = (trimBl s.data.toList).drop 8 := ⟨_, rfl⟩
  rw [← hrs] at HC h2 hq hrl
  clear hrs h
  generalize trimBl s.data.toList = r at *
  have hT2 := fun W => Trim_bl (B rs) W (by rw [B_size]; exact hrl)
  have hT1 := fun W => TrimLeft_bl (B rs) W
  rw [B_list] at hT2 hT1
  have HT2 := Lib.hid hT2
  have HT1 := Lib.hid hT1
  have hwl : (Lib.trimS rs blank).length ≤ 1000000 := by
    refine Nat.le_trans ?_ hrl
    unfold Lib.trimS Lib.trimLeftS Lib.trimRightS
    refine Nat.le_trans (List.dropWhile_sublist _).length_le ?_
    rw [List.length_reverse]
    exact Nat.le_trans (List.dropWhile_sublist _).length_le (by simp)
  clear hT2 hT1 hrl
  generalize Lib.trimS rs blank = wd at *
  have hEq : ((B (trimBl rs)).toList == (B rs).toList) = decide (trimBl rs = rs) := by rw [B_beq]; by_cases e : trimBl rs = rs <;> simp [e]
  generalize trimBl rs = tr at *
  have HQ := Lib.hid hq
  clear hq
  have hcase := dir_ways tr rs wd
  cases rs with
  | nil =>
    have hne : (B []).toList.isEmpty = true := by rw [B_emp]; rfl
    rcases dir_ways tr [] wd with d | d | d | d | d
    · have hE : ((B tr).toList == (B []).toList) = true := by rw [hEq]; simpa using d
      obtain rfl : q = ([], true, false) := by rw [HQ.out, if_pos (.inl d)]
      clear hEq HQ d hcase hwl
      clear h2
      obtain ⟨rest, hrest⟩ : ∃ x, x = B [] := ⟨_, rfl⟩
      rw [← hrest] at HC HT2 HT1 hne hE
      clear hrest
      go_enter Tryd.func28, Tryd.ntmps28
      go_wp2_with fail
      refine HT.out.mono ?_
      rintro e w1 ⟨rfl, hb⟩
      have HB := Lib.hid hb
      clear hb
      go_wp2_with fail
      refine (HC.out _).mono ?_
      rintro e _ ⟨rfl, rfl⟩
      go_wp2_with fail
      go_wp2_with fail
      refine (HT2.out _).mono ?_
      rintro e w2 ⟨rfl, hb2⟩
      have HB2 := Lib.hid (HB.out.trans (hb2.mono HB.out.size))
      clear hb2
      go_wp2_with fail
      refine (HT1.out _).mono ?_
      rintro e w3 ⟨rfl, hb3⟩
      have HB3 := Lib.hid (HB2.out.trans (hb3.mono HB2.out.size))
      clear hb3
      go_wp2_with fail
      all_goals go_ret3
      all_goals exact ⟨rfl, HB3.out⟩
    · have hE : ((B tr).toList == (B []).toList) = false := by rw [hEq]; simpa using d.1
      obtain rfl : q = ([], true, false) := by rw [HQ.out, if_pos (.inr (.inl d.2))]
      have hl2 : decide (((B wd).size : Int) < 2) = true := by rw [B_size]; have := d.2; simp; omega
      clear hEq HQ d hcase hwl
      clear h2
      obtain ⟨rest, hrest⟩ : ∃ x, x = B [] := ⟨_, rfl⟩
      rw [← hrest] at HC HT2 HT1 hne hE
      clear hrest
      go_enter Tryd.func28, Tryd.ntmps28
      go_wp2_with fail
      refine HT.out.mono ?_
      rintro e w1 ⟨rfl, hb⟩
      have HB := Lib.hid hb
      clear hb
      go_wp2_with fail
      refine (HC.out _).mono ?_
      rintro e _ ⟨rfl, rfl⟩
      go_wp2_with fail
      go_wp2_with fail
      refine (HT2.out _).mono ?_
      rintro e w2 ⟨rfl, hb2⟩
      have HB2 := Lib.hid (HB.out.trans (hb2.mono HB.out.size))
      clear hb2
      go_wp2_with fail
      refine (HT1.out _).mono ?_
      rintro e w3 ⟨rfl, hb3⟩
      have HB3 := Lib.hid (HB2.out.trans (hb3.mono HB2.out.size))
      clear hb3
      go_wp2_with fail
      all_goals go_ret3
      all_goals exact ⟨rfl, HB3.out⟩
    · have hE : ((B tr).toList == (B []).toList) = false := by rw [hEq]; simpa using d.1
      obtain rfl : q = ([], true, false) := by rw [HQ.out, if_pos (.inr (.inr (.inl d.2.2)))]
      have hl2 : decide (((B wd).size : Int) < 2) = false := by rw [B_size]; have := d.2.1; simp; omega
      have hp0 : 0 < (B wd).size := by rw [B_size]; omega
      obtain ⟨c0, hc0⟩ : ∃ c0, wd.head? = some c0 := by cases wd with | nil => have := d.2.1; simp at this | cons a l => exact ⟨a, rfl⟩
      have hg0 := B_get0 hc0 hp0
      have hq0 : ((c0.toNat : Int) != 34) = true := by
        rw [bne_iff_ne]; intro e; exact d.2.2 (by rw [hc0]; congr 1; exact UInt8.toNat.inj (show c0.toNat = 34 by omega))
      generalize c0.toNat = v0 at *
      clear hEq HQ d hcase hwl
      clear h2
      obtain ⟨rest, hrest⟩ : ∃ x, x = B [] := ⟨_, rfl⟩
      rw [← hrest] at HC HT2 HT1 hne hE
      clear hrest
      go_enter Tryd.func28, Tryd.ntmps28
      go_wp2_with fail
      refine HT.out.mono ?_
      rintro e w1 ⟨rfl, hb⟩
      have HB := Lib.hid hb
      clear hb
      go_wp2_with fail
      refine (HC.out _).mono ?_
      rintro e _ ⟨rfl, rfl⟩
      go_wp2_with fail
      go_wp2_with fail
      refine (HT2.out _).mono ?_
      rintro e w2 ⟨rfl, hb2⟩
      have HB2 := Lib.hid (HB.out.trans (hb2.mono HB.out.size))
      clear hb2
      go_wp2_with fail
      refine (HT1.out _).mono ?_
      rintro e w3 ⟨rfl, hb3⟩
      have HB3 := Lib.hid (HB2.out.trans (hb3.mono HB2.out.size))
      clear hb3
      go_wp2_with fail
      all_goals go_ret3
      all_goals exact ⟨rfl, HB3.out⟩
    · have hE : ((B tr).toList == (B []).toList) = false := by rw [hEq]; simpa using d.1
      obtain rfl : q = ([], true, false) := by rw [HQ.out, if_pos (.inr (.inr (.inr d.2.2.2)))]
      have hl2 : decide (((B wd).size : Int) < 2) = false := by rw [B_size]; have := d.2.1; simp; omega
      have hp0 : 0 < (B wd).size := by rw [B_size]; omega
      have hg0 := B_get0 d.2.2.1 hp0
      obtain ⟨n, hn⟩ : ∃ n, wd.length = n + 1 := ⟨wd.length - 1, by have := d.2.1; omega⟩
      obtain ⟨c1, hc1⟩ : ∃ c1, wd.getLast? = some c1 := by cases wd with | nil => simp at hn | cons a l => exact ⟨_, List.getLast?_eq_some_getLast (by simp)⟩
      have hp1 : n < (B wd).size := by rw [B_size]; omega
      have hg1 := B_getl hn hc1 hp1
      have hq1 : ((c1.toNat : Int) != 34) = true := by
        rw [bne_iff_ne]; intro e; exact d.2.2.2 (by rw [hc1]; congr 1; exact UInt8.toNat.inj (show c1.toNat = 34 by omega))
      generalize c1.toNat = v1 at *
      have hsz : (B wd).size = n + 1 := by rw [B_size]; exact hn
      have hnB : n ≤ 1000000 := by omega
      clear hEq HQ d hcase hwl
      clear h2
      obtain ⟨rest, hrest⟩ : ∃ x, x = B [] := ⟨_, rfl⟩
      rw [← hrest] at HC HT2 HT1 hne hE
      clear hrest
      go_enter Tryd.func28, Tryd.ntmps28
      go_wp2_with fail
      refine HT.out.mono ?_
      rintro e w1 ⟨rfl, hb⟩
      have HB := Lib.hid hb
      clear hb
      go_wp2_with fail
      refine (HC.out _).mono ?_
      rintro e _ ⟨rfl, rfl⟩
      go_wp2_with fail
      go_wp2_with fail
      refine (HT2.out _).mono ?_
      rintro e w2 ⟨rfl, hb2⟩
      have HB2 := Lib.hid (HB.out.trans (hb2.mono HB.out.size))
      clear hb2
      go_wp2_with fail
      refine (HT1.out _).mono ?_
      rintro e w3 ⟨rfl, hb3⟩
      have HB3 := Lib.hid (HB2.out.trans (hb3.mono HB2.out.size))
      clear hb3
      go_wp2_with fail
      all_goals go_ret3
      all_goals exact ⟨rfl, HB3.out⟩
    · have hE : ((B tr).toList == (B []).toList) = false := by rw [hEq]; simpa using d.1
      have hl2 : decide (((B wd).size : Int) < 2) = false := by rw [B_size]; have := d.2.1; simp; omega
      have hp0 : 0 < (B wd).size := by rw [B_size]; omega
      have hg0 := B_get0 d.2.2.1 hp0
      obtain ⟨n, hn⟩ : ∃ n, wd.length = n + 1 := ⟨wd.length - 1, by have := d.2.1; omega⟩
      have hn1 : 1 ≤ n := by have := d.2.1; omega
      have hp1 : n < (B wd).size := by rw [B_size]; omega
      have hg1 := B_getl hn d.2.2.2 hp1
      obtain ⟨nm, hnm⟩ : ∃ nm, nm = (wd.drop 1).dropLast := ⟨_, rfl⟩
      have hx := B_extract hn
      rw [← hnm] at hx
      have hnl : nm.length ≤ 1000000 := by rw [hnm]; simp; omega
      have hqq := fun W => Contains_q (B nm) W (by rw [B_size]; exact hnl)
      rw [B_list] at hqq
      have HQQ := Lib.hid hqq
      obtain rfl : q = (nm, true, !nm.contains 34) := by
        rw [HQ.out, if_neg, hnm]
        intro h
        rcases h with h | h | h | h
        · exact d.1 h
        · have := d.2.1; omega
        · exact h d.2.2.1
        · exact h d.2.2.2
      generalize nm.contains 34 = cq at *
      have hsz : (B wd).size = n + 1 := by rw [B_size]; exact hn
      have hnB : n ≤ 1000000 := by omega
      clear hqq hnm hnl
      clear hEq HQ d hcase hwl
      clear h2
      obtain ⟨rest, hrest⟩ : ∃ x, x = B [] := ⟨_, rfl⟩
      rw [← hrest] at HC HT2 HT1 hne hE
      clear hrest
      go_enter Tryd.func28, Tryd.ntmps28
      go_wp2_with fail
      refine HT.out.mono ?_
      rintro e w1 ⟨rfl, hb⟩
      have HB := Lib.hid hb
      clear hb
      go_wp2_with fail
      refine (HC.out _).mono ?_
      rintro e _ ⟨rfl, rfl⟩
      go_wp2_with fail
      go_wp2_with fail
      refine (HT2.out _).mono ?_
      rintro e w2 ⟨rfl, hb2⟩
      have HB2 := Lib.hid (HB.out.trans (hb2.mono HB.out.size))
      clear hb2
      go_wp2_with fail
      refine (HT1.out _).mono ?_
      rintro e w3 ⟨rfl, hb3⟩
      have HB3 := Lib.hid (HB2.out.trans (hb3.mono HB2.out.size))
      clear hb3
      go_wp2_with fail
      refine (HQQ.out _).mono ?_
      rintro e _ ⟨rfl, rfl⟩
      go_wp2_with fail
      go_ret3
      exact ⟨rfl, HB3.out⟩
  | cons c t =>
    have hlt : c.toNat < 256 := c.toNat_lt
    have hor : bits .or .u8 (c.toNat : Int) 32 = ((c.toNat ||| 32 : Nat) : Int) := u8_or_nat c.toNat 32 hlt (by decide)
    have hne : (B (c :: t)).toList.isEmpty = false := by rw [B_emp]; rfl
    have hpos : 0 < (B (c :: t)).size := by rw [B_size]; simp
    have hg : (B (c :: t))[0].toNat = c.toNat := rfl
    have h95 : (c == 95) = decide (c.toNat = 95) := by
      by_cases e : c = 95
      · subst e; rfl
      · rw [beq_eq_false_iff_ne.2 e, decide_eq_false]
        intro h; exact e (UInt8.toNat.inj h)
    change (c == 95 || (decide (48 ≤ c.toNat) && decide (c.toNat ≤ 57)) || (decide (97 ≤ c.toNat ||| 32) && decide (c.toNat ||| 32 ≤ 122))) = _ at h2
    rw [h95] at h2
    generalize c.toNat ||| 32 = y at *
    generalize c.toNat = x at *
    clear h95
    simp only [Bool.or_eq_false_iff, Bool.and_eq_false_iff, decide_eq_false_iff_not] at h2
    obtain ⟨⟨g1, g2⟩, g3⟩ := h2
    have hways : (x < 48 ∧ y < 97) ∨ (x < 48 ∧ 97 ≤ y ∧ 122 < y) ∨ (48 ≤ x ∧ 57 < x ∧ y < 97) ∨ (48 ≤ x ∧ 57 < x ∧ 97 ≤ y ∧ 122 < y) := by omega
    rcases hways with hw | hw | hw | hw
    · have f1 : ((x : Int) == 95) = false := by simp; omega
      have f2 : decide ((48 : Int) ≤ (x : Int)) = false := by simp; omega
      have f4 : decide ((97 : Int) ≤ (y : Int)) = false := by simp; omega
      clear g1 g2 g3 hw
      rcases dir_ways tr (c :: t) wd with d | d | d | d | d
      · have hE : ((B tr).toList == (B (c :: t)).toList) = true := by rw [hEq]; simpa using d
        obtain rfl : q = ([], true, false) := by rw [HQ.out, if_pos (.inl d)]
        clear hEq HQ d hcase hwl
        clear hlt
        generalize B (c :: t) = rest at *
        go_enter Tryd.func28, Tryd.ntmps28
        go_wp2_with fail
        refine HT.out.mono ?_
        rintro e w1 ⟨rfl, hb⟩
        have HB := Lib.hid hb
        clear hb
        go_wp2_with fail
        refine (HC.out _).mono ?_
        rintro e _ ⟨rfl, rfl⟩
        go_wp2_with fail
        go_wp2_with fail
        refine (HT2.out _).mono ?_
        rintro e w2 ⟨rfl, hb2⟩
        have HB2 := Lib.hid (HB.out.trans (hb2.mono HB.out.size))
        clear hb2
        go_wp2_with fail
        refine (HT1.out _).mono ?_
        rintro e w3 ⟨rfl, hb3⟩
        have HB3 := Lib.hid (HB2.out.trans (hb3.mono HB2.out.size))
        clear hb3
        go_wp2_with fail
        all_goals go_ret3
        all_goals exact ⟨rfl, HB3.out⟩
      · have hE : ((B tr).toList == (B (c :: t)).toList) = false := by rw [hEq]; simpa using d.1
        obtain rfl : q = ([], true, false) := by rw [HQ.out, if_pos (.inr (.inl d.2))]
        have hl2 : decide (((B wd).size : Int) < 2) = true := by rw [B_size]; have := d.2; simp; omega
        clear hEq HQ d hcase hwl
        clear hlt
        generalize B (c :: t) = rest at *
        go_enter Tryd.func28, Tryd.ntmps28
        go_wp2_with fail
        refine HT.out.mono ?_
        rintro e w1 ⟨rfl, hb⟩
        have HB := Lib.hid hb
        clear hb
        go_wp2_with fail
        refine (HC.out _).mono ?_
        rintro e _ ⟨rfl, rfl⟩
        go_wp2_with fail
        go_wp2_with fail
        refine (HT2.out _).mono ?_
        rintro e w2 ⟨rfl, hb2⟩
        have HB2 := Lib.hid (HB.out.trans (hb2.mono HB.out.size))
        clear hb2
        go_wp2_with fail
        refine (HT1.out _).mono ?_
        rintro e w3 ⟨rfl, hb3⟩
        have HB3 := Lib.hid (HB2.out.trans (hb3.mono HB2.out.size))
        clear hb3
        go_wp2_with fail
        all_goals go_ret3
        all_goals exact ⟨rfl, HB3.out⟩
      · have hE : ((B tr).toList == (B (c :: t)).toList) = false := by rw [hEq]; simpa using d.1
        obtain rfl : q = ([], true, false) := by rw [HQ.out, if_pos (.inr (.inr (.inl d.2.2)))]
        have hl2 : decide (((B wd).size : Int) < 2) = false := by rw [B_size]; have := d.2.1; simp; omega
        have hp0 : 0 < (B wd).size := by rw [B_size]; omega
        obtain ⟨c0, hc0⟩ : ∃ c0, wd.head? = some c0 := by cases wd with | nil => have := d.2.1; simp at this | cons a l => exact ⟨a, rfl⟩
        have hg0 := B_get0 hc0 hp0
        have hq0 : ((c0.toNat : Int) != 34) = true := by
          rw [bne_iff_ne]; intro e; exact d.2.2 (by rw [hc0]; congr 1; exact UInt8.toNat.inj (show c0.toNat = 34 by omega))
        generalize c0.toNat = v0 at *
        clear hEq HQ d hcase hwl
        clear hlt
        generalize B (c :: t) = rest at *
        go_enter Tryd.func28, Tryd.ntmps28
        go_wp2_with fail
        refine HT.out.mono ?_
        rintro e w1 ⟨rfl, hb⟩
        have HB := Lib.hid hb
        clear hb
        go_wp2_with fail
        refine (HC.out _).mono ?_
        rintro e _ ⟨rfl, rfl⟩
        go_wp2_with fail
        go_wp2_with fail
        refine (HT2.out _).mono ?_
        rintro e w2 ⟨rfl, hb2⟩
        have HB2 := Lib.hid (HB.out.trans (hb2.mono HB.out.size))
        clear hb2
        go_wp2_with fail
        refine (HT1.out _).mono ?_
        rintro e w3 ⟨rfl, hb3⟩
        have HB3 := Lib.hid (HB2.out.trans (hb3.mono HB2.out.size))
        clear hb3
        go_wp2_with fail
        all_goals go_ret3
        all_goals exact ⟨rfl, HB3.out⟩
      · have hE : ((B tr).toList == (B (c :: t)).toList) = false := by rw [hEq]; simpa using d.1
        obtain rfl : q = ([], true, false) := by rw [HQ.out, if_pos (.inr (.inr (.inr d.2.2.2)))]
        have hl2 : decide (((B wd).size : Int) < 2) = false := by rw [B_size]; have := d.2.1; simp; omega
        have hp0 : 0 < (B wd).size := by rw [B_size]; omega
        have hg0 := B_get0 d.2.2.1 hp0
        obtain ⟨n, hn⟩ : ∃ n, wd.length = n + 1 := ⟨wd.length - 1, by have := d.2.1; omega⟩
        obtain ⟨c1, hc1⟩ : ∃ c1, wd.getLast? = some c1 := by cases wd with | nil => simp at hn | cons a l => exact ⟨_, List.getLast?_eq_some_getLast (by simp)⟩
        have hp1 : n < (B wd).size := by rw [B_size]; omega
        have hg1 := B_getl hn hc1 hp1
        have hq1 : ((c1.toNat : Int) != 34) = true := by
          rw [bne_iff_ne]; intro e; exact d.2.2.2 (by rw [hc1]; congr 1; exact UInt8.toNat.inj (show c1.toNat = 34 by omega))
        generalize c1.toNat = v1 at *
        have hsz : (B wd).size = n + 1 := by rw [B_size]; exact hn
        have hnB : n ≤ 1000000 := by omega
        clear hEq HQ d hcase hwl
        clear hlt
        generalize B (c :: t) = rest at *
        go_enter Tryd.func28, Tryd.ntmps28
        go_wp2_with fail
        refine HT.out.mono ?_
        rintro e w1 ⟨rfl, hb⟩
        have HB := Lib.hid hb
        clear hb
        go_wp2_with fail
        refine (HC.out _).mono ?_
        rintro e _ ⟨rfl, rfl⟩
        go_wp2_with fail
        go_wp2_with fail
        refine (HT2.out _).mono ?_
        rintro e w2 ⟨rfl, hb2⟩
        have HB2 := Lib.hid (HB.out.trans (hb2.mono HB.out.size))
        clear hb2
        go_wp2_with fail
        refine (HT1.out _).mono ?_
        rintro e w3 ⟨rfl, hb3⟩
        have HB3 := Lib.hid (HB2.out.trans (hb3.mono HB2.out.size))
        clear hb3
        go_wp2_with fail
        all_goals go_ret3
        all_goals exact ⟨rfl, HB3.out⟩
      · have hE : ((B tr).toList == (B (c :: t)).toList) = false := by rw [hEq]; simpa using d.1
        have hl2 : decide (((B wd).size : Int) < 2) = false := by rw [B_size]; have := d.2.1; simp; omega
        have hp0 : 0 < (B wd).size := by rw [B_size]; omega
        have hg0 := B_get0 d.2.2.1 hp0
        obtain ⟨n, hn⟩ : ∃ n, wd.length = n + 1 := ⟨wd.length - 1, by have := d.2.1; omega⟩
        have hn1 : 1 ≤ n := by have := d.2.1; omega
        have hp1 : n < (B wd).size := by rw [B_size]; omega
        have hg1 := B_getl hn d.2.2.2 hp1
        obtain ⟨nm, hnm⟩ : ∃ nm, nm = (wd.drop 1).dropLast := ⟨_, rfl⟩
        have hx := B_extract hn
        rw [← hnm] at hx
        have hnl : nm.length ≤ 1000000 := by rw [hnm]; simp; omega
        have hqq := fun W => Contains_q (B nm) W (by rw [B_size]; exact hnl)
        rw [B_list] at hqq
        have HQQ := Lib.hid hqq
        obtain rfl : q = (nm, true, !nm.contains 34) := by
          rw [HQ.out, if_neg, hnm]
          intro h
          rcases h with h | h | h | h
          · exact d.1 h
          · have := d.2.1; omega
          · exact h d.2.2.1
          · exact h d.2.2.2
        generalize nm.contains 34 = cq at *
        have hsz : (B wd).size = n + 1 := by rw [B_size]; exact hn
        have hnB : n ≤ 1000000 := by omega
        clear hqq hnm hnl
        clear hEq HQ d hcase hwl
        clear hlt
        generalize B (c :: t) = rest at *
        go_enter Tryd.func28, Tryd.ntmps28
        go_wp2_with fail
        refine HT.out.mono ?_
        rintro e w1 ⟨rfl, hb⟩
        have HB := Lib.hid hb
        clear hb
        go_wp2_with fail
        refine (HC.out _).mono ?_
        rintro e _ ⟨rfl, rfl⟩
        go_wp2_with fail
        go_wp2_with fail
        refine (HT2.out _).mono ?_
        rintro e w2 ⟨rfl, hb2⟩
        have HB2 := Lib.hid (HB.out.trans (hb2.mono HB.out.size))
        clear hb2
        go_wp2_with fail
        refine (HT1.out _).mono ?_
        rintro e w3 ⟨rfl, hb3⟩
        have HB3 := Lib.hid (HB2.out.trans (hb3.mono HB2.out.size))
        clear hb3
        go_wp2_with fail
        refine (HQQ.out _).mono ?_
        rintro e _ ⟨rfl, rfl⟩
        go_wp2_with fail
        go_ret3
        exact ⟨rfl, HB3.out⟩
    · have f1 : ((x : Int) == 95) = false := by simp; omega
      have f2 : decide ((48 : Int) ≤ (x : Int)) = false := by simp; omega
      have f4 : decide ((97 : Int) ≤ (y : Int)) = true := by simp; omega
      have f5 : decide ((y : Int) ≤ 122) = false := by simp; omega
      clear g1 g2 g3 hw
      rcases dir_ways tr (c :: t) wd with d | d | d | d | d
      · have hE : ((B tr).toList == (B (c :: t)).toList) = true := by rw [hEq]; simpa using d
        obtain rfl : q = ([], true, false) := by rw [HQ.out, if_pos (.inl d)]
        clear hEq HQ d hcase hwl
        clear hlt
        generalize B (c :: t) = rest at *
        go_enter Tryd.func28, Tryd.ntmps28
        go_wp2_with fail
        refine HT.out.mono ?_
        rintro e w1 ⟨rfl, hb⟩
        have HB := Lib.hid hb
        clear hb
        go_wp2_with fail
        refine (HC.out _).mono ?_
        rintro e _ ⟨rfl, rfl⟩
        go_wp2_with fail
        go_wp2_with fail
        refine (HT2.out _).mono ?_
        rintro e w2 ⟨rfl, hb2⟩
        have HB2 := Lib.hid (HB.out.trans (hb2.mono HB.out.size))
        clear hb2
        go_wp2_with fail
        refine (HT1.out _).mono ?_
        rintro e w3 ⟨rfl, hb3⟩
        have HB3 := Lib.hid (HB2.out.trans (hb3.mono HB2.out.size))
        clear hb3
        go_wp2_with fail
        all_goals go_ret3
        all_goals exact ⟨rfl, HB3.out⟩
      · have hE : ((B tr).toList == (B (c :: t)).toList) = false := by rw [hEq]; simpa using d.1
        obtain rfl : q = ([], true, false) := by rw [HQ.out, if_pos (.inr (.inl d.2))]
        have hl2 : decide (((B wd).size : Int) < 2) = true := by rw [B_size]; have := d.2; simp; omega
        clear hEq HQ d hcase hwl
        clear hlt
        generalize B (c :: t) = rest at *
        go_enter Tryd.func28, Tryd.ntmps28
        go_wp2_with fail
        refine HT.out.mono ?_
        rintro e w1 ⟨rfl, hb⟩
        have HB := Lib.hid hb
        clear hb
        go_wp2_with fail
        refine (HC.out _).mono ?_
        rintro e _ ⟨rfl, rfl⟩
        go_wp2_with fail
        go_wp2_with fail
        refine (HT2.out _).mono ?_
        rintro e w2 ⟨rfl, hb2⟩
        have HB2 := Lib.hid (HB.out.trans (hb2.mono HB.out.size))
        clear hb2
        go_wp2_with fail
        refine (HT1.out _).mono ?_
        rintro e w3 ⟨rfl, hb3⟩
        have HB3 := Lib.hid (HB2.out.trans (hb3.mono HB2.out.size))
        clear hb3
        go_wp2_with fail
        all_goals go_ret3
        all_goals exact ⟨rfl, HB3.out⟩
      · have hE : ((B tr).toList == (B (c :: t)).toList) = false := by rw [hEq]; simpa using d.1
        obtain rfl : q = ([], true, false) := by rw [HQ.out, if_pos (.inr (.inr (.inl d.2.2)))]
        have hl2 : decide (((B wd).size : Int) < 2) = false := by rw [B_size]; have := d.2.1; simp; omega
        have hp0 : 0 < (B wd).size := by rw [B_size]; omega
        obtain ⟨c0, hc0⟩ : ∃ c0, wd.head? = some c0 := by cases wd with | nil => have := d.2.1; simp at this | cons a l => exact ⟨a, rfl⟩
        have hg0 := B_get0 hc0 hp0
        have hq0 : ((c0.toNat : Int) != 34) = true := by
          rw [bne_iff_ne]; intro e; exact d.2.2 (by rw [hc0]; congr 1; exact UInt8.toNat.inj (show c0.toNat = 34 by omega))
        generalize c0.toNat = v0 at *
        clear hEq HQ d hcase hwl
        clear hlt
        generalize B (c :: t) = rest at *
        go_enter Tryd.func28, Tryd.ntmps28
        go_wp2_with fail
        refine HT.out.mono ?_
        rintro e w1 ⟨rfl, hb⟩
        have HB := Lib.hid hb
        clear hb
        go_wp2_with fail
        refine (HC.out _).mono ?_
        rintro e _ ⟨rfl, rfl⟩
        go_wp2_with fail
        go_wp2_with fail
        refine (HT2.out _).mono ?_
        rintro e w2 ⟨rfl, hb2⟩
        have HB2 := Lib.hid (HB.out.trans (hb2.mono HB.out.size))
        clear hb2
        go_wp2_with fail
        refine (HT1.out _).mono ?_
        rintro e w3 ⟨rfl, hb3⟩
        have HB3 := Lib.hid (HB2.out.trans (hb3.mono HB2.out.size))
        clear hb3
        go_wp2_with fail
        all_goals go_ret3
        all_goals exact ⟨rfl, HB3.out⟩
      · have hE : ((B tr).toList == (B (c :: t)).toList) = false := by rw [hEq]; simpa using d.1
        obtain rfl : q = ([], true, false) := by rw [HQ.out, if_pos (.inr (.inr (.inr d.2.2.2)))]
        have hl2 : decide (((B wd).size : Int) < 2) = false := by rw [B_size]; have := d.2.1; simp; omega
        have hp0 : 0 < (B wd).size := by rw [B_size]; omega
        have hg0 := B_get0 d.2.2.1 hp0
        obtain ⟨n, hn⟩ : ∃ n, wd.length = n + 1 := ⟨wd.length - 1, by have := d.2.1; omega⟩
        obtain ⟨c1, hc1⟩ : ∃ c1, wd.getLast? = some c1 := by cases wd with | nil => simp at hn | cons a l => exact ⟨_, List.getLast?_eq_some_getLast (by simp)⟩
        have hp1 : n < (B wd).size := by rw [B_size]; omega
        have hg1 := B_getl hn hc1 hp1
        have hq1 : ((c1.toNat : Int) != 34) = true := by
          rw [bne_iff_ne]; intro e; exact d.2.2.2 (by rw [hc1]; congr 1; exact UInt8.toNat.inj (show c1.toNat = 34 by omega))
        generalize c1.toNat = v1 at *
        have hsz : (B wd).size = n + 1 := by rw [B_size]; exact hn
        have hnB : n ≤ 1000000 := by omega
        clear hEq HQ d hcase hwl
        clear hlt
        generalize B (c :: t) = rest at *
        go_enter Tryd.func28, Tryd.ntmps28
        go_wp2_with fail
        refine HT.out.mono ?_
        rintro e w1 ⟨rfl, hb⟩
        have HB := Lib.hid hb
        clear hb
        go_wp2_with fail
        refine (HC.out _).mono ?_
        rintro e _ ⟨rfl, rfl⟩
        go_wp2_with fail
        go_wp2_with fail
        refine (HT2.out _).mono ?_
        rintro e w2 ⟨rfl, hb2⟩
        have HB2 := Lib.hid (HB.out.trans (hb2.mono HB.out.size))
        clear hb2
        go_wp2_with fail
        refine (HT1.out _).mono ?_
        rintro e w3 ⟨rfl, hb3⟩
        have HB3 := Lib.hid (HB2.out.trans (hb3.mono HB2.out.size))
        clear hb3
        go_wp2_with fail
        all_goals go_ret3
        all_goals exact ⟨rfl, HB3.out⟩
      · have hE : ((B tr).toList == (B (c :: t)).toList) = false := by rw [hEq]; simpa using d.1
        have hl2 : decide (((B wd).size : Int) < 2) = false := by rw [B_size]; have := d.2.1; simp; omega
        have hp0 : 0 < (B wd).size := by rw [B_size]; omega
        have hg0 := B_get0 d.2.2.1 hp0
        obtain ⟨n, hn⟩ : ∃ n, wd.length = n + 1 := ⟨wd.length - 1, by have := d.2.1; omega⟩
        have hn1 : 1 ≤ n := by have := d.2.1; omega
        have hp1 : n < (B wd).size := by rw [B_size]; omega
        have hg1 := B_getl hn d.2.2.2 hp1
        obtain ⟨nm, hnm⟩ : ∃ nm, nm = (wd.drop 1).dropLast := ⟨_, rfl⟩
        have hx := B_extract hn
        rw [← hnm] at hx
        have hnl : nm.length ≤ 1000000 := by rw [hnm]; simp; omega
        have hqq := fun W => Contains_q (B nm) W (by rw [B_size]; exact hnl)
        rw [B_list] at hqq
        have HQQ := Lib.hid hqq
        obtain rfl : q = (nm, true, !nm.contains 34) := by
          rw [HQ.out, if_neg, hnm]
          intro h
          rcases h with h | h | h | h
          · exact d.1 h
          · have := d.2.1; omega
          · exact h d.2.2.1
          · exact h d.2.2.2
        generalize nm.contains 34 = cq at *
        have hsz : (B wd).size = n + 1 := by rw [B_size]; exact hn
        have hnB : n ≤ 1000000 := by omega
        clear hqq hnm hnl
        clear hEq HQ d hcase hwl
        clear hlt
        generalize B (c :: t) = rest at *
        go_enter Tryd.func28, Tryd.ntmps28
        go_wp2_with fail
        refine HT.out.mono ?_
        rintro e w1 ⟨rfl, hb⟩
        have HB := Lib.hid hb
        clear hb
        go_wp2_with fail
        refine (HC.out _).mono ?_
        rintro e _ ⟨rfl, rfl⟩
        go_wp2_with fail
        go_wp2_with fail
        refine (HT2.out _).mono ?_
        rintro e w2 ⟨rfl, hb2⟩
        have HB2 := Lib.hid (HB.out.trans (hb2.mono HB.out.size))
        clear hb2
        go_wp2_with fail
        refine (HT1.out _).mono ?_
        rintro e w3 ⟨rfl, hb3⟩
        have HB3 := Lib.hid (HB2.out.trans (hb3.mono HB2.out.size))
        clear hb3
        go_wp2_with fail
        refine (HQQ.out _).mono ?_
        rintro e _ ⟨rfl, rfl⟩
        go_wp2_with fail
        go_ret3
        exact ⟨rfl, HB3.out⟩
    · have f1 : ((x : Int) == 95) = false := by simp; omega
      have f2 : decide ((48 : Int) ≤ (x : Int)) = true := by simp; omega
      have f3 : decide ((x : Int) ≤ 57) = false := by simp; omega
      have f4 : decide ((97 : Int) ≤ (y : Int)) = false := by simp; omega
      clear g1 g2 g3 hw
      rcases dir_ways tr (c :: t) wd with d | d | d | d | d
      · have hE : ((B tr).toList == (B (c :: t)).toList) = true := by rw [hEq]; simpa using d
        obtain rfl : q = ([], true, false) := by rw [HQ.out, if_pos (.inl d)]
        clear hEq HQ d hcase hwl
        clear hlt
        generalize B (c :: t) = rest at *
        go_enter Tryd.func28, Tryd.ntmps28
        go_wp2_with fail
        refine HT.out.mono ?_
        rintro e w1 ⟨rfl, hb⟩
        have HB := Lib.hid hb
        clear hb
        go_wp2_with fail
        refine (HC.out _).mono ?_
        rintro e _ ⟨rfl, rfl⟩
        go_wp2_with fail
        go_wp2_with fail
        refine (HT2.out _).mono ?_
        rintro e w2 ⟨rfl, hb2⟩
        have HB2 := Lib.hid (HB.out.trans (hb2.mono HB.out.size))
        clear hb2
        go_wp2_with fail
        refine (HT1.out _).mono ?_
        rintro e w3 ⟨rfl, hb3⟩
        have HB3 := Lib.hid (HB2.out.trans (hb3.mono HB2.out.size))
        clear hb3
        go_wp2_with fail
        all_goals go_ret3
        all_goals exact ⟨rfl, HB3.out⟩
      · have hE : ((B tr).toList == (B (c :: t)).toList) = false := by rw [hEq]; simpa using d.1
        obtain rfl : q = ([], true, false) := by rw [HQ.out, if_pos (.inr (.inl d.2))]
        have hl2 : decide (((B wd).size : Int) < 2) = true := by rw [B_size]; have := d.2; simp; omega
        clear hEq HQ d hcase hwl
        clear hlt
        generalize B (c :: t) = rest at *
        go_enter Tryd.func28, Tryd.ntmps28
        go_wp2_with fail
        refine HT.out.mono ?_
        rintro e w1 ⟨rfl, hb⟩
        have HB := Lib.hid hb
        clear hb
        go_wp2_with fail
        refine (HC.out _).mono ?_
        rintro e _ ⟨rfl, rfl⟩
        go_wp2_with fail
        go_wp2_with fail
        refine (HT2.out _).mono ?_
        rintro e w2 ⟨rfl, hb2⟩
        have HB2 := Lib.hid (HB.out.trans (hb2.mono HB.out.size))
        clear hb2
        go_wp2_with fail
        refine (HT1.out _).mono ?_
        rintro e w3 ⟨rfl, hb3⟩
        have HB3 := Lib.hid (HB2.out.trans (hb3.mono HB2.out.size))
        clear hb3
        go_wp2_with fail
        all_goals go_ret3
        all_goals exact ⟨rfl, HB3.out⟩
      · have hE : ((B tr).toList == (B (c :: t)).toList) = false := by rw [hEq]; simpa using d.1
        obtain rfl : q = ([], true, false) := by rw [HQ.out, if_pos (.inr (.inr (.inl d.2.2)))]
        have hl2 : decide (((B wd).size : Int) < 2) = false := by rw [B_size]; have := d.2.1; simp; omega
        have hp0 : 0 < (B wd).size := by rw [B_size]; omega
        obtain ⟨c0, hc0⟩ : ∃ c0, wd.head? = some c0 := by cases wd with | nil => have := d.2.1; simp at this | cons a l => exact ⟨a, rfl⟩
        have hg0 := B_get0 hc0 hp0
        have hq0 : ((c0.toNat : Int) != 34) = true := by
          rw [bne_iff_ne]; intro e; exact d.2.2 (by rw [hc0]; congr 1; exact UInt8.toNat.inj (show c0.toNat = 34 by omega))
        generalize c0.toNat = v0 at *
        clear hEq HQ d hcase hwl
        clear hlt
        generalize B (c :: t) = rest at *
        go_enter Tryd.func28, Tryd.ntmps28
        go_wp2_with fail
        refine HT.out.mono ?_
        rintro e w1 ⟨rfl, hb⟩
        have HB := Lib.hid hb
        clear hb
        go_wp2_with fail
        refine (HC.out _).mono ?_
        rintro e _ ⟨rfl, rfl⟩
        go_wp2_with fail
        go_wp2_with fail
        refine (HT2.out _).mono ?_
        rintro e w2 ⟨rfl, hb2⟩
        have HB2 := Lib.hid (HB.out.trans (hb2.mono HB.out.size))
        clear hb2
        go_wp2_with fail
        refine (HT1.out _).mono ?_
        rintro e w3 ⟨rfl, hb3⟩
        have HB3 := Lib.hid (HB2.out.trans (hb3.mono HB2.out.size))
        clear hb3
        go_wp2_with fail
        all_goals go_ret3
        all_goals exact ⟨rfl, HB3.out⟩
      · have hE : ((B tr).toList == (B (c :: t)).toList) = false := by rw [hEq]; simpa using d.1
        obtain rfl : q = ([], true, false) := by rw [HQ.out, if_pos (.inr (.inr (.inr d.2.2.2)))]
        have hl2 : decide (((B wd).size : Int) < 2) = false := by rw [B_size]; have := d.2.1; simp; omega
        have hp0 : 0 < (B wd).size := by rw [B_size]; omega
        have hg0 := B_get0 d.2.2.1 hp0
        obtain ⟨n, hn⟩ : ∃ n, wd.length = n + 1 := ⟨wd.length - 1, by have := d.2.1; omega⟩
        obtain ⟨c1, hc1⟩ : ∃ c1, wd.getLast? = some c1 := by cases wd with | nil => simp at hn | cons a l => exact ⟨_, List.getLast?_eq_some_getLast (by simp)⟩
        have hp1 : n < (B wd).size := by rw [B_size]; omega
        have hg1 := B_getl hn hc1 hp1
        have hq1 : ((c1.toNat : Int) != 34) = true := by
          rw [bne_iff_ne]; intro e; exact d.2.2.2 (by rw [hc1]; congr 1; exact UInt8.toNat.inj (show c1.toNat = 34 by omega))
        generalize c1.toNat = v1 at *
        have hsz : (B wd).size = n + 1 := by rw [B_size]; exact hn
        have hnB : n ≤ 1000000 := by omega
        clear hEq HQ d hcase hwl
        clear hlt
        generalize B (c :: t) = rest at *
        go_enter Tryd.func28, Tryd.ntmps28
        go_wp2_with fail
        refine HT.out.mono ?_
        rintro e w1 ⟨rfl, hb⟩
        have HB := Lib.hid hb
        clear hb
        go_wp2_with fail
        refine (HC.out _).mono ?_
        rintro e _ ⟨rfl, rfl⟩
        go_wp2_with fail
        go_wp2_with fail
        refine (HT2.out _).mono ?_
        rintro e w2 ⟨rfl, hb2⟩
        have HB2 := Lib.hid (HB.out.trans (hb2.mono HB.out.size))
        clear hb2
        go_wp2_with fail
        refine (HT1.out _).mono ?_
        rintro e w3 ⟨rfl, hb3⟩
        have HB3 := Lib.hid (HB2.out.trans (hb3.mono HB2.out.size))
        clear hb3
        go_wp2_with fail
        all_goals go_ret3
        all_goals exact ⟨rfl, HB3.out⟩
      · have hE : ((B tr).toList == (B (c :: t)).toList) = false := by rw [hEq]; simpa using d.1
        have hl2 : decide (((B wd).size : Int) < 2) = false := by rw [B_size]; have := d.2.1; simp; omega
        have hp0 : 0 < (B wd).size := by rw [B_size]; omega
        have hg0 := B_get0 d.2.2.1 hp0
        obtain ⟨n, hn⟩ : ∃ n, wd.length = n + 1 := ⟨wd.length - 1, by have := d.2.1; omega⟩
        have hn1 : 1 ≤ n := by have := d.2.1; omega
        have hp1 : n < (B wd).size := by rw [B_size]; omega
        have hg1 := B_getl hn d.2.2.2 hp1
        obtain ⟨nm, hnm⟩ : ∃ nm, nm = (wd.drop 1).dropLast := ⟨_, rfl⟩
        have hx := B_extract hn
        rw [← hnm] at hx
        have hnl : nm.length ≤ 1000000 := by rw [hnm]; simp; omega
        have hqq := fun W => Contains_q (B nm) W (by rw [B_size]; exact hnl)
        rw [B_list] at hqq
        have HQQ := Lib.hid hqq
        obtain rfl : q = (nm, true, !nm.contains 34) := by
          rw [HQ.out, if_neg, hnm]
          intro h
          rcases h with h | h | h | h
          · exact d.1 h
          · have := d.2.1; omega
          · exact h d.2.2.1
          · exact h d.2.2.2
        generalize nm.contains 34 = cq at *
        have hsz : (B wd).size = n + 1 := by rw [B_size]; exact hn
        have hnB : n ≤ 1000000 := by omega
        clear hqq hnm hnl
        clear hEq HQ d hcase hwl
        clear hlt
        generalize B (c :: t) = rest at *
        go_enter Tryd.func28, Tryd.ntmps28
        go_wp2_with fail
        refine HT.out.mono ?_
        rintro e w1 ⟨rfl, hb⟩
        have HB := Lib.hid hb
        clear hb
        go_wp2_with fail
        refine (HC.out _).mono ?_
        rintro e _ ⟨rfl, rfl⟩
        go_wp2_with fail
        go_wp2_with fail
        refine (HT2.out _).mono ?_
        rintro e w2 ⟨rfl, hb2⟩
        have HB2 := Lib.hid (HB.out.trans (hb2.mono HB.out.size))
        clear hb2
        go_wp2_with fail
        refine (HT1.out _).mono ?_
        rintro e w3 ⟨rfl, hb3⟩
        have HB3 := Lib.hid (HB2.out.trans (hb3.mono HB2.out.size))
        clear hb3
        go_wp2_with fail
        refine (HQQ.out _).mono ?_
        rintro e _ ⟨rfl, rfl⟩
        go_wp2_with fail
        go_ret3
        exact ⟨rfl, HB3.out⟩
    · have f1 : ((x : Int) == 95) = false := by simp; omega
      have f2 : decide ((48 : Int) ≤ (x : Int)) = true := by simp; omega
      have f3 : decide ((x : Int) ≤ 57) = false := by simp; omega
      have f4 : decide ((97 : Int) ≤ (y : Int)) = true := by simp; omega
      have f5 : decide ((y : Int) ≤ 122) = false := by simp; omega
      clear g1 g2 g3 hw
      rcases dir_ways tr (c :: t) wd with d | d | d | d | d
      · have hE : ((B tr).toList == (B (c :: t)).toList) = true := by rw [hEq]; simpa using d
        obtain rfl : q = ([], true, false) := by rw [HQ.out, if_pos (.inl d)]
        clear hEq HQ d hcase hwl
        clear hlt
        generalize B (c :: t) = rest at *
        go_enter Tryd.func28, Tryd.ntmps28
        go_wp2_with fail
        refine HT.out.mono ?_
        rintro e w1 ⟨rfl, hb⟩
        have HB := Lib.hid hb
        clear hb
        go_wp2_with fail
        refine (HC.out _).mono ?_
        rintro e _ ⟨rfl, rfl⟩
        go_wp2_with fail
        go_wp2_with fail
        refine (HT2.out _).mono ?_
        rintro e w2 ⟨rfl, hb2⟩
        have HB2 := Lib.hid (HB.out.trans (hb2.mono HB.out.size))
        clear hb2
        go_wp2_with fail
        refine (HT1.out _).mono ?_
        rintro e w3 ⟨rfl, hb3⟩
        have HB3 := Lib.hid (HB2.out.trans (hb3.mono HB2.out.size))
        clear hb3
        go_wp2_with fail
        all_goals go_ret3
        all_goals exact ⟨rfl, HB3.out⟩
      · have hE : ((B tr).toList == (B (c :: t)).toList) = false := by rw [hEq]; simpa using d.1
        obtain rfl : q = ([], true, false) := by rw [HQ.out, if_pos (.inr (.inl d.2))]
        have hl2 : decide (((B wd).size : Int) < 2) = true := by rw [B_size]; have := d.2; simp; omega
        clear hEq HQ d hcase hwl
        clear hlt
        generalize B (c :: t) = rest at *
        go_enter Tryd.func28, Tryd.ntmps28
        go_wp2_with fail
        refine HT.out.mono ?_
        rintro e w1 ⟨rfl, hb⟩
        have HB := Lib.hid hb
        clear hb
        go_wp2_with fail
        refine (HC.out _).mono ?_
        rintro e _ ⟨rfl, rfl⟩
        go_wp2_with fail
        go_wp2_with fail
        refine (HT2.out _).mono ?_
        rintro e w2 ⟨rfl, hb2⟩
        have HB2 := Lib.hid (HB.out.trans (hb2.mono HB.out.size))
        clear hb2
        go_wp2_with fail
        refine (HT1.out _).mono ?_
        rintro e w3 ⟨rfl, hb3⟩
        have HB3 := Lib.hid (HB2.out.trans (hb3.mono HB2.out.size))
        clear hb3
        go_wp2_with fail
        all_goals go_ret3
        all_goals exact ⟨rfl, HB3.out⟩
      · have hE : ((B tr).toList == (B (c :: t)).toList) = false := by rw [hEq]; simpa using d.1
        obtain rfl : q = ([], true, false) := by rw [HQ.out, if_pos (.inr (.inr (.inl d.2.2)))]
        have hl2 : decide (((B wd).size : Int) < 2) = false := by rw [B_size]; have := d.2.1; simp; omega
        have hp0 : 0 < (B wd).size := by rw [B_size]; omega
        obtain ⟨c0, hc0⟩ : ∃ c0, wd.head? = some c0 := by cases wd with | nil => have := d.2.1; simp at this | cons a l => exact ⟨a, rfl⟩
        have hg0 := B_get0 hc0 hp0
        have hq0 : ((c0.toNat : Int) != 34) = true := by
          rw [bne_iff_ne]; intro e; exact d.2.2 (by rw [hc0]; congr 1; exact UInt8.toNat.inj (show c0.toNat = 34 by omega))
        generalize c0.toNat = v0 at *
        clear hEq HQ d hcase hwl
        clear hlt
        generalize B (c :: t) = rest at *
        go_enter Tryd.func28, Tryd.ntmps28
        go_wp2_with fail
        refine HT.out.mono ?_
        rintro e w1 ⟨rfl, hb⟩
        have HB := Lib.hid hb
        clear hb
        go_wp2_with fail
        refine (HC.out _).mono ?_
        rintro e _ ⟨rfl, rfl⟩
        go_wp2_with fail
        go_wp2_with fail
        refine (HT2.out _).mono ?_
        rintro e w2 ⟨rfl, hb2⟩
        have HB2 := Lib.hid (HB.out.trans (hb2.mono HB.out.size))
        clear hb2
        go_wp2_with fail
        refine (HT1.out _).mono ?_
        rintro e w3 ⟨rfl, hb3⟩
        have HB3 := Lib.hid (HB2.out.trans (hb3.mono HB2.out.size))
        clear hb3
        go_wp2_with fail
        all_goals go_ret3
        all_goals exact ⟨rfl, HB3.out⟩
      · have hE : ((B tr).toList == (B (c :: t)).toList) = false := by rw [hEq]; simpa using d.1
        obtain rfl : q = ([], true, false) := by rw [HQ.out, if_pos (.inr (.inr (.inr d.2.2.2)))]
        have hl2 : decide (((B wd).size : Int) < 2) = false := by rw [B_size]; have := d.2.1; simp; omega
        have hp0 : 0 < (B wd).size := by rw [B_size]; omega
        have hg0 := B_get0 d.2.2.1 hp0
        obtain ⟨n, hn⟩ : ∃ n, wd.length = n + 1 := ⟨wd.length - 1, by have := d.2.1; omega⟩
        obtain ⟨c1, hc1⟩ : ∃ c1, wd.getLast? = some c1 := by cases wd with | nil => simp at hn | cons a l => exact ⟨_, List.getLast?_eq_some_getLast (by simp)⟩
        have hp1 : n < (B wd).size := by rw [B_size]; omega
        have hg1 := B_getl hn hc1 hp1
        have hq1 : ((c1.toNat : Int) != 34) = true := by
          rw [bne_iff_ne]; intro e; exact d.2.2.2 (by rw [hc1]; congr 1; exact UInt8.toNat.inj (show c1.toNat = 34 by omega))
        generalize c1.toNat = v1 at *
        have hsz : (B wd).size = n + 1 := by rw [B_size]; exact hn
        have hnB : n ≤ 1000000 := by omega
        clear hEq HQ d hcase hwl
        clear hlt
        generalize B (c :: t) = rest at *
        go_enter Tryd.func28, Tryd.ntmps28
        go_wp2_with fail
        refine HT.out.mono ?_
        rintro e w1 ⟨rfl, hb⟩
        have HB := Lib.hid hb
        clear hb
        go_wp2_with fail
        refine (HC.out _).mono ?_
        rintro e _ ⟨rfl, rfl⟩
        go_wp2_with fail
        go_wp2_with fail
        refine (HT2.out _).mono ?_
        rintro e w2 ⟨rfl, hb2⟩
        have HB2 := Lib.hid (HB.out.trans (hb2.mono HB.out.size))
        clear hb2
        go_wp2_with fail
        refine (HT1.out _).mono ?_
        rintro e w3 ⟨rfl, hb3⟩
        have HB3 := Lib.hid (HB2.out.trans (hb3.mono HB2.out.size))
        clear hb3
        go_wp2_with fail
        all_goals go_ret3
        all_goals exact ⟨rfl, HB3.out⟩
      · have hE : ((B tr).toList == (B (c :: t)).toList) = false := by rw [hEq]; simpa using d.1
        have hl2 : decide (((B wd).size : Int) < 2) = false := by rw [B_size]; have := d.2.1; simp; omega
        have hp0 : 0 < (B wd).size := by rw [B_size]; omega
        have hg0 := B_get0 d.2.2.1 hp0
        obtain ⟨n, hn⟩ : ∃ n, wd.length = n + 1 := ⟨wd.length - 1, by have := d.2.1; omega⟩
        have hn1 : 1 ≤ n := by have := d.2.1; omega
        have hp1 : n < (B wd).size := by rw [B_size]; omega
        have hg1 := B_getl hn d.2.2.2 hp1
        obtain ⟨nm, hnm⟩ : ∃ nm, nm = (wd.drop 1).dropLast := ⟨_, rfl⟩
        have hx := B_extract hn
        rw [← hnm] at hx
        have hnl : nm.length ≤ 1000000 := by rw [hnm]; simp; omega
        have hqq := fun W => Contains_q (B nm) W (by rw [B_size]; exact hnl)
        rw [B_list] at hqq
        have HQQ := Lib.hid hqq
        obtain rfl : q = (nm, true, !nm.contains 34) := by
          rw [HQ.out, if_neg, hnm]
          intro h
          rcases h with h | h | h | h
          · exact d.1 h
          · have := d.2.1; omega
          · exact h d.2.2.1
          · exact h d.2.2.2
        generalize nm.contains 34 = cq at *
        have hsz : (B wd).size = n + 1 := by rw [B_size]; exact hn
        have hnB : n ≤ 1000000 := by omega
        clear hqq hnm hnl
        clear hEq HQ d hcase hwl
        clear hlt
        generalize B (c :: t) = rest at *
        go_enter Tryd.func28, Tryd.ntmps28
        go_wp2_with fail
        refine HT.out.mono ?_
        rintro e w1 ⟨rfl, hb⟩
        have HB := Lib.hid hb
        clear hb
        go_wp2_with fail
        refine (HC.out _).mono ?_
        rintro e _ ⟨rfl, rfl⟩
        go_wp2_with fail
        go_wp2_with fail
        refine (HT2.out _).mono ?_
        rintro e w2 ⟨rfl, hb2⟩
        have HB2 := Lib.hid (HB.out.trans (hb2.mono HB.out.size))
        clear hb2
        go_wp2_with fail
        refine (HT1.out _).mono ?_
        rintro e w3 ⟨rfl, hb3⟩
        have HB3 := Lib.hid (HB2.out.trans (hb3.mono HB2.out.size))
        clear hb3
        go_wp2_with fail
        refine (HQQ.out _).mono ?_
        rintro e _ ⟨rfl, rfl⟩
        go_wp2_with fail
        go_ret3
        exact ⟨rfl, HB3.out⟩

theorem directive_any (s : ByteArray) (w : World) (hs : s.size ≤ 1000000) :
    Calls Tryd.prog 28 #[.string s] w fun e w' => e = .returned (.tuple #[.string (B (dirL s.data.toList).1), .bool (dirL s.data.toList).2.1, .bool (dirL s.data.toList).2.2]) ∧ Below w.heap.size w w' := by
  cases h : incW.isPrefixOf (trimBl s.data.toList) with
  | false =>
    have e : dirL s.data.toList = ([], false, false) := by unfold dirL; rw [h, if_neg (by decide)]
    rw [e]; exact directive_no s w h
  | true =>
    cases h2 : headWord ((trimBl s.data.toList).drop 8) with
    | true =>
      have e : dirL s.data.toList = ([], false, false) := by unfold dirL; rw [h, if_pos rfl, h2, if_pos rfl]
      rw [e]; exact directive_letter s w h h2
    | false =>
      refine directive_word s w hs h h2 _ ?_
      unfold dirL
      rw [h, if_pos rfl, h2, if_neg (by decide)]
end Go.Proofs.YtmhjfdnpmfhmjaaDoor
