/- Package cal: iso, wide, name, long; the library's tables. -/
import Derived.Test.YtcipmfjefmjacaaGreatDoorC2
import Derived.Test.YtcipmfjefmjacaaGreatDoorShelf
import Derived.Test.YtcipmfjefmjacaaGreatDoorK3
import Derived.Lib.AppendIntMem
namespace Go.Proofs.YtcipmfjefmjacaaGreatDoor
open Go.RowKit
set_option linter.unusedVariables false

/-- the library's tables and the one variable that the code reads -/
structure Tabs (w : World) : Prop where
  pow : Lib.TabIs Tryz.prog w "internal/strconv.uint64pow10" .u64 Lib.pow10Tab
  sp : Lib.TabIs Tryz.prog w "strings.asciiSpace" .u8 Lib.asciiSpaceTab
  u8 : Lib.Utf8Tabs 2 3 w
  mx : ∃ m, w.cell? ⟨4, 0, none⟩ = some (.int .i64 m)
theorem Tabs.below {w w' : World} (h : Tabs w) (hb : Below w.heap.size w w') : Tabs w' := by
  refine ⟨Lib.tabBelow_of_tabIs h.pow w' hb, Lib.tabBelow_of_tabIs h.sp w' hb, ?_, ?_⟩
  · exact Utf8Tabs_below h.u8 hb
  · obtain ⟨m, hm⟩ := h.mx
    refine ⟨m, (hb.cell (p := ⟨4, 0, none⟩) ?_).trans hm⟩
    rcases Nat.lt_or_ge 4 w.heap.size with h2 | h2
    · exact h2
    · simp [World.cell?, Array.getElem?_eq_none h2] at hm

/-- the year and the week of a date, in steps -/
def isoT (wk yd : Int) : Int := yd - (wk - 1) % 7 + 3
def isoY (y wk yd : Int) : Int := if isoT wk yd < 1 then y - 1 else y
def isoU (y wk yd : Int) : Int := if isoT wk yd < 1 then isoT wk yd + (beginL y 1 - beginL (y - 1) 1) else isoT wk yd
def isoN (y wk yd : Int) : Int := beginL (isoY y wk yd + 1) 1 - beginL (isoY y wk yd) 1
def isoA (y wk yd : Int) : Int := if isoN y wk yd < isoU y wk yd then isoY y wk yd + 1 else isoY y wk yd
def isoV (y wk yd : Int) : Int := if isoN y wk yd < isoU y wk yd then isoU y wk yd - isoN y wk yd else isoU y wk yd
def isoW (y wk yd : Int) : Int := (isoV y wk yd - 1).tdiv 7 + 1

theorem begin_year (z : Int) : beginL (z + 1) 1 - beginL z 1 = 365 ∨ beginL (z + 1) 1 - beginL z 1 = 366 := by
  unfold beginL daysL
  omega
set_option maxRecDepth 100000 in
set_option maxHeartbeats 4000000 in
theorem iso_any (y mo da h mi s wk yd : Int) (w : World) (hy1 : -10000000 ≤ y) (hy2 : y ≤ 10000000) (hw1 : 0 ≤ wk) (hw2 : wk ≤ 6) (hd1 : 1 ≤ yd) (hd2 : yd ≤ 366) :
    Calls Tryz.prog 62 #[dateV y mo da h mi s wk yd] w fun e w' => e = .returned (.tuple #[.int .i64 (isoA y wk yd), .int .i64 (isoW y wk yd)]) ∧ Below w.heap.size w w' := by
  have D1 := Lib.hid (fun W => div_any (wk - 1) 7 W (by decide) (by omega) (by omega) (by decide))
  have HT : Hid (isoT wk yd = yd - (wk - 1) % 7 + 3) := rfl
  have HY : Hid (isoY y wk yd = if isoT wk yd < 1 then y - 1 else y) := rfl
  have HU : Hid (isoU y wk yd = if isoT wk yd < 1 then isoT wk yd + (beginL y 1 - beginL (y - 1) 1) else isoT wk yd) := rfl
  have HN : Hid (isoN y wk yd = beginL (isoY y wk yd + 1) 1 - beginL (isoY y wk yd) 1) := rfl
  have HA : Hid (isoA y wk yd = if isoN y wk yd < isoU y wk yd then isoY y wk yd + 1 else isoY y wk yd) := rfl
  have HV : Hid (isoV y wk yd = if isoN y wk yd < isoU y wk yd then isoU y wk yd - isoN y wk yd else isoU y wk yd) := rfl
  have HW : Hid (isoW y wk yd = (isoV y wk yd - 1).tdiv 7 + 1) := rfl
  obtain ⟨mon, hmon⟩ : ∃ m, m = (wk - 1) % 7 := ⟨_, rfl⟩
  have mb1 : 0 ≤ mon := by omega
  have mb2 : mon ≤ 6 := by omega
  rw [← hmon] at D1 HT
  generalize isoT wk yd = T at *
  generalize isoY y wk yd = Y at *
  generalize isoU y wk yd = U at *
  generalize isoN y wk yd = N at *
  generalize isoA y wk yd = A at *
  generalize isoV y wk yd = V at *
  generalize isoW y wk yd = R at *
  have BY := fun z => Lib.hid (begin_year z)
  have BB := fun (z : Int) (h1 : -20000000 ≤ z) (h2 : z ≤ 20000000) W => Lib.hid (begin_any z 1 W (by omega) (by omega) (by decide) (by decide))
  have BL : ∀ z : Int, Hid (-20000000 ≤ z → z ≤ 20000000 → -40000000000 ≤ beginL z 1 ∧ beginL z 1 ≤ 40000000000) := by
    intro z; show _ → _ → _; intro h1 h2; unfold beginL daysL; omega
  have HBY := Lib.hid BY
  have HBB := Lib.hid BB
  have HBL := Lib.hid BL
  clear hmon BY BB BL
  have hd : dateV y mo da h mi s wk yd = .agg #[.int .i64 y, .int .i64 mo, .int .i64 da, .int .i64 h, .int .i64 mi, .int .i64 s, .int .i64 wk, .int .i64 yd] := rfl
  rw [hd]
  clear hd
  go_enter Tryz.func62, Tryz.ntmps62
  go_wp2_with fail
  refine (D1.out _).mono ?_
  rintro e _ ⟨rfl, rfl⟩
  clear D1
  have hT := HT.out
  have th1 : -3 ≤ yd - mon + 3 := by omega
  have th2 : yd - mon + 3 ≤ 369 := by omega
  rcases Int.lt_or_le (yd - mon + 3) 1 with hc | hc
  · have hY : Y = y - 1 := by rw [HY.out, if_pos (by omega)]
    have hU : U = yd - mon + 3 + (beginL y 1 - beginL (y - 1) 1) := by rw [HU.out, if_pos (by omega), hT]
    have hN : N = beginL y 1 - beginL (y - 1) 1 := by rw [HN.out, hY, Int.sub_add_cancel]
    have hNb : N = 365 ∨ N = 366 := by
      rw [hN]
      have := HBY.out (y - 1)
      have e := this.out
      rw [Int.sub_add_cancel] at e
      exact e
    have hV : V = U := by rw [HV.out, if_neg (by omega)]
    have hA : A = y - 1 := by rw [HA.out, if_neg (by omega), hY]
    have B1 := HBB.out y (by omega) (by omega)
    have B2 := HBB.out (y - 1) (by omega) (by omega)
    have b1 := (HBL.out y).out (by omega) (by omega)
    have b2 := (HBL.out (y - 1)).out (by omega) (by omega)
    obtain ⟨c1, hc1⟩ : ∃ c, c = beginL y 1 := ⟨_, rfl⟩
    obtain ⟨c2, hc2⟩ : ∃ c, c = beginL (y - 1) 1 := ⟨_, rfl⟩
    rw [← hc1] at b1 hU hN B1
    rw [← hc2] at b2 hU hN B2
    obtain ⟨b11, b12⟩ := b1
    obtain ⟨b21, b22⟩ := b2
    have n1 : 365 ≤ c1 - c2 := by omega
    have n2 : c1 - c2 ≤ 366 := by omega
    have hq : (yd - mon + 3 + (c1 - c2) - 1).tdiv 7 + 1 = R := by rw [HW.out, hV, hU]
    have r1 : -1 ≤ (yd - mon + 3 + (c1 - c2) - 1).tdiv 7 := by rw [Int.tdiv_eq_ediv_of_nonneg (by omega)]; omega
    have r2 : (yd - mon + 3 + (c1 - c2) - 1).tdiv 7 ≤ 100 := by rw [Int.tdiv_eq_ediv_of_nonneg (by omega)]; omega
    have HQ := Lib.hid hq
    have HAA := Lib.hid hA
    clear hN hU hNb hV hA hY HN HY HU HV HA HW HT hT HBY HBB HBL hc1 hc2 hq
    go_wp2_with fail
    refine (B1 _).out.mono ?_
    rintro e _ ⟨rfl, rfl⟩
    go_wp2_with fail
    refine (B2 _).out.mono ?_
    rintro e _ ⟨rfl, rfl⟩
    go_wp2_with fail
    refine (B1 _).out.mono ?_
    rintro e _ ⟨rfl, rfl⟩
    go_wp2_with fail
    refine (B2 _).out.mono ?_
    rintro e _ ⟨rfl, rfl⟩
    go_wp2_with fail
    go_ret2
    exact ⟨by rw [HAA.out, ← HQ.out]; rfl, by repeat (first | exact (Below.refl _ _).alloc (Nat.le_refl _) _ | refine Below.drew ?_)⟩
  · have hY : Y = y := by rw [HY.out, if_neg (by omega)]
    have hU : U = yd - mon + 3 := by rw [HU.out, if_neg (by omega), hT]
    have hN : N = beginL (y + 1) 1 - beginL y 1 := by rw [HN.out, hY]
    have hNb : N = 365 ∨ N = 366 := by
      rw [hN]
      exact (HBY.out y).out
    have B1 := HBB.out (y + 1) (by omega) (by omega)
    have B2 := HBB.out y (by omega) (by omega)
    have b1 := (HBL.out (y + 1)).out (by omega) (by omega)
    have b2 := (HBL.out y).out (by omega) (by omega)
    obtain ⟨c1, hc1⟩ : ∃ c, c = beginL (y + 1) 1 := ⟨_, rfl⟩
    obtain ⟨c2, hc2⟩ : ∃ c, c = beginL y 1 := ⟨_, rfl⟩
    rw [← hc1] at b1 hN B1
    rw [← hc2] at b2 hN B2
    obtain ⟨b11, b12⟩ := b1
    obtain ⟨b21, b22⟩ := b2
    have n1 : 365 ≤ c1 - c2 := by omega
    have n2 : c1 - c2 ≤ 366 := by omega
    rcases Int.lt_or_le (c1 - c2) (yd - mon + 3) with hd | hd
    · have hV : V = yd - mon + 3 - (c1 - c2) := by rw [HV.out, if_pos (by omega), hU, hN]
      have hA : A = y + 1 := by rw [HA.out, if_pos (by omega), hY]
      have hq : (yd - mon + 3 - (c1 - c2) - 1).tdiv 7 + 1 = R := by rw [HW.out, hV]
      have r1 : -1 ≤ (yd - mon + 3 - (c1 - c2) - 1).tdiv 7 := by rw [Int.tdiv_eq_ediv_of_nonneg (by omega)]; omega
      have r2 : (yd - mon + 3 - (c1 - c2) - 1).tdiv 7 ≤ 100 := by rw [Int.tdiv_eq_ediv_of_nonneg (by omega)]; omega
      have HQ := Lib.hid hq
      have HAA := Lib.hid hA
      clear hN hU hNb hV hA hY HN HY HU HV HA HW HT hT HBY HBB HBL hc1 hc2 hq
      go_wp2_with fail
      refine (B1 _).out.mono ?_
      rintro e _ ⟨rfl, rfl⟩
      go_wp2_with fail
      refine (B2 _).out.mono ?_
      rintro e _ ⟨rfl, rfl⟩
      go_wp2_with fail
      go_ret2
      exact ⟨by rw [HAA.out, ← HQ.out]; rfl, by repeat (first | exact (Below.refl _ _).alloc (Nat.le_refl _) _ | refine Below.drew ?_)⟩
    · have hV : V = yd - mon + 3 := by rw [HV.out, if_neg (by omega), hU]
      have hA : A = y := by rw [HA.out, if_neg (by omega), hY]
      have hq : (yd - mon + 3 - 1).tdiv 7 + 1 = R := by rw [HW.out, hV]
      have r1 : -1 ≤ (yd - mon + 3 - 1).tdiv 7 := by rw [Int.tdiv_eq_ediv_of_nonneg (by omega)]; omega
      have r2 : (yd - mon + 3 - 1).tdiv 7 ≤ 100 := by rw [Int.tdiv_eq_ediv_of_nonneg (by omega)]; omega
      have HQ := Lib.hid hq
      have HAA := Lib.hid hA
      clear hN hU hNb hV hA hY HN HY HU HV HA HW HT hT HBY HBB HBL hc1 hc2 hq
      go_wp2_with fail
      refine (B1 _).out.mono ?_
      rintro e _ ⟨rfl, rfl⟩
      go_wp2_with fail
      refine (B2 _).out.mono ?_
      rintro e _ ⟨rfl, rfl⟩
      go_wp2_with fail
      go_ret2
      exact ⟨by rw [HAA.out, ← HQ.out]; rfl, by repeat (first | exact (Below.refl _ _).alloc (Nat.le_refl _) _ | refine Below.drew ?_)⟩

theorem bytesOf {s : ByteArray} {l : List UInt8} (h : s.data.toList = l) : s = ⟨l.toArray⟩ := by
  rw [← h]
/-- what a letter stands for that stands for several parts -/
def longL (c : UInt8) : List UInt8 := if c = 68 then [37, 109, 47, 37, 100, 47, 37, 121] else if c = 70 then [37, 89, 45, 37, 109, 45, 37, 100] else if c = 82 then [37, 72, 58, 37, 77] else if c = 84 then [37, 72, 58, 37, 77, 58, 37, 83] else []
theorem long_any (c : UInt8) (w : World) : Calls Tryz.prog 34 #[.int .u8 c.toNat] w fun e w' => e = .returned (.string ⟨(longL c).toArray⟩) ∧ w = w' := by
  by_cases h1 : c = 68
  · subst h1
    change Calls Tryz.prog 34 #[.int .u8 68] w fun e w' => e = .returned (.string ⟨#[37, 109, 47, 37, 100, 47, 37, 121]⟩) ∧ w = w'
    go_enter Tryz.func34, Tryz.ntmps34
    go_wp2_with fail
    go_ret
    exact ⟨rfl, rfl⟩
  · have n1 := ne_lit c 68 68 rfl h1
    by_cases h2 : c = 70
    · subst h2
      change Calls Tryz.prog 34 #[.int .u8 70] w fun e w' => e = .returned (.string ⟨#[37, 89, 45, 37, 109, 45, 37, 100]⟩) ∧ w = w'
      clear n1
      go_enter Tryz.func34, Tryz.ntmps34
      go_wp2_with fail
      go_ret
      exact ⟨rfl, rfl⟩
    · have n2 := ne_lit c 70 70 rfl h2
      by_cases h3 : c = 82
      · subst h3
        change Calls Tryz.prog 34 #[.int .u8 82] w fun e w' => e = .returned (.string ⟨#[37, 72, 58, 37, 77]⟩) ∧ w = w'
        clear n1 n2
        go_enter Tryz.func34, Tryz.ntmps34
        go_wp2_with fail
        go_ret
        exact ⟨rfl, rfl⟩
      · have n3 := ne_lit c 82 82 rfl h3
        by_cases h4 : c = 84
        · subst h4
          change Calls Tryz.prog 34 #[.int .u8 84] w fun e w' => e = .returned (.string ⟨#[37, 72, 58, 37, 77, 58, 37, 83]⟩) ∧ w = w'
          clear n1 n2 n3
          go_enter Tryz.func34, Tryz.ntmps34
          go_wp2_with fail
          go_ret
          exact ⟨rfl, rfl⟩
        · have n4 := ne_lit c 84 84 rfl h4
          have hl : Hid (longL c = []) := by show _ = _; unfold longL; rw [if_neg h1, if_neg h2, if_neg h3, if_neg h4]
          rw [hl.out]
          clear h1 h2 h3 h4 hl
          go_enter Tryz.func34, Tryz.ntmps34
          go_wp2_with fail
          go_ret
          exact ⟨rfl, rfl⟩

/-- a number in so many digits, with this ahead -/
def wideL (n k : Int) (pad : List UInt8) : List UInt8 := Lib.repeatL pad (max 0 (k - (Lib.itoa n).length)).toNat ++ Lib.itoa n
set_option maxRecDepth 100000 in
theorem wide_any (n k : Int) (pad : ByteArray) (w : World) (hT : Tabs w) (hn1 : -9223372036854775808 ≤ n) (hn2 : n ≤ 9223372036854775807) (hk1 : 0 ≤ k) (hk2 : k ≤ 100) (hp : pad.size ≤ 1) (hl : (Lib.itoa n).length ≤ 100) :
    Calls Tryz.prog 64 #[.int .i64 n, .int .i64 k, .string pad] w fun e w' => e = .returned (.string ⟨(wideL n k pad.data.toList).toArray⟩) ∧ Below w.heap.size w w' := by
  have HI := Lib.hid (Tryz.strconv_Itoa n hn1 hn2 w hT.pow)
  obtain ⟨s, hs⟩ : ∃ s : ByteArray, s = ⟨(Lib.itoa n).toArray⟩ := ⟨_, rfl⟩
  have hsl : s.data.toList = Lib.itoa n := by rw [hs]
  have hsz : s.size ≤ 100 := by
    have := size_list s
    rw [hsl] at this
    omega
  rw [← hs] at HI
  obtain ⟨m, hm⟩ : ∃ m : Nat, m = (max 0 (k - s.size)).toNat := ⟨_, rfl⟩
  have em : max 0 (k - (s.size : Int)) = (m : Int) := by omega
  have hml : m ≤ 100 := by omega
  have HR := Lib.hid (fun W => Tryz.strings_Repeat pad m W (by omega) (by
    have : pad.size * m ≤ 1 * m := Nat.mul_le_mul_right _ hp
    omega))
  have hF : Hid (wideL n k pad.data.toList = Lib.repeatL pad.data.toList m ++ s.data.toList) := by
    show _ = _
    unfold wideL
    rw [hsl, hm, size_list, hsl]
  clear hs hsl hm hT
  go_enter Tryz.func64, Tryz.ntmps64
  go_wp2_with fail
  refine HI.out.mono ?_
  rintro e w1 ⟨rfl, q, os, hw1⟩
  have hb1 : Below w.heap.size w w1 := by rw [hw1]; exact Lib.below_grow _ _ (Nat.le_refl _) _ _
  have HB1 := Lib.hid hb1
  have hs1 := hb1.size
  clear hw1 hb1
  go_wp2_with fail
  refine (HR.out _).mono ?_
  rintro e w2 ⟨rfl, hb2⟩
  have HB2 := Lib.hid (HB1.out.trans (hb2.mono hs1))
  clear hb2 HB1
  obtain ⟨r, hr⟩ : ∃ r : ByteArray, r = ⟨(Lib.repeatL pad.data.toList m).toArray⟩ := ⟨_, rfl⟩
  have hrl : Hid (r.data.toList = Lib.repeatL pad.data.toList m) := by show _ = _; rw [hr]
  have hrs : r.size ≤ 100 := by
    rw [size_list, hrl.out, Lib.repeatL_length, ← size_list]
    have : m * pad.size ≤ m * 1 := Nat.mul_le_mul_left _ hp
    omega
  rw [← hr]
  clear hr
  go_wp2_with fail
  go_ret
  refine ⟨?_, HB2.out⟩
  rw [← bytesOf (s := r ++ s) (by rw [ByteArray.data_append, Array.toList_append, hF.out, hrl.out])]
  rfl
end Go.Proofs.YtcipmfjefmjacaaGreatDoor
