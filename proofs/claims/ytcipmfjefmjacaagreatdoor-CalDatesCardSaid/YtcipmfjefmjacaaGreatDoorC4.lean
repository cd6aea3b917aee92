/- Package cal: name, and conv at ten letters. (Printed by mkconv.py.) -/
import Derived.Test.YtcipmfjefmjacaaGreatDoorC3
namespace Go.Proofs.YtcipmfjefmjacaaGreatDoor
open Go.RowKit
set_option linter.unusedVariables false

/-- a date's numbers are no greater than any date's -/
structure Fair (y mo da h mi s wk yd : Int) : Prop where
  y1 : -10000000 ≤ y
  y2 : y ≤ 10000000
  wk1 : 0 ≤ wk
  wk2 : wk ≤ 6
  yd1 : 1 ≤ yd
  yd2 : yd ≤ 366
  mo1 : 0 ≤ mo
  mo2 : mo ≤ 99
  da1 : 0 ≤ da
  da2 : da ≤ 99
  h1 : 0 ≤ h
  h2 : h ≤ 99
  mi1 : 0 ≤ mi
  mi2 : mi ≤ 99
  s1 : 0 ≤ s
  s2 : s ≤ 99

theorem name_any (l : ByteArray) (i : Nat) (L : List ByteArray) (x : ByteArray) (w : World) (hT : Tabs w) (hs : l.size ≤ 1000) (hL : Lib.splitB ⟨#[32]⟩ 0 (Lib.countB l ⟨#[32]⟩) l = L) (hn : L.length = Lib.countB l ⟨#[32]⟩ + 1) (hi : i < L.length) (hx : L[i] = x) (hl : L.length ≤ 100) :
    Calls Tryz.prog 63 #[.string l, .int .i64 i] w fun e w' => e = .returned (.string x) ∧ Below w.heap.size w w' := by
  obtain ⟨m, hm⟩ := hT.mx
  have HS := Lib.hid (Tryz.strings_Split l ⟨#[32]⟩ m w (by omega) hm (by decide))
  rw [hL, ← hn] at HS
  have HX : Hid ((w.alloc (.cells (L.map Value.string).toArray 9)).cell? ⟨w.heap.size, i, none⟩ = some (.string x)) := by
    show _ = _
    rw [World.cell?_alloc_new]
    simp [hi, hx]
  obtain ⟨n, hn2⟩ : ∃ n, n = L.length := ⟨_, rfl⟩
  rw [← hn2] at HS hi hl
  have hi2 : (i : Int) < (n : Int) := by omega
  clear hL hn hx hm hn2 hT
  go_enter Tryz.func63, Tryz.ntmps63
  go_wp2_with fail
  refine HS.out.mono ?_
  rintro e w1 ⟨rfl, hw1⟩
  have hb : Below w.heap.size w w1 := by rw [hw1]; exact (Below.refl _ _).alloc (Nat.le_refl _) _
  rw [← hw1] at HX
  have HB := Lib.hid hb
  have hx := HX.out
  clear hw1 hb HS HX
  go_wp2_with fail
  go_ret
  exact ⟨rfl, HB.out⟩

theorem box_cell (w w2 : World) (k : Nat) (cs : Array Value) (v : Value) (t : TypeId) (hb : Below (w.heap.size + 1) (w.alloc (.cells cs t)) w2) (hv : cs[k]? = some v) : w2.cell? ⟨w.heap.size, k, none⟩ = some v := by
  rw [hb.cell (p := ⟨w.heap.size, k, none⟩) (Nat.lt_succ_self _), World.cell?_alloc_new]
  simpa using hv

set_option maxRecDepth 100000 in
set_option maxHeartbeats 4000000 in
theorem conv_m (y mo da h mi s wk yd t : Int) (w : World) (hT : Tabs w) (hF : Fair y mo da h mi s wk yd) (hl : (Lib.itoa mo).length ≤ 100) :
    Calls Tryz.prog 36 #[.int .u8 109, dateV y mo da h mi s wk yd, .int .i64 t] w fun e w' => e = .returned (.tuple #[.string ⟨(wideL mo 2 [48]).toArray⟩, .bool true]) ∧ Below w.heap.size w w' := by
  have HI := Lib.hid (iso_any y mo da h mi s wk yd (w.alloc (.cells #[.int .i64 y, .int .i64 mo, .int .i64 da, .int .i64 h, .int .i64 mi, .int .i64 s, .int .i64 wk, .int .i64 yd] 23)) hF.y1 hF.y2 hF.wk1 hF.wk2 hF.yd1 hF.yd2)
  have hT1 : Tabs (w.alloc (.cells #[.int .i64 y, .int .i64 mo, .int .i64 da, .int .i64 h, .int .i64 mi, .int .i64 s, .int .i64 wk, .int .i64 yd] 23)) := hT.below ((Below.refl _ _).alloc (Nat.le_refl _) _)
  have HT1 := Lib.hid hT1
  have HF := Lib.hid hF
  have hd : dateV y mo da h mi s wk yd = .agg #[.int .i64 y, .int .i64 mo, .int .i64 da, .int .i64 h, .int .i64 mi, .int .i64 s, .int .i64 wk, .int .i64 yd] := rfl
  rw [hd] at HI ⊢
  obtain ⟨A, hA⟩ : ∃ A, A = isoA y wk yd := ⟨_, rfl⟩
  obtain ⟨R, hR⟩ : ∃ R, R = isoW y wk yd := ⟨_, rfl⟩
  rw [← hA, ← hR] at HI
  have HR := Lib.hid hR
  clear hd hT hT1 hA hR
  go_enter Tryz.func36, Tryz.ntmps36
  go_wp2_with fail
  refine HI.out.mono ?_
  rintro e w2 ⟨rfl, hb⟩
  have hb' : Below (w.heap.size + 1) (w.alloc (.cells #[.int .i64 y, .int .i64 mo, .int .i64 da, .int .i64 h, .int .i64 mi, .int .i64 s, .int .i64 wk, .int .i64 yd] 23)) w2 := by
    have e1 : (w.alloc (.cells #[.int .i64 y, .int .i64 mo, .int .i64 da, .int .i64 h, .int .i64 mi, .int .i64 s, .int .i64 wk, .int .i64 yd] 23)).heap.size = w.heap.size + 1 := by simp
    rw [← e1]; exact hb
  have hc := box_cell w w2 1 _ _ 23 hb' rfl
  have HT2 := Lib.hid (HT1.out.below hb)
  have HB2 := Lib.hid (((Below.refl w.heap.size w).alloc (Nat.le_refl _) (.cells #[.int .i64 y, .int .i64 mo, .int .i64 da, .int .i64 h, .int .i64 mi, .int .i64 s, .int .i64 wk, .int .i64 yd] 23)).trans (hb'.mono (Nat.le_succ _)))
  have hs2 := HB2.out.size
  clear hb hb' HI HT1
  go_wp2_with fail
  refine (wide_any mo 2 ⟨#[48]⟩ _ HT2.out (by have := HF.out.mo1; omega) (by have := HF.out.mo2; omega) (by decide) (by decide) (by decide) hl).mono ?_
  rintro e w3 ⟨rfl, hb3⟩
  have HB3 := Lib.hid (HB2.out.trans (hb3.mono hs2))
  clear hb3
  go_wp2_with fail
  go_ret2
  exact ⟨rfl, HB3.out⟩

set_option maxRecDepth 100000 in
set_option maxHeartbeats 4000000 in
theorem conv_d (y mo da h mi s wk yd t : Int) (w : World) (hT : Tabs w) (hF : Fair y mo da h mi s wk yd) (hl : (Lib.itoa da).length ≤ 100) :
    Calls Tryz.prog 36 #[.int .u8 100, dateV y mo da h mi s wk yd, .int .i64 t] w fun e w' => e = .returned (.tuple #[.string ⟨(wideL da 2 [48]).toArray⟩, .bool true]) ∧ Below w.heap.size w w' := by
  have HI := Lib.hid (iso_any y mo da h mi s wk yd (w.alloc (.cells #[.int .i64 y, .int .i64 mo, .int .i64 da, .int .i64 h, .int .i64 mi, .int .i64 s, .int .i64 wk, .int .i64 yd] 23)) hF.y1 hF.y2 hF.wk1 hF.wk2 hF.yd1 hF.yd2)
  have hT1 : Tabs (w.alloc (.cells #[.int .i64 y, .int .i64 mo, .int .i64 da, .int .i64 h, .int .i64 mi, .int .i64 s, .int .i64 wk, .int .i64 yd] 23)) := hT.below ((Below.refl _ _).alloc (Nat.le_refl _) _)
  have HT1 := Lib.hid hT1
  have HF := Lib.hid hF
  have hd : dateV y mo da h mi s wk yd = .agg #[.int .i64 y, .int .i64 mo, .int .i64 da, .int .i64 h, .int .i64 mi, .int .i64 s, .int .i64 wk, .int .i64 yd] := rfl
  rw [hd] at HI ⊢
  obtain ⟨A, hA⟩ : ∃ A, A = isoA y wk yd := ⟨_, rfl⟩
  obtain ⟨R, hR⟩ : ∃ R, R = isoW y wk yd := ⟨_, rfl⟩
  rw [← hA, ← hR] at HI
  have HR := Lib.hid hR
  clear hd hT hT1 hA hR
  go_enter Tryz.func36, Tryz.ntmps36
  go_wp2_with fail
  refine HI.out.mono ?_
  rintro e w2 ⟨rfl, hb⟩
  have hb' : Below (w.heap.size + 1) (w.alloc (.cells #[.int .i64 y, .int .i64 mo, .int .i64 da, .int .i64 h, .int .i64 mi, .int .i64 s, .int .i64 wk, .int .i64 yd] 23)) w2 := by
    have e1 : (w.alloc (.cells #[.int .i64 y, .int .i64 mo, .int .i64 da, .int .i64 h, .int .i64 mi, .int .i64 s, .int .i64 wk, .int .i64 yd] 23)).heap.size = w.heap.size + 1 := by simp
    rw [← e1]; exact hb
  have hc := box_cell w w2 2 _ _ 23 hb' rfl
  have HT2 := Lib.hid (HT1.out.below hb)
  have HB2 := Lib.hid (((Below.refl w.heap.size w).alloc (Nat.le_refl _) (.cells #[.int .i64 y, .int .i64 mo, .int .i64 da, .int .i64 h, .int .i64 mi, .int .i64 s, .int .i64 wk, .int .i64 yd] 23)).trans (hb'.mono (Nat.le_succ _)))
  have hs2 := HB2.out.size
  clear hb hb' HI HT1
  go_wp2_with fail
  refine (wide_any da 2 ⟨#[48]⟩ _ HT2.out (by have := HF.out.da1; omega) (by have := HF.out.da2; omega) (by decide) (by decide) (by decide) hl).mono ?_
  rintro e w3 ⟨rfl, hb3⟩
  have HB3 := Lib.hid (HB2.out.trans (hb3.mono hs2))
  clear hb3
  go_wp2_with fail
  go_ret2
  exact ⟨rfl, HB3.out⟩

set_option maxRecDepth 100000 in
set_option maxHeartbeats 4000000 in
theorem conv_H (y mo da h mi s wk yd t : Int) (w : World) (hT : Tabs w) (hF : Fair y mo da h mi s wk yd) (hl : (Lib.itoa h).length ≤ 100) :
    Calls Tryz.prog 36 #[.int .u8 72, dateV y mo da h mi s wk yd, .int .i64 t] w fun e w' => e = .returned (.tuple #[.string ⟨(wideL h 2 [48]).toArray⟩, .bool true]) ∧ Below w.heap.size w w' := by
  have HI := Lib.hid (iso_any y mo da h mi s wk yd (w.alloc (.cells #[.int .i64 y, .int .i64 mo, .int .i64 da, .int .i64 h, .int .i64 mi, .int .i64 s, .int .i64 wk, .int .i64 yd] 23)) hF.y1 hF.y2 hF.wk1 hF.wk2 hF.yd1 hF.yd2)
  have hT1 : Tabs (w.alloc (.cells #[.int .i64 y, .int .i64 mo, .int .i64 da, .int .i64 h, .int .i64 mi, .int .i64 s, .int .i64 wk, .int .i64 yd] 23)) := hT.below ((Below.refl _ _).alloc (Nat.le_refl _) _)
  have HT1 := Lib.hid hT1
  have HF := Lib.hid hF
  have hd : dateV y mo da h mi s wk yd = .agg #[.int .i64 y, .int .i64 mo, .int .i64 da, .int .i64 h, .int .i64 mi, .int .i64 s, .int .i64 wk, .int .i64 yd] := rfl
  rw [hd] at HI ⊢
  obtain ⟨A, hA⟩ : ∃ A, A = isoA y wk yd := ⟨_, rfl⟩
  obtain ⟨R, hR⟩ : ∃ R, R = isoW y wk yd := ⟨_, rfl⟩
  rw [← hA, ← hR] at HI
  have HR := Lib.hid hR
  clear hd hT hT1 hA hR
  go_enter Tryz.func36, Tryz.ntmps36
  go_wp2_with fail
  refine HI.out.mono ?_
  rintro e w2 ⟨rfl, hb⟩
  have hb' : Below (w.heap.size + 1) (w.alloc (.cells #[.int .i64 y, .int .i64 mo, .int .i64 da, .int .i64 h, .int .i64 mi, .int .i64 s, .int .i64 wk, .int .i64 yd] 23)) w2 := by
    have e1 : (w.alloc (.cells #[.int .i64 y, .int .i64 mo, .int .i64 da, .int .i64 h, .int .i64 mi, .int .i64 s, .int .i64 wk, .int .i64 yd] 23)).heap.size = w.heap.size + 1 := by simp
    rw [← e1]; exact hb
  have hc := box_cell w w2 3 _ _ 23 hb' rfl
  have HT2 := Lib.hid (HT1.out.below hb)
  have HB2 := Lib.hid (((Below.refl w.heap.size w).alloc (Nat.le_refl _) (.cells #[.int .i64 y, .int .i64 mo, .int .i64 da, .int .i64 h, .int .i64 mi, .int .i64 s, .int .i64 wk, .int .i64 yd] 23)).trans (hb'.mono (Nat.le_succ _)))
  have hs2 := HB2.out.size
  clear hb hb' HI HT1
  go_wp2_with fail
  refine (wide_any h 2 ⟨#[48]⟩ _ HT2.out (by have := HF.out.h1; omega) (by have := HF.out.h2; omega) (by decide) (by decide) (by decide) hl).mono ?_
  rintro e w3 ⟨rfl, hb3⟩
  have HB3 := Lib.hid (HB2.out.trans (hb3.mono hs2))
  clear hb3
  go_wp2_with fail
  go_ret2
  exact ⟨rfl, HB3.out⟩

set_option maxRecDepth 100000 in
set_option maxHeartbeats 4000000 in
theorem conv_M (y mo da h mi s wk yd t : Int) (w : World) (hT : Tabs w) (hF : Fair y mo da h mi s wk yd) (hl : (Lib.itoa mi).length ≤ 100) :
    Calls Tryz.prog 36 #[.int .u8 77, dateV y mo da h mi s wk yd, .int .i64 t] w fun e w' => e = .returned (.tuple #[.string ⟨(wideL mi 2 [48]).toArray⟩, .bool true]) ∧ Below w.heap.size w w' := by
  have HI := Lib.hid (iso_any y mo da h mi s wk yd (w.alloc (.cells #[.int .i64 y, .int .i64 mo, .int .i64 da, .int .i64 h, .int .i64 mi, .int .i64 s, .int .i64 wk, .int .i64 yd] 23)) hF.y1 hF.y2 hF.wk1 hF.wk2 hF.yd1 hF.yd2)
  have hT1 : Tabs (w.alloc (.cells #[.int .i64 y, .int .i64 mo, .int .i64 da, .int .i64 h, .int .i64 mi, .int .i64 s, .int .i64 wk, .int .i64 yd] 23)) := hT.below ((Below.refl _ _).alloc (Nat.le_refl _) _)
  have HT1 := Lib.hid hT1
  have HF := Lib.hid hF
  have hd : dateV y mo da h mi s wk yd = .agg #[.int .i64 y, .int .i64 mo, .int .i64 da, .int .i64 h, .int .i64 mi, .int .i64 s, .int .i64 wk, .int .i64 yd] := rfl
  rw [hd] at HI ⊢
  obtain ⟨A, hA⟩ : ∃ A, A = isoA y wk yd := ⟨_, rfl⟩
  obtain ⟨R, hR⟩ : ∃ R, R = isoW y wk yd := ⟨_, rfl⟩
  rw [← hA, ← hR] at HI
  have HR := Lib.hid hR
  clear hd hT hT1 hA hR
  go_enter Tryz.func36, Tryz.ntmps36
  go_wp2_with fail
  refine HI.out.mono ?_
  rintro e w2 ⟨rfl, hb⟩
  have hb' : Below (w.heap.size + 1) (w.alloc (.cells #[.int .i64 y, .int .i64 mo, .int .i64 da, .int .i64 h, .int .i64 mi, .int .i64 s, .int .i64 wk, .int .i64 yd] 23)) w2 := by
    have e1 : (w.alloc (.cells #[.int .i64 y, .int .i64 mo, .int .i64 da, .int .i64 h, .int .i64 mi, .int .i64 s, .int .i64 wk, .int .i64 yd] 23)).heap.size = w.heap.size + 1 := by simp
    rw [← e1]; exact hb
  have hc := box_cell w w2 4 _ _ 23 hb' rfl
  have HT2 := Lib.hid (HT1.out.below hb)
  have HB2 := Lib.hid (((Below.refl w.heap.size w).alloc (Nat.le_refl _) (.cells #[.int .i64 y, .int .i64 mo, .int .i64 da, .int .i64 h, .int .i64 mi, .int .i64 s, .int .i64 wk, .int .i64 yd] 23)).trans (hb'.mono (Nat.le_succ _)))
  have hs2 := HB2.out.size
  clear hb hb' HI HT1
  go_wp2_with fail
  refine (wide_any mi 2 ⟨#[48]⟩ _ HT2.out (by have := HF.out.mi1; omega) (by have := HF.out.mi2; omega) (by decide) (by decide) (by decide) hl).mono ?_
  rintro e w3 ⟨rfl, hb3⟩
  have HB3 := Lib.hid (HB2.out.trans (hb3.mono hs2))
  clear hb3
  go_wp2_with fail
  go_ret2
  exact ⟨rfl, HB3.out⟩

set_option maxRecDepth 100000 in
set_option maxHeartbeats 4000000 in
theorem conv_S (y mo da h mi s wk yd t : Int) (w : World) (hT : Tabs w) (hF : Fair y mo da h mi s wk yd) (hl : (Lib.itoa s).length ≤ 100) :
    Calls Tryz.prog 36 #[.int .u8 83, dateV y mo da h mi s wk yd, .int .i64 t] w fun e w' => e = .returned (.tuple #[.string ⟨(wideL s 2 [48]).toArray⟩, .bool true]) ∧ Below w.heap.size w w' := by
  have HI := Lib.hid (iso_any y mo da h mi s wk yd (w.alloc (.cells #[.int .i64 y, .int .i64 mo, .int .i64 da, .int .i64 h, .int .i64 mi, .int .i64 s, .int .i64 wk, .int .i64 yd] 23)) hF.y1 hF.y2 hF.wk1 hF.wk2 hF.yd1 hF.yd2)
  have hT1 : Tabs (w.alloc (.cells #[.int .i64 y, .int .i64 mo, .int .i64 da, .int .i64 h, .int .i64 mi, .int .i64 s, .int .i64 wk, .int .i64 yd] 23)) := hT.below ((Below.refl _ _).alloc (Nat.le_refl _) _)
  have HT1 := Lib.hid hT1
  have HF := Lib.hid hF
  have hd : dateV y mo da h mi s wk yd = .agg #[.int .i64 y, .int .i64 mo, .int .i64 da, .int .i64 h, .int .i64 mi, .int .i64 s, .int .i64 wk, .int .i64 yd] := rfl
  rw [hd] at HI ⊢
  obtain ⟨A, hA⟩ : ∃ A, A = isoA y wk yd := ⟨_, rfl⟩
  obtain ⟨R, hR⟩ : ∃ R, R = isoW y wk yd := ⟨_, rfl⟩
  rw [← hA, ← hR] at HI
  have HR := Lib.hid hR
  clear hd hT hT1 hA hR
  go_enter Tryz.func36, Tryz.ntmps36
  go_wp2_with fail
  refine HI.out.mono ?_
  rintro e w2 ⟨rfl, hb⟩
  have hb' : Below (w.heap.size + 1) (w.alloc (.cells #[.int .i64 y, .int .i64 mo, .int .i64 da, .int .i64 h, .int .i64 mi, .int .i64 s, .int .i64 wk, .int .i64 yd] 23)) w2 := by
    have e1 : (w.alloc (.cells #[.int .i64 y, .int .i64 mo, .int .i64 da, .int .i64 h, .int .i64 mi, .int .i64 s, .int .i64 wk, .int .i64 yd] 23)).heap.size = w.heap.size + 1 := by simp
    rw [← e1]; exact hb
  have hc := box_cell w w2 5 _ _ 23 hb' rfl
  have HT2 := Lib.hid (HT1.out.below hb)
  have HB2 := Lib.hid (((Below.refl w.heap.size w).alloc (Nat.le_refl _) (.cells #[.int .i64 y, .int .i64 mo, .int .i64 da, .int .i64 h, .int .i64 mi, .int .i64 s, .int .i64 wk, .int .i64 yd] 23)).trans (hb'.mono (Nat.le_succ _)))
  have hs2 := HB2.out.size
  clear hb hb' HI HT1
  go_wp2_with fail
  refine (wide_any s 2 ⟨#[48]⟩ _ HT2.out (by have := HF.out.s1; omega) (by have := HF.out.s2; omega) (by decide) (by decide) (by decide) hl).mono ?_
  rintro e w3 ⟨rfl, hb3⟩
  have HB3 := Lib.hid (HB2.out.trans (hb3.mono hs2))
  clear hb3
  go_wp2_with fail
  go_ret2
  exact ⟨rfl, HB3.out⟩

set_option maxRecDepth 100000 in
set_option maxHeartbeats 4000000 in
theorem conv_j (y mo da h mi s wk yd t : Int) (w : World) (hT : Tabs w) (hF : Fair y mo da h mi s wk yd) (hl : (Lib.itoa yd).length ≤ 100) :
    Calls Tryz.prog 36 #[.int .u8 106, dateV y mo da h mi s wk yd, .int .i64 t] w fun e w' => e = .returned (.tuple #[.string ⟨(wideL yd 3 [48]).toArray⟩, .bool true]) ∧ Below w.heap.size w w' := by
  have HI := Lib.hid (iso_any y mo da h mi s wk yd (w.alloc (.cells #[.int .i64 y, .int .i64 mo, .int .i64 da, .int .i64 h, .int .i64 mi, .int .i64 s, .int .i64 wk, .int .i64 yd] 23)) hF.y1 hF.y2 hF.wk1 hF.wk2 hF.yd1 hF.yd2)
  have hT1 : Tabs (w.alloc (.cells #[.int .i64 y, .int .i64 mo, .int .i64 da, .int .i64 h, .int .i64 mi, .int .i64 s, .int .i64 wk, .int .i64 yd] 23)) := hT.below ((Below.refl _ _).alloc (Nat.le_refl _) _)
  have HT1 := Lib.hid hT1
  have HF := Lib.hid hF
  have hd : dateV y mo da h mi s wk yd = .agg #[.int .i64 y, .int .i64 mo, .int .i64 da, .int .i64 h, .int .i64 mi, .int .i64 s, .int .i64 wk, .int .i64 yd] := rfl
  rw [hd] at HI ⊢
  obtain ⟨A, hA⟩ : ∃ A, A = isoA y wk yd := ⟨_, rfl⟩
  obtain ⟨R, hR⟩ : ∃ R, R = isoW y wk yd := ⟨_, rfl⟩
  rw [← hA, ← hR] at HI
  have HR := Lib.hid hR
  clear hd hT hT1 hA hR
  go_enter Tryz.func36, Tryz.ntmps36
  go_wp2_with fail
  refine HI.out.mono ?_
  rintro e w2 ⟨rfl, hb⟩
  have hb' : Below (w.heap.size + 1) (w.alloc (.cells #[.int .i64 y, .int .i64 mo, .int .i64 da, .int .i64 h, .int .i64 mi, .int .i64 s, .int .i64 wk, .int .i64 yd] 23)) w2 := by
    have e1 : (w.alloc (.cells #[.int .i64 y, .int .i64 mo, .int .i64 da, .int .i64 h, .int .i64 mi, .int .i64 s, .int .i64 wk, .int .i64 yd] 23)).heap.size = w.heap.size + 1 := by simp
    rw [← e1]; exact hb
  have hc := box_cell w w2 7 _ _ 23 hb' rfl
  have HT2 := Lib.hid (HT1.out.below hb)
  have HB2 := Lib.hid (((Below.refl w.heap.size w).alloc (Nat.le_refl _) (.cells #[.int .i64 y, .int .i64 mo, .int .i64 da, .int .i64 h, .int .i64 mi, .int .i64 s, .int .i64 wk, .int .i64 yd] 23)).trans (hb'.mono (Nat.le_succ _)))
  have hs2 := HB2.out.size
  clear hb hb' HI HT1
  go_wp2_with fail
  refine (wide_any yd 3 ⟨#[48]⟩ _ HT2.out (by have := HF.out.yd1; omega) (by have := HF.out.yd2; omega) (by decide) (by decide) (by decide) hl).mono ?_
  rintro e w3 ⟨rfl, hb3⟩
  have HB3 := Lib.hid (HB2.out.trans (hb3.mono hs2))
  clear hb3
  go_wp2_with fail
  go_ret2
  exact ⟨rfl, HB3.out⟩

set_option maxRecDepth 100000 in
set_option maxHeartbeats 4000000 in
theorem conv_V (y mo da h mi s wk yd t : Int) (w : World) (hT : Tabs w) (hF : Fair y mo da h mi s wk yd) (hl : (Lib.itoa (isoW y wk yd)).length ≤ 100) (hr1 : -1000 ≤ isoW y wk yd) (hr2 : isoW y wk yd ≤ 1000) :
    Calls Tryz.prog 36 #[.int .u8 86, dateV y mo da h mi s wk yd, .int .i64 t] w fun e w' => e = .returned (.tuple #[.string ⟨(wideL (isoW y wk yd) 2 [48]).toArray⟩, .bool true]) ∧ Below w.heap.size w w' := by
  have HI := Lib.hid (iso_any y mo da h mi s wk yd (w.alloc (.cells #[.int .i64 y, .int .i64 mo, .int .i64 da, .int .i64 h, .int .i64 mi, .int .i64 s, .int .i64 wk, .int .i64 yd] 23)) hF.y1 hF.y2 hF.wk1 hF.wk2 hF.yd1 hF.yd2)
  have hT1 : Tabs (w.alloc (.cells #[.int .i64 y, .int .i64 mo, .int .i64 da, .int .i64 h, .int .i64 mi, .int .i64 s, .int .i64 wk, .int .i64 yd] 23)) := hT.below ((Below.refl _ _).alloc (Nat.le_refl _) _)
  have HT1 := Lib.hid hT1
  have HF := Lib.hid hF
  have hd : dateV y mo da h mi s wk yd = .agg #[.int .i64 y, .int .i64 mo, .int .i64 da, .int .i64 h, .int .i64 mi, .int .i64 s, .int .i64 wk, .int .i64 yd] := rfl
  rw [hd] at HI ⊢
  obtain ⟨A, hA⟩ : ∃ A, A = isoA y wk yd := ⟨_, rfl⟩
  obtain ⟨R, hR⟩ : ∃ R, R = isoW y wk yd := ⟨_, rfl⟩
  rw [← hA, ← hR] at HI
  rw [← hR] at hl hr1 hr2 ⊢
  have HR := Lib.hid hR
  clear hd hT hT1 hA hR
  go_enter Tryz.func36, Tryz.ntmps36
  go_wp2_with fail
  refine HI.out.mono ?_
  rintro e w2 ⟨rfl, hb⟩
  have hb' : Below (w.heap.size + 1) (w.alloc (.cells #[.int .i64 y, .int .i64 mo, .int .i64 da, .int .i64 h, .int .i64 mi, .int .i64 s, .int .i64 wk, .int .i64 yd] 23)) w2 := by
    have e1 : (w.alloc (.cells #[.int .i64 y, .int .i64 mo, .int .i64 da, .int .i64 h, .int .i64 mi, .int .i64 s, .int .i64 wk, .int .i64 yd] 23)).heap.size = w.heap.size + 1 := by simp
    rw [← e1]; exact hb
  have HT2 := Lib.hid (HT1.out.below hb)
  have HB2 := Lib.hid (((Below.refl w.heap.size w).alloc (Nat.le_refl _) (.cells #[.int .i64 y, .int .i64 mo, .int .i64 da, .int .i64 h, .int .i64 mi, .int .i64 s, .int .i64 wk, .int .i64 yd] 23)).trans (hb'.mono (Nat.le_succ _)))
  have hs2 := HB2.out.size
  clear hb hb' HI HT1
  go_wp2_with fail
  refine (wide_any R 2 ⟨#[48]⟩ _ HT2.out (by omega) (by omega) (by decide) (by decide) (by decide) hl).mono ?_
  rintro e w3 ⟨rfl, hb3⟩
  have HB3 := Lib.hid (HB2.out.trans (hb3.mono hs2))
  clear hb3
  go_wp2_with fail
  go_ret2
  exact ⟨rfl, HB3.out⟩

set_option maxRecDepth 100000 in
set_option maxHeartbeats 4000000 in
theorem conv_Y (y mo da h mi s wk yd t : Int) (w : World) (hT : Tabs w) (hF : Fair y mo da h mi s wk yd) :
    Calls Tryz.prog 36 #[.int .u8 89, dateV y mo da h mi s wk yd, .int .i64 t] w fun e w' => e = .returned (.tuple #[.string ⟨(Lib.itoa y).toArray⟩, .bool true]) ∧ Below w.heap.size w w' := by
  have HI := Lib.hid (iso_any y mo da h mi s wk yd (w.alloc (.cells #[.int .i64 y, .int .i64 mo, .int .i64 da, .int .i64 h, .int .i64 mi, .int .i64 s, .int .i64 wk, .int .i64 yd] 23)) hF.y1 hF.y2 hF.wk1 hF.wk2 hF.yd1 hF.yd2)
  have hT1 : Tabs (w.alloc (.cells #[.int .i64 y, .int .i64 mo, .int .i64 da, .int .i64 h, .int .i64 mi, .int .i64 s, .int .i64 wk, .int .i64 yd] 23)) := hT.below ((Below.refl _ _).alloc (Nat.le_refl _) _)
  have HT1 := Lib.hid hT1
  have HF := Lib.hid hF
  have hd : dateV y mo da h mi s wk yd = .agg #[.int .i64 y, .int .i64 mo, .int .i64 da, .int .i64 h, .int .i64 mi, .int .i64 s, .int .i64 wk, .int .i64 yd] := rfl
  rw [hd] at HI ⊢
  obtain ⟨A, hA⟩ : ∃ A, A = isoA y wk yd := ⟨_, rfl⟩
  obtain ⟨R, hR⟩ : ∃ R, R = isoW y wk yd := ⟨_, rfl⟩
  rw [← hA, ← hR] at HI
  have HR := Lib.hid hR
  clear hd hT hT1 hA hR
  go_enter Tryz.func36, Tryz.ntmps36
  go_wp2_with fail
  refine HI.out.mono ?_
  rintro e w2 ⟨rfl, hb⟩
  have hb' : Below (w.heap.size + 1) (w.alloc (.cells #[.int .i64 y, .int .i64 mo, .int .i64 da, .int .i64 h, .int .i64 mi, .int .i64 s, .int .i64 wk, .int .i64 yd] 23)) w2 := by
    have e1 : (w.alloc (.cells #[.int .i64 y, .int .i64 mo, .int .i64 da, .int .i64 h, .int .i64 mi, .int .i64 s, .int .i64 wk, .int .i64 yd] 23)).heap.size = w.heap.size + 1 := by simp
    rw [← e1]; exact hb
  have hc := box_cell w w2 0 _ _ 23 hb' rfl
  have HT2 := Lib.hid (HT1.out.below hb)
  have HB2 := Lib.hid (((Below.refl w.heap.size w).alloc (Nat.le_refl _) (.cells #[.int .i64 y, .int .i64 mo, .int .i64 da, .int .i64 h, .int .i64 mi, .int .i64 s, .int .i64 wk, .int .i64 yd] 23)).trans (hb'.mono (Nat.le_succ _)))
  have hs2 := HB2.out.size
  clear hb hb' HI HT1
  go_wp2_with fail
  refine (Tryz.strconv_Itoa y (by have := HF.out.y1; omega) (by have := HF.out.y2; omega) _ HT2.out.pow).mono ?_
  rintro e w3 ⟨rfl, q, os, hw3⟩
  have HB3 := Lib.hid (HB2.out.trans (show Below w.heap.size w2 w3 by rw [hw3]; exact (Lib.below_grow _ _ hs2 _ _)))
  clear hw3
  go_wp2_with fail
  go_ret2
  exact ⟨rfl, HB3.out⟩

set_option maxRecDepth 100000 in
set_option maxHeartbeats 4000000 in
theorem conv_s (y mo da h mi s wk yd t : Int) (w : World) (hT : Tabs w) (hF : Fair y mo da h mi s wk yd) (ht1 : -9223372036854775808 ≤ t) (ht2 : t ≤ 9223372036854775807) :
    Calls Tryz.prog 36 #[.int .u8 115, dateV y mo da h mi s wk yd, .int .i64 t] w fun e w' => e = .returned (.tuple #[.string ⟨(Lib.itoa t).toArray⟩, .bool true]) ∧ Below w.heap.size w w' := by
  have HI := Lib.hid (iso_any y mo da h mi s wk yd (w.alloc (.cells #[.int .i64 y, .int .i64 mo, .int .i64 da, .int .i64 h, .int .i64 mi, .int .i64 s, .int .i64 wk, .int .i64 yd] 23)) hF.y1 hF.y2 hF.wk1 hF.wk2 hF.yd1 hF.yd2)
  have hT1 : Tabs (w.alloc (.cells #[.int .i64 y, .int .i64 mo, .int .i64 da, .int .i64 h, .int .i64 mi, .int .i64 s, .int .i64 wk, .int .i64 yd] 23)) := hT.below ((Below.refl _ _).alloc (Nat.le_refl _) _)
  have HT1 := Lib.hid hT1
  have HF := Lib.hid hF
  have hd : dateV y mo da h mi s wk yd = .agg #[.int .i64 y, .int .i64 mo, .int .i64 da, .int .i64 h, .int .i64 mi, .int .i64 s, .int .i64 wk, .int .i64 yd] := rfl
  rw [hd] at HI ⊢
  obtain ⟨A, hA⟩ : ∃ A, A = isoA y wk yd := ⟨_, rfl⟩
  obtain ⟨R, hR⟩ : ∃ R, R = isoW y wk yd := ⟨_, rfl⟩
  rw [← hA, ← hR] at HI
  have HR := Lib.hid hR
  clear hd hT hT1 hA hR
  go_enter Tryz.func36, Tryz.ntmps36
  go_wp2_with fail
  refine HI.out.mono ?_
  rintro e w2 ⟨rfl, hb⟩
  have hb' : Below (w.heap.size + 1) (w.alloc (.cells #[.int .i64 y, .int .i64 mo, .int .i64 da, .int .i64 h, .int .i64 mi, .int .i64 s, .int .i64 wk, .int .i64 yd] 23)) w2 := by
    have e1 : (w.alloc (.cells #[.int .i64 y, .int .i64 mo, .int .i64 da, .int .i64 h, .int .i64 mi, .int .i64 s, .int .i64 wk, .int .i64 yd] 23)).heap.size = w.heap.size + 1 := by simp
    rw [← e1]; exact hb
  have HT2 := Lib.hid (HT1.out.below hb)
  have HB2 := Lib.hid (((Below.refl w.heap.size w).alloc (Nat.le_refl _) (.cells #[.int .i64 y, .int .i64 mo, .int .i64 da, .int .i64 h, .int .i64 mi, .int .i64 s, .int .i64 wk, .int .i64 yd] 23)).trans (hb'.mono (Nat.le_succ _)))
  have hs2 := HB2.out.size
  clear hb hb' HI HT1
  go_wp2_with fail
  refine (Tryz.strconv_Itoa t ht1 ht2 _ HT2.out.pow).mono ?_
  rintro e w3 ⟨rfl, q, os, hw3⟩
  have HB3 := Lib.hid (HB2.out.trans (show Below w.heap.size w2 w3 by rw [hw3]; exact (Lib.below_grow _ _ hs2 _ _)))
  clear hw3
  go_wp2_with fail
  go_ret2
  exact ⟨rfl, HB3.out⟩

theorem days_split : Lib.splitB ⟨#[32]⟩ 0 (Lib.countB ⟨#[83, 117, 110, 100, 97, 121, 32, 77, 111, 110, 100, 97, 121, 32, 84, 117, 101, 115, 100, 97, 121, 32, 87, 101, 100, 110, 101, 115, 100, 97, 121, 32, 84, 104, 117, 114, 115, 100, 97, 121, 32, 70, 114, 105, 100, 97, 121, 32, 83, 97, 116, 117, 114, 100, 97, 121]⟩ ⟨#[32]⟩) ⟨#[83, 117, 110, 100, 97, 121, 32, 77, 111, 110, 100, 97, 121, 32, 84, 117, 101, 115, 100, 97, 121, 32, 87, 101, 100, 110, 101, 115, 100, 97, 121, 32, 84, 104, 117, 114, 115, 100, 97, 121, 32, 70, 114, 105, 100, 97, 121, 32, 83, 97, 116, 117, 114, 100, 97, 121]⟩ = [⟨#[83, 117, 110, 100, 97, 121]⟩, ⟨#[77, 111, 110, 100, 97, 121]⟩, ⟨#[84, 117, 101, 115, 100, 97, 121]⟩, ⟨#[87, 101, 100, 110, 101, 115, 100, 97, 121]⟩, ⟨#[84, 104, 117, 114, 115, 100, 97, 121]⟩, ⟨#[70, 114, 105, 100, 97, 121]⟩, ⟨#[83, 97, 116, 117, 114, 100, 97, 121]⟩] := by kernel_rfl
/-- the days' names -/
def dayS : ByteArray := ⟨#[83, 117, 110, 100, 97, 121, 32, 77, 111, 110, 100, 97, 121, 32, 84, 117, 101, 115, 100, 97, 121, 32, 87, 101, 100, 110, 101, 115, 100, 97, 121, 32, 84, 104, 117, 114, 115, 100, 97, 121, 32, 70, 114, 105, 100, 97, 121, 32, 83, 97, 116, 117, 114, 100, 97, 121]⟩
theorem name_tue (w : World) (hT : Tabs w) : Calls Tryz.prog 63 #[.string dayS, .int .i64 2] w fun e w' => e = .returned (.string ⟨#[84, 117, 101, 115, 100, 97, 121]⟩) ∧ Below w.heap.size w w' :=
  name_any dayS 2 _ _ w hT (by decide) days_split (by kernel_rfl) (by decide) rfl (by decide)

set_option maxRecDepth 100000 in
set_option maxHeartbeats 4000000 in
theorem conv_a (y mo da h mi s yd t : Int) (w : World) (hT : Tabs w) (hF : Fair y mo da h mi s 2 yd) :
    Calls Tryz.prog 36 #[.int .u8 97, dateV y mo da h mi s 2 yd, .int .i64 t] w fun e w' => e = .returned (.tuple #[.string ⟨#[84, 117, 101]⟩, .bool true]) ∧ Below w.heap.size w w' := by
  have HI := Lib.hid (iso_any y mo da h mi s 2 yd (w.alloc (.cells #[.int .i64 y, .int .i64 mo, .int .i64 da, .int .i64 h, .int .i64 mi, .int .i64 s, .int .i64 2, .int .i64 yd] 23)) hF.y1 hF.y2 hF.wk1 hF.wk2 hF.yd1 hF.yd2)
  have hT1 : Tabs (w.alloc (.cells #[.int .i64 y, .int .i64 mo, .int .i64 da, .int .i64 h, .int .i64 mi, .int .i64 s, .int .i64 2, .int .i64 yd] 23)) := hT.below ((Below.refl _ _).alloc (Nat.le_refl _) _)
  have HT1 := Lib.hid hT1
  have HF := Lib.hid hF
  have hd : dateV y mo da h mi s 2 yd = .agg #[.int .i64 y, .int .i64 mo, .int .i64 da, .int .i64 h, .int .i64 mi, .int .i64 s, .int .i64 2, .int .i64 yd] := rfl
  rw [hd] at HI ⊢
  obtain ⟨A, hA⟩ : ∃ A, A = isoA y 2 yd := ⟨_, rfl⟩
  obtain ⟨R, hR⟩ : ∃ R, R = isoW y 2 yd := ⟨_, rfl⟩
  rw [← hA, ← hR] at HI
  have HR := Lib.hid hR
  clear hd hT hT1 hA hR
  go_enter Tryz.func36, Tryz.ntmps36
  go_wp2_with fail
  refine HI.out.mono ?_
  rintro e w2 ⟨rfl, hb⟩
  have hb' : Below (w.heap.size + 1) (w.alloc (.cells #[.int .i64 y, .int .i64 mo, .int .i64 da, .int .i64 h, .int .i64 mi, .int .i64 s, .int .i64 2, .int .i64 yd] 23)) w2 := by
    have e1 : (w.alloc (.cells #[.int .i64 y, .int .i64 mo, .int .i64 da, .int .i64 h, .int .i64 mi, .int .i64 s, .int .i64 2, .int .i64 yd] 23)).heap.size = w.heap.size + 1 := by simp
    rw [← e1]; exact hb
  have hc := box_cell w w2 6 _ _ 23 hb' rfl
  have HT2 := Lib.hid (HT1.out.below hb)
  have HB2 := Lib.hid (((Below.refl w.heap.size w).alloc (Nat.le_refl _) (.cells #[.int .i64 y, .int .i64 mo, .int .i64 da, .int .i64 h, .int .i64 mi, .int .i64 s, .int .i64 2, .int .i64 yd] 23)).trans (hb'.mono (Nat.le_succ _)))
  have hs2 := HB2.out.size
  clear hb hb' HI HT1
  go_wp2_with fail
  refine (name_tue _ HT2.out).mono ?_
  rintro e w3 ⟨rfl, hb3⟩
  have HB3 := Lib.hid (HB2.out.trans (hb3.mono hs2))
  clear hb3
  go_wp2_with fail
  go_ret2
  exact ⟨rfl, HB3.out⟩
end Go.Proofs.YtcipmfjefmjacaaGreatDoor
