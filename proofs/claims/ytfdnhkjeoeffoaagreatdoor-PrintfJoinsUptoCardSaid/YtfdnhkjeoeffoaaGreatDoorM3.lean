/- Several texts in one (P4, N13, N14, N15, N16, D1, D2). -/
import Derived.Test.YtfdnhkjeoeffoaaGreatDoorM2
import Derived.Test.YtfdnhkjeoeffoaaGreatDoorShelfR
import Derived.Laws.IdiomStrings
import Derived.Lib.OwnBridge
section
/- Package format: Parse. -/
namespace Go.Proofs.YtfdnhkjeoeffoaaGreatDoor
open Go.RowKit
set_option linter.unusedVariables false
/-- the letters of verbs: of all, of numbers -/
def verbsB : ByteArray := ⟨#[100, 105, 111, 120, 88, 117, 101, 69, 102, 70, 103, 71, 99, 115, 37]⟩
def ixB (t : ByteArray) (c : Nat) : Int := Lib.indexByte t.data.toList c.toUInt8
def zeroA : Array Value := pieceA false false false false false 0 0 0 false false 0
def pw (s : ByteArray) (k : Nat) : Nat := k + 1 + flagN s (k + 1)
def fw (s : ByteArray) (k : Nat) : Int × Bool × Bool × Nat := figV s (pw s k)
def pd (s : ByteArray) (k : Nat) : Nat := pw s k + (fw s k).2.2.2
def dotP (s : ByteArray) (k : Nat) : Bool := ch s (pd s k) == 46 && (fw s k).2.2.1
def fp (s : ByteArray) (k : Nat) : Int × Bool × Bool × Nat := if dotP s k then figV s (pd s k + 1) else (-1, false, (fw s k).2.2.1, 0)
def pv (s : ByteArray) (k : Nat) : Nat := if dotP s k then pd s k + 1 + (fp s k).2.2.2 else pd s k
def okP (s : ByteArray) (k : Nat) : Bool := (fp s k).2.2.1 && (ch s (pv s k) != 0) && decide (0 ≤ ixB verbsB (ch s (pv s k)))
def pieceP (s : ByteArray) (k : Nat) : Array Value :=
 pieceA (hasF 45 s (k + 1) (flagN s (k + 1))) (hasF 43 s (k + 1) (flagN s (k + 1))) (hasF 32 s (k + 1) (flagN s (k + 1))) (hasF 35 s (k + 1) (flagN s (k + 1))) (hasF 48 s (k + 1) (flagN s (k + 1)))
  (fw s k).1 (fp s k).1 ((ch s (pv s k) : Nat) : Int) (fw s k).2.1 (fp s k).2.1 ((pv s k + 1 : Nat) : Int)
/-- what Parse answers -/
def parseA (s : ByteArray) (i : Int) : Array Value := if chr s i = 37 ∧ okP s i.toNat = true then pieceP s i.toNat else zeroA
def parseE (s : ByteArray) (i : Int) : Int := if chr s i = 37 ∧ okP s i.toNat = true then 0 else 50
theorem figV_le (s : ByteArray) (i : Nat) : (figV s i).2.2.2 ≤ s.size + 1 := by
 have h := digN_le s i
 unfold figV
 split
 ·show 1 ≤ _
  omega
 ·split
  ·show digN s i ≤ _
   omega
  ·show digN s i ≤ _
   omega
theorem chr_in {s : ByteArray} {i : Int} (h : chr s i ≠ 0) : ∃ k : Nat, i = (k : Int) ∧ k < s.size := by
 unfold chr at h
 rcases Int.lt_or_le i 0 with hi | hi
 ·rw [if_pos hi] at h; exact absurd rfl h
 ·rw [if_neg (by omega)] at h
  refine ⟨i.toNat, by omega, ?_⟩
  rcases Nat.lt_or_ge i.toNat s.size with hk | hk
  ·exact hk
  ·exact absurd (ch_out hk) h
/-- a piece stored whole -/
theorem PcAt.all {w : World} {r : Nat} {u0 u1 u2 u3 u4 u5 u6 u7 u8 u9 u10 : Value} (h : PcAt w r #[u0, u1, u2, u3, u4, u5, u6, u7, u8, u9, u10]) (v0 v1 v2 v3 v4 v5 v6 v7 v8 v9 v10 : Value) :
 PcAt (((((((((((w.setCell ⟨r, 0, none⟩ v0).setCell ⟨r, 1, none⟩ v1).setCell ⟨r, 2, none⟩ v2).setCell ⟨r, 3, none⟩ v3).setCell ⟨r, 4, none⟩ v4).setCell ⟨r, 5, none⟩ v5).setCell ⟨r, 6, none⟩ v6).setCell ⟨r, 7, none⟩ v7).setCell ⟨r, 8, none⟩ v8).setCell ⟨r, 9, none⟩ v9).setCell ⟨r, 10, none⟩ v10) r #[v0, v1, v2, v3, v4, v5, v6, v7, v8, v9, v10] := by
 have h0 : PcAt _ r #[v0, u1, u2, u3, u4, u5, u6, u7, u8, u9, u10] := h.set 0 v0
 have h1 : PcAt _ r #[v0, v1, u2, u3, u4, u5, u6, u7, u8, u9, u10] := h0.set 1 v1
 have h2 : PcAt _ r #[v0, v1, v2, u3, u4, u5, u6, u7, u8, u9, u10] := h1.set 2 v2
 have h3 : PcAt _ r #[v0, v1, v2, v3, u4, u5, u6, u7, u8, u9, u10] := h2.set 3 v3
 have h4 : PcAt _ r #[v0, v1, v2, v3, v4, u5, u6, u7, u8, u9, u10] := h3.set 4 v4
 have h5 : PcAt _ r #[v0, v1, v2, v3, v4, v5, u6, u7, u8, u9, u10] := h4.set 5 v5
 have h6 : PcAt _ r #[v0, v1, v2, v3, v4, v5, v6, u7, u8, u9, u10] := h5.set 6 v6
 have h7 : PcAt _ r #[v0, v1, v2, v3, v4, v5, v6, v7, u8, u9, u10] := h6.set 7 v7
 have h8 : PcAt _ r #[v0, v1, v2, v3, v4, v5, v6, v7, v8, u9, u10] := h7.set 8 v8
 have h9 : PcAt _ r #[v0, v1, v2, v3, v4, v5, v6, v7, v8, v9, u10] := h8.set 9 v9
 have h10 : PcAt _ r #[v0, v1, v2, v3, v4, v5, v6, v7, v8, v9, v10] := h9.set 10 v10
 exact h10
theorem below_all {n : Nat} {a w : World} {r : Nat} (h : Below n a w) (hr : n ≤ r) (v0 v1 v2 v3 v4 v5 v6 v7 v8 v9 v10 : Value) :
 Below n a (((((((((((w.setCell ⟨r, 0, none⟩ v0).setCell ⟨r, 1, none⟩ v1).setCell ⟨r, 2, none⟩ v2).setCell ⟨r, 3, none⟩ v3).setCell ⟨r, 4, none⟩ v4).setCell ⟨r, 5, none⟩ v5).setCell ⟨r, 6, none⟩ v6).setCell ⟨r, 7, none⟩ v7).setCell ⟨r, 8, none⟩ v8).setCell ⟨r, 9, none⟩ v9).setCell ⟨r, 10, none⟩ v10) := (((((((((((h.setCell (p := ⟨r, 0, none⟩) hr v0).setCell (p := ⟨r, 1, none⟩) hr v1).setCell (p := ⟨r, 2, none⟩) hr v2).setCell (p := ⟨r, 3, none⟩) hr v3).setCell (p := ⟨r, 4, none⟩) hr v4).setCell (p := ⟨r, 5, none⟩) hr v5).setCell (p := ⟨r, 6, none⟩) hr v6).setCell (p := ⟨r, 7, none⟩) hr v7).setCell (p := ⟨r, 8, none⟩) hr v8).setCell (p := ⟨r, 9, none⟩) hr v9).setCell (p := ⟨r, 10, none⟩) hr v10)
set_option maxHeartbeats 8000000 in
set_option maxRecDepth 1000000 in
theorem FParse_any (s : ByteArray) (i : Int) (w : World) (hs : s.size ≤ 200000000000000) (hE : ErrOk w) :
 Calls Tryz.prog 65 #[.string s, .int .i64 i] w fun e w' => e = .returned (.tuple #[.agg (parseA s i), .int .i64 (parseE s i)]) ∧ Below w.heap.size w w' := by
 have HE := Lib.hid hE
 have hel := hE.lt
 have HQA : Hid (parseA s i = if chr s i = 37 ∧ okP s i.toNat = true then pieceP s i.toNat else zeroA) := rfl
 have HQE : Hid (parseE s i = if chr s i = 37 ∧ okP s i.toNat = true then 0 else 50) := rfl
 generalize parseA s i = QA at *
 generalize parseE s i = QE at *
 have HX := Lib.hid (fun r W h => next_any s i r W h)
 have HX0 := HX
 clear hE
 by_cases h37 : chr s i = 37
 ·obtain ⟨k, rfl, hk⟩ := chr_in (s := s) (i := i) (by rw [h37]; decide)
  rw [Int.toNat_natCast, h37] at HQA HQE
  rw [h37] at HX0
  have HQA1 : Hid (QA = if okP s k = true then pieceP s k else zeroA) := by show _ = _; simpa using HQA.out
  have HQE1 : Hid (QE = if okP s k = true then 0 else 50) := by show _ = _; simpa using HQE.out
  clear HQA HQE h37
  unfold pieceP at HQA1
  have HF := Lib.hid (fun r p W h1 h2 h3 h4 => flags_any s (k + 1) r p 0 (-1) 0 false false 0 W h1 h2 h3 h4)
  have hfn : flagN s (k + 1) ≤ s.size - (k + 1) := by
   unfold flagN
   refine Nat.le_trans (List.takeWhile_sublist _).length_le ?_
   rw [List.length_drop, sz_list]
   exact Nat.le_refl _
  have hpw : pw s k = k + 1 + flagN s (k + 1) := rfl
  have HPW1 := Lib.hid hpw
  rw [← HPW1.out] at HF
  have hp1 : pw s k ≤ s.size := by omega
  have HN1 := Lib.hid (fun r W h1 h2 h3 => number_any s (pw s k) r W h1 hp1 hs h2 h3)
  clear hpw hfn
  rw [show figV s (pw s k) = fw s k from rfl] at HN1
  have hpd : pd s k = pw s k + (fw s k).2.2.2 := rfl
  rw [← hpd] at HN1
  clear hpd
  generalize hasF 45 s (k + 1) (flagN s (k + 1)) = fm at *
  generalize hasF 43 s (k + 1) (flagN s (k + 1)) = fp1 at *
  generalize hasF 32 s (k + 1) (flagN s (k + 1)) = fb at *
  generalize hasF 35 s (k + 1) (flagN s (k + 1)) = fa at *
  generalize hasF 48 s (k + 1) (flagN s (k + 1)) = fz at *
  have HND := Lib.hid (fun r W h => next_any s (pd s k : Int) r W h)
  rw [show chr s (pd s k : Int) = ch s (pd s k) from chr_nat _ _] at HND
  go_enter Tryz.func65, Tryz.ntmps65
  go_wp2_with fail
  have hr0 : RdAt ((w.alloc (.cells #[.bool false, .bool false, .bool false, .bool false, .bool false, .int .i64 0, .int .i64 0, .int .u8 0, .bool false, .bool false, .int .i64 0] 101)).alloc (.cells #[.string s, .int .i64 (k : Int)] 172)) (w.heap.size + 1) s k := by
   have h := heap_alloc_at (w.alloc (.cells #[.bool false, .bool false, .bool false, .bool false, .bool false, .int .i64 0, .int .i64 0, .int .u8 0, .bool false, .bool false, .int .i64 0] 101)) (.cells #[.string s, .int .i64 (k : Int)] 172)
   rw [World.size_alloc] at h
   exact h
  have hp0 : PcAt ((w.alloc (.cells #[.bool false, .bool false, .bool false, .bool false, .bool false, .int .i64 0, .int .i64 0, .int .u8 0, .bool false, .bool false, .int .i64 0] 101)).alloc (.cells #[.string s, .int .i64 (k : Int)] 172)) w.heap.size zeroA :=
   (heap_alloc_lt _ _ _ (by simp)).trans (heap_alloc_at w _)
  have hB0 : Below w.heap.size w ((w.alloc (.cells #[.bool false, .bool false, .bool false, .bool false, .bool false, .int .i64 0, .int .i64 0, .int .u8 0, .bool false, .bool false, .int .i64 0] 101)).alloc (.cells #[.string s, .int .i64 (k : Int)] 172)) := ((Below.refl _ _).alloc (Nat.le_refl _) _).alloc (by simp) _
  refine (HX0.out (w.heap.size + 1) _ hr0).mono ?_
  rintro e w1 ⟨rfl, hb⟩
  have HP1 := Lib.hid (hp0.below hb)
  have HR1 := Lib.hid (hr0.below hb)
  have HB1 := Lib.hid (hB0.trans (hb.mono hB0.size))
  have c1 := HR1.out.c1
  have f1 := HR1.out.f1
  have hz1 := hb.size
  rw [World.size_alloc, World.size_alloc] at hz1
  have hk1 : (k : Int) + 1 ≤ 200000000000000 := by omega
  clear hr0 hp0 hB0 hb HX0
  go_wp2_with fail
  -- MAIN
  have HDP : Hid (dotP s k = (ch s (pd s k) == 46 && (fw s k).2.2.1)) := rfl
  have HFP : Hid (fp s k = if dotP s k then figV s (pd s k + 1) else (-1, false, (fw s k).2.2.1, 0)) := rfl
  have HPV : Hid (pv s k = if dotP s k then pd s k + 1 + (fp s k).2.2.2 else pd s k) := rfl
  have HOK : Hid (okP s k = ((fp s k).2.2.1 && (ch s (pv s k) != 0) && decide (0 ≤ ixB verbsB (ch s (pv s k))))) := rfl
  have HDL := Lib.hid (fun h : ch s (pd s k) = 46 => show pd s k + 1 ≤ s.size from by
   rcases Nat.lt_or_ge (pd s k) s.size with h' | h'
   ·exact h'
   ·rw [ch_out h'] at h; cases h)
  have HIX : Hid (∀ (c : Nat) (Z : Int) (W : World), (c : Int) = Z → Calls Tryz.prog 69 #[.string ⟨#[100, 105, 111, 120, 88, 117, 101, 69, 102, 70, 103, 71, 99, 115, 37]⟩, .int .u8 Z] W fun e w' => e = .returned (.int .i64 (ixB verbsB c)) ∧ w' = W) :=
   fun c Z W h => h ▸ Tryz.strings_IndexByte verbsB (c : Int) W
  have hDle : pd s k ≤ 700000000000000 := by
   have h1 := figV_le s (pw s k)
   have h2 : pd s k = pw s k + (figV s (pw s k)).2.2.2 := rfl
   omega
  generalize hW2 : World.alloc _ _ = W2
  have z2 : W2.heap.size = w1.heap.size + 1 := by rw [← hW2]; simp [World.setCell]
  have HR2 := Lib.hid (show RdAt W2 (w.heap.size + 1) s ((k + 1 : Nat) : Int) from by
   rw [← hW2]; exact (heap_alloc_lt _ _ _ (by simp [World.setCell]; omega)).trans (HR1.out.step _))
  have HP2 := Lib.hid (show PcAt W2 w1.heap.size (pieceA false false false false false 0 (-1) 0 false false 0) from by
   rw [← hW2, show w1.heap.size = (w1.setCell ⟨w.heap.size + 1, 1, none⟩ (.int .i64 ((k : Int) + 1))).heap.size from by simp [World.setCell]]
   exact heap_alloc_at _ _)
  have HQ2 := Lib.hid (show PcAt W2 w.heap.size zeroA from by
   rw [← hW2]; exact (heap_alloc_lt _ _ _ (by simp [World.setCell]; omega)).trans (HP1.out.other 1 _ (by omega)))
  have HB2 := Lib.hid (show Below w.heap.size w W2 from by
   rw [← hW2]; exact (HB1.out.setCell (p := ⟨w.heap.size + 1, 1, none⟩) (by simp) _).alloc (by simp [World.setCell]; omega) _)
  clear hW2 c1 f1 HR1 HP1 HB1
  refine (HF.out (w.heap.size + 1) w1.heap.size W2 HR2.out HP2.out (by omega) (by omega)).mono ?_
  rintro e w3 ⟨rfl, hr3, hp3, ha3⟩
  have hz3 := ha3.size
  have HR3 := Lib.hid hr3
  have HP3 := Lib.hid hp3
  have HQ3 := Lib.hid (HQ2.out.keep ha3 (by simp; omega))
  have HB3 := Lib.hid (HB2.out.trans (ha3.below (B := w.heap.size) (by omega) (by simp; omega)))
  clear hr3 hp3 ha3 HR2 HP2 HQ2 HB2 HF
  go_wp2_with fail
  refine (HN1.out (w.heap.size + 1) w3 HR3.out (HE.out.below HB3.out) (by omega)).mono ?_
  rintro e w4 ⟨rfl, hr4, ha4⟩
  have hz4 := ha4.size
  have HR4 := Lib.hid hr4
  have HP4 := Lib.hid (HP3.out.keep ha4 (by simp; omega))
  have HQ4 := Lib.hid (HQ3.out.keep ha4 (by simp))
  have HB4 := Lib.hid (HB3.out.trans (ha4.below (B := w.heap.size) (by omega) (by simp)))
  have k5 : w4.cell? ⟨w1.heap.size, 5, none⟩ = some (.int .i64 0) := HP4.out.cell 5
  have k8 : w4.cell? ⟨w1.heap.size, 8, none⟩ = some (.bool false) := HP4.out.cell 8
  have kf : ∀ j, w4.frozen? ⟨w1.heap.size, j, none⟩ = false := HP4.out.frozen
  generalize (fw s k).1 = n1 at *
  generalize (fw s k).2.1 = st1 at *
  generalize (fw s k).2.2.1 = ok1 at *
  clear hr4 ha4 HR3 HP3 HQ3 HB3 HN1
  go_wp2_with fail
  refine (HND.out (w.heap.size + 1) _ ((HR4.out.other 5 _ (by omega)).other 8 _ (by omega))).mono ?_
  rintro e w5 ⟨rfl, hb⟩
  have hz5 := hb.size
  simp only [World.size_setCell] at hz5
  have HR5 := Lib.hid (((HR4.out.other 5 (.int .i64 n1) (show w.heap.size + 1 ≠ w1.heap.size by omega)).other 8 (.bool st1) (by omega)).below hb)
  have HP5 := Lib.hid (show PcAt w5 w1.heap.size (pieceA fm fp1 fb fa fz n1 (-1) 0 st1 false 0) from (((HP4.out.set 5 _).set 8 _).below hb))
  have HQ5 := Lib.hid (((HQ4.out.other 5 (.int .i64 n1) (show w.heap.size ≠ w1.heap.size by omega)).other 8 (.bool st1) (by omega)).below hb)
  have HB5 := Lib.hid (((HB4.out.setCell (p := ⟨w1.heap.size, 5, none⟩) (by simp; omega) (.int .i64 n1)).setCell (p := ⟨w1.heap.size, 8, none⟩) (by simp; omega) (.bool st1)).trans (hb.mono (by simp only [World.size_setCell]; omega)))
  generalize ch s (pd s k) = C at *
  generalize pd s k = D at *
  clear hb k5 k8 kf HR4 HP4 HQ4 HB4 HND
  by_cases hC : C = 46
  ·subst hC
   have hDL := HDL.out rfl
   clear HDL
   cases ok1
   ·have HF1 : Hid (fp s k = (-1, false, false, 0)) := by show _ = _; rw [HFP.out, HDP.out]; rfl
    have HV1 : Hid (pv s k = D) := by show _ = _; rw [HPV.out, HDP.out]; rfl
    clear HFP HPV HDP
    go_wp2_with fail
    rw [← HV1.out] at HR5
    have HRt := HR5
    have HPt := HP5
    have HQt := HQ5
    have HBt := HB5
    have HNt := Lib.hid (next_any s (pv s k : Nat) (w.heap.size + 1) w5 HRt.out)
    rw [chr_nat] at HNt
    refine HNt.out.mono ?_
    rintro e wa ⟨rfl, hb⟩
    have hza := hb.size
    try simp only [World.size_setCell] at hza
    have HRa := Lib.hid (HRt.out.below hb)
    have HPa := Lib.hid (HPt.out.below hb)
    have HQa := Lib.hid (HQt.out.below hb)
    have HBa := Lib.hid (HBt.out.trans (hb.mono (by first | omega | (simp only [World.size_setCell]; omega))))
    have hV := ch_lt s (pv s k)
    have hX : pv s k ≤ 700000000000000 := by rw [HV1.out]; exact hDle
    generalize ch s (pv s k) = V at *
    generalize pv s k = X at *
    rw [show ((X + 1 : Nat) : Int) = (X : Int) + 1 from by omega] at HQA1
    generalize hZ : ((V : Nat) : Int) = Z at *
    have HZ := Lib.hid hZ
    clear hZ
    clear hb HNt HRt HPt HQt HBt
    have k7 : wa.cell? ⟨w1.heap.size, 7, none⟩ = some (.int .u8 0) := HPa.out.cell 7
    have kfa : ∀ j, wa.frozen? ⟨w1.heap.size, j, none⟩ = false := HPa.out.frozen
    have q1 : (wa.setCell ⟨w1.heap.size, 7, none⟩ (.int .u8 Z)).cell? ⟨w.heap.size + 1, 1, none⟩ = some (.int .i64 (X : Nat)) := (HRa.out.other 7 _ (by omega)).c1
    have q2 : (wa.setCell ⟨w1.heap.size, 7, none⟩ (.int .u8 Z)).cell? ⟨w1.heap.size, 10, none⟩ = some (.int .i64 0) := (HPa.out.set 7 _).cell 10
    have HPc := Lib.hid (show PcAt ((wa.setCell ⟨w1.heap.size, 7, none⟩ (.int .u8 Z)).setCell ⟨w1.heap.size, 10, none⟩ (.int .i64 ((X : Int) + 1))) w1.heap.size (pieceA fm fp1 fb fa fz n1 (-1) Z st1 false ((X : Int) + 1)) from (HPa.out.set 7 _).set 10 _)
    have HQc := Lib.hid (show PcAt ((wa.setCell ⟨w1.heap.size, 7, none⟩ (.int .u8 Z)).setCell ⟨w1.heap.size, 10, none⟩ (.int .i64 ((X : Int) + 1))) w.heap.size zeroA from (HQa.out.other 7 _ (by omega)).other 10 _ (by omega))
    have HBc := Lib.hid (show Below w.heap.size w ((wa.setCell ⟨w1.heap.size, 7, none⟩ (.int .u8 Z)).setCell ⟨w1.heap.size, 10, none⟩ (.int .i64 ((X : Int) + 1))) from (HBa.out.setCell (p := ⟨w1.heap.size, 7, none⟩) (by simp; omega) _).setCell (p := ⟨w1.heap.size, 10, none⟩) (by simp; omega) _)
    have y0 : ((wa.setCell ⟨w1.heap.size, 7, none⟩ (.int .u8 Z)).setCell ⟨w1.heap.size, 10, none⟩ (.int .i64 ((X : Int) + 1))).cell? ⟨w1.heap.size, 0, none⟩ = some (.bool fm) := HPc.out.cell 0
    have y1 : ((wa.setCell ⟨w1.heap.size, 7, none⟩ (.int .u8 Z)).setCell ⟨w1.heap.size, 10, none⟩ (.int .i64 ((X : Int) + 1))).cell? ⟨w1.heap.size, 1, none⟩ = some (.bool fp1) := HPc.out.cell 1
    have y2 : ((wa.setCell ⟨w1.heap.size, 7, none⟩ (.int .u8 Z)).setCell ⟨w1.heap.size, 10, none⟩ (.int .i64 ((X : Int) + 1))).cell? ⟨w1.heap.size, 2, none⟩ = some (.bool fb) := HPc.out.cell 2
    have y3 : ((wa.setCell ⟨w1.heap.size, 7, none⟩ (.int .u8 Z)).setCell ⟨w1.heap.size, 10, none⟩ (.int .i64 ((X : Int) + 1))).cell? ⟨w1.heap.size, 3, none⟩ = some (.bool fa) := HPc.out.cell 3
    have y4 : ((wa.setCell ⟨w1.heap.size, 7, none⟩ (.int .u8 Z)).setCell ⟨w1.heap.size, 10, none⟩ (.int .i64 ((X : Int) + 1))).cell? ⟨w1.heap.size, 4, none⟩ = some (.bool fz) := HPc.out.cell 4
    have y5 : ((wa.setCell ⟨w1.heap.size, 7, none⟩ (.int .u8 Z)).setCell ⟨w1.heap.size, 10, none⟩ (.int .i64 ((X : Int) + 1))).cell? ⟨w1.heap.size, 5, none⟩ = some (.int .i64 n1) := HPc.out.cell 5
    have y6 : ((wa.setCell ⟨w1.heap.size, 7, none⟩ (.int .u8 Z)).setCell ⟨w1.heap.size, 10, none⟩ (.int .i64 ((X : Int) + 1))).cell? ⟨w1.heap.size, 6, none⟩ = some (.int .i64 (-1)) := HPc.out.cell 6
    have y7 : ((wa.setCell ⟨w1.heap.size, 7, none⟩ (.int .u8 Z)).setCell ⟨w1.heap.size, 10, none⟩ (.int .i64 ((X : Int) + 1))).cell? ⟨w1.heap.size, 7, none⟩ = some (.int .u8 Z) := HPc.out.cell 7
    have y8 : ((wa.setCell ⟨w1.heap.size, 7, none⟩ (.int .u8 Z)).setCell ⟨w1.heap.size, 10, none⟩ (.int .i64 ((X : Int) + 1))).cell? ⟨w1.heap.size, 8, none⟩ = some (.bool st1) := HPc.out.cell 8
    have y9 : ((wa.setCell ⟨w1.heap.size, 7, none⟩ (.int .u8 Z)).setCell ⟨w1.heap.size, 10, none⟩ (.int .i64 ((X : Int) + 1))).cell? ⟨w1.heap.size, 9, none⟩ = some (.bool false) := HPc.out.cell 9
    have y10 : ((wa.setCell ⟨w1.heap.size, 7, none⟩ (.int .u8 Z)).setCell ⟨w1.heap.size, 10, none⟩ (.int .i64 ((X : Int) + 1))).cell? ⟨w1.heap.size, 10, none⟩ = some (.int .i64 ((X : Int) + 1)) := HPc.out.cell 10
    have z0 : ((wa.setCell ⟨w1.heap.size, 7, none⟩ (.int .u8 Z)).setCell ⟨w1.heap.size, 10, none⟩ (.int .i64 ((X : Int) + 1))).cell? ⟨w.heap.size, 0, none⟩ = some (.bool false) := HQc.out.cell 0
    have z1 : ((wa.setCell ⟨w1.heap.size, 7, none⟩ (.int .u8 Z)).setCell ⟨w1.heap.size, 10, none⟩ (.int .i64 ((X : Int) + 1))).cell? ⟨w.heap.size, 1, none⟩ = some (.bool false) := HQc.out.cell 1
    have z2 : ((wa.setCell ⟨w1.heap.size, 7, none⟩ (.int .u8 Z)).setCell ⟨w1.heap.size, 10, none⟩ (.int .i64 ((X : Int) + 1))).cell? ⟨w.heap.size, 2, none⟩ = some (.bool false) := HQc.out.cell 2
    have z3 : ((wa.setCell ⟨w1.heap.size, 7, none⟩ (.int .u8 Z)).setCell ⟨w1.heap.size, 10, none⟩ (.int .i64 ((X : Int) + 1))).cell? ⟨w.heap.size, 3, none⟩ = some (.bool false) := HQc.out.cell 3
    have z4 : ((wa.setCell ⟨w1.heap.size, 7, none⟩ (.int .u8 Z)).setCell ⟨w1.heap.size, 10, none⟩ (.int .i64 ((X : Int) + 1))).cell? ⟨w.heap.size, 4, none⟩ = some (.bool false) := HQc.out.cell 4
    have z5 : ((wa.setCell ⟨w1.heap.size, 7, none⟩ (.int .u8 Z)).setCell ⟨w1.heap.size, 10, none⟩ (.int .i64 ((X : Int) + 1))).cell? ⟨w.heap.size, 5, none⟩ = some (.int .i64 0) := HQc.out.cell 5
    have z6 : ((wa.setCell ⟨w1.heap.size, 7, none⟩ (.int .u8 Z)).setCell ⟨w1.heap.size, 10, none⟩ (.int .i64 ((X : Int) + 1))).cell? ⟨w.heap.size, 6, none⟩ = some (.int .i64 0) := HQc.out.cell 6
    have z7 : ((wa.setCell ⟨w1.heap.size, 7, none⟩ (.int .u8 Z)).setCell ⟨w1.heap.size, 10, none⟩ (.int .i64 ((X : Int) + 1))).cell? ⟨w.heap.size, 7, none⟩ = some (.int .u8 0) := HQc.out.cell 7
    have z8 : ((wa.setCell ⟨w1.heap.size, 7, none⟩ (.int .u8 Z)).setCell ⟨w1.heap.size, 10, none⟩ (.int .i64 ((X : Int) + 1))).cell? ⟨w.heap.size, 8, none⟩ = some (.bool false) := HQc.out.cell 8
    have z9 : ((wa.setCell ⟨w1.heap.size, 7, none⟩ (.int .u8 Z)).setCell ⟨w1.heap.size, 10, none⟩ (.int .i64 ((X : Int) + 1))).cell? ⟨w.heap.size, 9, none⟩ = some (.bool false) := HQc.out.cell 9
    have z10 : ((wa.setCell ⟨w1.heap.size, 7, none⟩ (.int .u8 Z)).setCell ⟨w1.heap.size, 10, none⟩ (.int .i64 ((X : Int) + 1))).cell? ⟨w.heap.size, 10, none⟩ = some (.int .i64 0) := HQc.out.cell 10
    have zf : ∀ j, ((wa.setCell ⟨w1.heap.size, 7, none⟩ (.int .u8 Z)).setCell ⟨w1.heap.size, 10, none⟩ (.int .i64 ((X : Int) + 1))).frozen? ⟨w.heap.size, j, none⟩ = false := HQc.out.frozen
    go_wp2_with fail
    generalize hW : World.setCell _ _ _ = W
    have hp : PcAt W w.heap.size #[.bool false, .bool false, .bool false, .bool false, .bool false, .int .i64 0, .int .i64 0, .int .u8 0, .bool false, .bool false, .int .i64 0] := by rw [← hW]; exact PcAt.all (show PcAt _ w.heap.size _ from HQc.out) _ _ _ _ _ _ _ _ _ _ _
    have hb : Below w.heap.size w W := by rw [← hW]; exact below_all HBc.out (Nat.le_refl _) _ _ _ _ _ _ _ _ _ _ _
    have hok : okP s k = false := by rw [HOK.out, HF1.out]; rfl
    rw [HQA1.out, HQE1.out, hok]
    clear hW z0 z1 z2 z3 z4 z5 z6 z7 z8 z9 z10 y0 y1 y2 y3 y4 y5 y6 y7 y8 y9 y10
    have k0 : W.cell? ⟨w.heap.size, 0, none⟩ = some (.bool false) := hp.cell 0
    have k1 : W.cell? ⟨w.heap.size, 1, none⟩ = some (.bool false) := hp.cell 1
    have k2 : W.cell? ⟨w.heap.size, 2, none⟩ = some (.bool false) := hp.cell 2
    have k3 : W.cell? ⟨w.heap.size, 3, none⟩ = some (.bool false) := hp.cell 3
    have k4 : W.cell? ⟨w.heap.size, 4, none⟩ = some (.bool false) := hp.cell 4
    have k5 : W.cell? ⟨w.heap.size, 5, none⟩ = some (.int .i64 0) := hp.cell 5
    have k6 : W.cell? ⟨w.heap.size, 6, none⟩ = some (.int .i64 0) := hp.cell 6
    have k7 : W.cell? ⟨w.heap.size, 7, none⟩ = some (.int .u8 0) := hp.cell 7
    have k8 : W.cell? ⟨w.heap.size, 8, none⟩ = some (.bool false) := hp.cell 8
    have k9 : W.cell? ⟨w.heap.size, 9, none⟩ = some (.bool false) := hp.cell 9
    have k10 : W.cell? ⟨w.heap.size, 10, none⟩ = some (.int .i64 0) := hp.cell 10
    clear hp
    exact bodyPost_ret (v := .tuple #[.agg #[.bool false, .bool false, .bool false, .bool false, .bool false, .int .i64 0, .int .i64 0, .int .u8 0, .bool false, .bool false, .int .i64 0], .int .i64 50]) (by simp [results, Tryz.results65, go_sem, *]) rfl ⟨rfl, hb⟩
   ·have HF1 : Hid (fp s k = figV s (D + 1)) := by show _ = _; rw [HFP.out, HDP.out]; rfl
    have HV1 : Hid (pv s k = D + 1 + (fp s k).2.2.2) := by show _ = _; rw [HPV.out, HDP.out]; rfl
    clear HFP HPV HDP
    have c1 := HR5.out.c1
    have f1 := HR5.out.f1
    have hD1 : (D : Int) + 1 ≤ 200000000000000 := by omega
    go_wp2_with fail
    have hE5 : ErrOk (w5.setCell ⟨w.heap.size + 1, 1, none⟩ (.int .i64 ((D : Int) + 1))) := HE.out.below (HB5.out.setCell (p := ⟨w.heap.size + 1, 1, none⟩) (by simp) _)
    refine (number_any s (D + 1) (w.heap.size + 1) _ (by rw [show ((D + 1 : Nat) : Int) = (D : Int) + 1 from by omega]; exact HR5.out.step _) hDL hs hE5 (by omega)).mono ?_
    rintro e w6 ⟨rfl, hr6, ha6⟩
    have hz6 := ha6.size
    simp only [World.size_setCell] at hz6
    have HR6 := Lib.hid hr6
    have HP6 := Lib.hid ((HP5.out.other 1 (.int .i64 ((D : Int) + 1)) (show w1.heap.size ≠ w.heap.size + 1 by omega)).keep ha6 (by simp; omega))
    have HQ6 := Lib.hid ((HQ5.out.other 1 (.int .i64 ((D : Int) + 1)) (show w.heap.size ≠ w.heap.size + 1 by omega)).keep ha6 (by simp))
    have HB6 := Lib.hid ((HB5.out.setCell (p := ⟨w.heap.size + 1, 1, none⟩) (by simp) (.int .i64 ((D : Int) + 1))).trans (ha6.below (B := w.heap.size) (by simp only [World.size_setCell]; omega) (by simp)))
    have k6 : w6.cell? ⟨w1.heap.size, 6, none⟩ = some (.int .i64 (-1)) := HP6.out.cell 6
    have k9 : w6.cell? ⟨w1.heap.size, 9, none⟩ = some (.bool false) := HP6.out.cell 9
    have kf : ∀ j, w6.frozen? ⟨w1.heap.size, j, none⟩ = false := HP6.out.frozen
    rw [← HF1.out, ← HV1.out] at HR6
    rw [← HF1.out]
    have hfl := figV_le s (D + 1)
    rw [← HF1.out] at hfl
    clear hr6 ha6 c1 f1 hE5 HR5 HP5 HQ5 HB5
    generalize (fp s k).1 = n2 at *
    generalize (fp s k).2.1 = st2 at *
    generalize (fp s k).2.2.1 = ok2 at *
    go_wp2_with fail
    have HRt := Lib.hid ((HR6.out.other 6 (.int .i64 n2) (show w.heap.size + 1 ≠ w1.heap.size by omega)).other 9 (.bool st2) (show w.heap.size + 1 ≠ w1.heap.size by omega))
    have HPt := Lib.hid (show PcAt _ w1.heap.size (pieceA fm fp1 fb fa fz n1 n2 0 st1 st2 0) from (HP6.out.set 6 (.int .i64 n2)).set 9 (.bool st2))
    have HQt := Lib.hid ((HQ6.out.other 6 (.int .i64 n2) (show w.heap.size ≠ w1.heap.size by omega)).other 9 (.bool st2) (show w.heap.size ≠ w1.heap.size by omega))
    have HBt := Lib.hid ((HB6.out.setCell (p := ⟨w1.heap.size, 6, none⟩) (show w.heap.size ≤ w1.heap.size by omega) (.int .i64 n2)).setCell (p := ⟨w1.heap.size, 9, none⟩) (show w.heap.size ≤ w1.heap.size by omega) (.bool st2))
    have HNt := Lib.hid (next_any s (pv s k : Nat) (w.heap.size + 1) _ HRt.out)
    rw [chr_nat] at HNt
    refine HNt.out.mono ?_
    rintro e wa ⟨rfl, hb⟩
    have hza := hb.size
    try simp only [World.size_setCell] at hza
    have HRa := Lib.hid (HRt.out.below hb)
    have HPa := Lib.hid (HPt.out.below hb)
    have HQa := Lib.hid (HQt.out.below hb)
    have HBa := Lib.hid (HBt.out.trans (hb.mono (by first | omega | (simp only [World.size_setCell]; omega))))
    have hV := ch_lt s (pv s k)
    have hX : pv s k ≤ 1900000000000000 := by rw [HV1.out]; omega
    generalize ch s (pv s k) = V at *
    generalize pv s k = X at *
    rw [show ((X + 1 : Nat) : Int) = (X : Int) + 1 from by omega] at HQA1
    generalize hZ : ((V : Nat) : Int) = Z at *
    have HZ := Lib.hid hZ
    clear hZ
    clear hb HNt HRt HPt HQt HBt
    have k7 : wa.cell? ⟨w1.heap.size, 7, none⟩ = some (.int .u8 0) := HPa.out.cell 7
    have kfa : ∀ j, wa.frozen? ⟨w1.heap.size, j, none⟩ = false := HPa.out.frozen
    have q1 : (wa.setCell ⟨w1.heap.size, 7, none⟩ (.int .u8 Z)).cell? ⟨w.heap.size + 1, 1, none⟩ = some (.int .i64 (X : Nat)) := (HRa.out.other 7 _ (by omega)).c1
    have q2 : (wa.setCell ⟨w1.heap.size, 7, none⟩ (.int .u8 Z)).cell? ⟨w1.heap.size, 10, none⟩ = some (.int .i64 0) := (HPa.out.set 7 _).cell 10
    have HPc := Lib.hid (show PcAt ((wa.setCell ⟨w1.heap.size, 7, none⟩ (.int .u8 Z)).setCell ⟨w1.heap.size, 10, none⟩ (.int .i64 ((X : Int) + 1))) w1.heap.size (pieceA fm fp1 fb fa fz n1 n2 Z st1 st2 ((X : Int) + 1)) from (HPa.out.set 7 _).set 10 _)
    have HQc := Lib.hid (show PcAt ((wa.setCell ⟨w1.heap.size, 7, none⟩ (.int .u8 Z)).setCell ⟨w1.heap.size, 10, none⟩ (.int .i64 ((X : Int) + 1))) w.heap.size zeroA from (HQa.out.other 7 _ (by omega)).other 10 _ (by omega))
    have HBc := Lib.hid (show Below w.heap.size w ((wa.setCell ⟨w1.heap.size, 7, none⟩ (.int .u8 Z)).setCell ⟨w1.heap.size, 10, none⟩ (.int .i64 ((X : Int) + 1))) from (HBa.out.setCell (p := ⟨w1.heap.size, 7, none⟩) (by simp; omega) _).setCell (p := ⟨w1.heap.size, 10, none⟩) (by simp; omega) _)
    have y0 : ((wa.setCell ⟨w1.heap.size, 7, none⟩ (.int .u8 Z)).setCell ⟨w1.heap.size, 10, none⟩ (.int .i64 ((X : Int) + 1))).cell? ⟨w1.heap.size, 0, none⟩ = some (.bool fm) := HPc.out.cell 0
    have y1 : ((wa.setCell ⟨w1.heap.size, 7, none⟩ (.int .u8 Z)).setCell ⟨w1.heap.size, 10, none⟩ (.int .i64 ((X : Int) + 1))).cell? ⟨w1.heap.size, 1, none⟩ = some (.bool fp1) := HPc.out.cell 1
    have y2 : ((wa.setCell ⟨w1.heap.size, 7, none⟩ (.int .u8 Z)).setCell ⟨w1.heap.size, 10, none⟩ (.int .i64 ((X : Int) + 1))).cell? ⟨w1.heap.size, 2, none⟩ = some (.bool fb) := HPc.out.cell 2
    have y3 : ((wa.setCell ⟨w1.heap.size, 7, none⟩ (.int .u8 Z)).setCell ⟨w1.heap.size, 10, none⟩ (.int .i64 ((X : Int) + 1))).cell? ⟨w1.heap.size, 3, none⟩ = some (.bool fa) := HPc.out.cell 3
    have y4 : ((wa.setCell ⟨w1.heap.size, 7, none⟩ (.int .u8 Z)).setCell ⟨w1.heap.size, 10, none⟩ (.int .i64 ((X : Int) + 1))).cell? ⟨w1.heap.size, 4, none⟩ = some (.bool fz) := HPc.out.cell 4
    have y5 : ((wa.setCell ⟨w1.heap.size, 7, none⟩ (.int .u8 Z)).setCell ⟨w1.heap.size, 10, none⟩ (.int .i64 ((X : Int) + 1))).cell? ⟨w1.heap.size, 5, none⟩ = some (.int .i64 n1) := HPc.out.cell 5
    have y6 : ((wa.setCell ⟨w1.heap.size, 7, none⟩ (.int .u8 Z)).setCell ⟨w1.heap.size, 10, none⟩ (.int .i64 ((X : Int) + 1))).cell? ⟨w1.heap.size, 6, none⟩ = some (.int .i64 n2) := HPc.out.cell 6
    have y7 : ((wa.setCell ⟨w1.heap.size, 7, none⟩ (.int .u8 Z)).setCell ⟨w1.heap.size, 10, none⟩ (.int .i64 ((X : Int) + 1))).cell? ⟨w1.heap.size, 7, none⟩ = some (.int .u8 Z) := HPc.out.cell 7
    have y8 : ((wa.setCell ⟨w1.heap.size, 7, none⟩ (.int .u8 Z)).setCell ⟨w1.heap.size, 10, none⟩ (.int .i64 ((X : Int) + 1))).cell? ⟨w1.heap.size, 8, none⟩ = some (.bool st1) := HPc.out.cell 8
    have y9 : ((wa.setCell ⟨w1.heap.size, 7, none⟩ (.int .u8 Z)).setCell ⟨w1.heap.size, 10, none⟩ (.int .i64 ((X : Int) + 1))).cell? ⟨w1.heap.size, 9, none⟩ = some (.bool st2) := HPc.out.cell 9
    have y10 : ((wa.setCell ⟨w1.heap.size, 7, none⟩ (.int .u8 Z)).setCell ⟨w1.heap.size, 10, none⟩ (.int .i64 ((X : Int) + 1))).cell? ⟨w1.heap.size, 10, none⟩ = some (.int .i64 ((X : Int) + 1)) := HPc.out.cell 10
    have z0 : ((wa.setCell ⟨w1.heap.size, 7, none⟩ (.int .u8 Z)).setCell ⟨w1.heap.size, 10, none⟩ (.int .i64 ((X : Int) + 1))).cell? ⟨w.heap.size, 0, none⟩ = some (.bool false) := HQc.out.cell 0
    have z1 : ((wa.setCell ⟨w1.heap.size, 7, none⟩ (.int .u8 Z)).setCell ⟨w1.heap.size, 10, none⟩ (.int .i64 ((X : Int) + 1))).cell? ⟨w.heap.size, 1, none⟩ = some (.bool false) := HQc.out.cell 1
    have z2 : ((wa.setCell ⟨w1.heap.size, 7, none⟩ (.int .u8 Z)).setCell ⟨w1.heap.size, 10, none⟩ (.int .i64 ((X : Int) + 1))).cell? ⟨w.heap.size, 2, none⟩ = some (.bool false) := HQc.out.cell 2
    have z3 : ((wa.setCell ⟨w1.heap.size, 7, none⟩ (.int .u8 Z)).setCell ⟨w1.heap.size, 10, none⟩ (.int .i64 ((X : Int) + 1))).cell? ⟨w.heap.size, 3, none⟩ = some (.bool false) := HQc.out.cell 3
    have z4 : ((wa.setCell ⟨w1.heap.size, 7, none⟩ (.int .u8 Z)).setCell ⟨w1.heap.size, 10, none⟩ (.int .i64 ((X : Int) + 1))).cell? ⟨w.heap.size, 4, none⟩ = some (.bool false) := HQc.out.cell 4
    have z5 : ((wa.setCell ⟨w1.heap.size, 7, none⟩ (.int .u8 Z)).setCell ⟨w1.heap.size, 10, none⟩ (.int .i64 ((X : Int) + 1))).cell? ⟨w.heap.size, 5, none⟩ = some (.int .i64 0) := HQc.out.cell 5
    have z6 : ((wa.setCell ⟨w1.heap.size, 7, none⟩ (.int .u8 Z)).setCell ⟨w1.heap.size, 10, none⟩ (.int .i64 ((X : Int) + 1))).cell? ⟨w.heap.size, 6, none⟩ = some (.int .i64 0) := HQc.out.cell 6
    have z7 : ((wa.setCell ⟨w1.heap.size, 7, none⟩ (.int .u8 Z)).setCell ⟨w1.heap.size, 10, none⟩ (.int .i64 ((X : Int) + 1))).cell? ⟨w.heap.size, 7, none⟩ = some (.int .u8 0) := HQc.out.cell 7
    have z8 : ((wa.setCell ⟨w1.heap.size, 7, none⟩ (.int .u8 Z)).setCell ⟨w1.heap.size, 10, none⟩ (.int .i64 ((X : Int) + 1))).cell? ⟨w.heap.size, 8, none⟩ = some (.bool false) := HQc.out.cell 8
    have z9 : ((wa.setCell ⟨w1.heap.size, 7, none⟩ (.int .u8 Z)).setCell ⟨w1.heap.size, 10, none⟩ (.int .i64 ((X : Int) + 1))).cell? ⟨w.heap.size, 9, none⟩ = some (.bool false) := HQc.out.cell 9
    have z10 : ((wa.setCell ⟨w1.heap.size, 7, none⟩ (.int .u8 Z)).setCell ⟨w1.heap.size, 10, none⟩ (.int .i64 ((X : Int) + 1))).cell? ⟨w.heap.size, 10, none⟩ = some (.int .i64 0) := HQc.out.cell 10
    have zf : ∀ j, ((wa.setCell ⟨w1.heap.size, 7, none⟩ (.int .u8 Z)).setCell ⟨w1.heap.size, 10, none⟩ (.int .i64 ((X : Int) + 1))).frozen? ⟨w.heap.size, j, none⟩ = false := HQc.out.frozen
    cases ok2
    ·go_wp2_with fail
     generalize hW : World.setCell _ _ _ = W
     have hp : PcAt W w.heap.size #[.bool false, .bool false, .bool false, .bool false, .bool false, .int .i64 0, .int .i64 0, .int .u8 0, .bool false, .bool false, .int .i64 0] := by rw [← hW]; exact PcAt.all (show PcAt _ w.heap.size _ from HQc.out) _ _ _ _ _ _ _ _ _ _ _
     have hb : Below w.heap.size w W := by rw [← hW]; exact below_all HBc.out (Nat.le_refl _) _ _ _ _ _ _ _ _ _ _ _
     have hok : okP s k = false := by rw [HOK.out, ]; rfl
     rw [HQA1.out, HQE1.out, hok]
     clear hW z0 z1 z2 z3 z4 z5 z6 z7 z8 z9 z10 y0 y1 y2 y3 y4 y5 y6 y7 y8 y9 y10
     have k0 : W.cell? ⟨w.heap.size, 0, none⟩ = some (.bool false) := hp.cell 0
     have k1 : W.cell? ⟨w.heap.size, 1, none⟩ = some (.bool false) := hp.cell 1
     have k2 : W.cell? ⟨w.heap.size, 2, none⟩ = some (.bool false) := hp.cell 2
     have k3 : W.cell? ⟨w.heap.size, 3, none⟩ = some (.bool false) := hp.cell 3
     have k4 : W.cell? ⟨w.heap.size, 4, none⟩ = some (.bool false) := hp.cell 4
     have k5 : W.cell? ⟨w.heap.size, 5, none⟩ = some (.int .i64 0) := hp.cell 5
     have k6 : W.cell? ⟨w.heap.size, 6, none⟩ = some (.int .i64 0) := hp.cell 6
     have k7 : W.cell? ⟨w.heap.size, 7, none⟩ = some (.int .u8 0) := hp.cell 7
     have k8 : W.cell? ⟨w.heap.size, 8, none⟩ = some (.bool false) := hp.cell 8
     have k9 : W.cell? ⟨w.heap.size, 9, none⟩ = some (.bool false) := hp.cell 9
     have k10 : W.cell? ⟨w.heap.size, 10, none⟩ = some (.int .i64 0) := hp.cell 10
     clear hp
     exact bodyPost_ret (v := .tuple #[.agg #[.bool false, .bool false, .bool false, .bool false, .bool false, .int .i64 0, .int .i64 0, .int .u8 0, .bool false, .bool false, .int .i64 0], .int .i64 50]) (by simp [results, Tryz.results65, go_sem, *]) rfl ⟨rfl, hb⟩
    ·rcases Nat.eq_zero_or_pos V with hV0 | hV0
     ·obtain rfl : Z = 0 := by have := HZ.out; omega
      clear hV
      go_wp2_with fail
      generalize hW : World.setCell _ _ _ = W
      have hp : PcAt W w.heap.size #[.bool false, .bool false, .bool false, .bool false, .bool false, .int .i64 0, .int .i64 0, .int .u8 0, .bool false, .bool false, .int .i64 0] := by rw [← hW]; exact PcAt.all (show PcAt _ w.heap.size _ from HQc.out) _ _ _ _ _ _ _ _ _ _ _
      have hb : Below w.heap.size w W := by rw [← hW]; exact below_all HBc.out (Nat.le_refl _) _ _ _ _ _ _ _ _ _ _ _
      have hok : okP s k = false := by rw [HOK.out, hV0]; rfl
      rw [HQA1.out, HQE1.out, hok]
      clear hW z0 z1 z2 z3 z4 z5 z6 z7 z8 z9 z10 y0 y1 y2 y3 y4 y5 y6 y7 y8 y9 y10
      have k0 : W.cell? ⟨w.heap.size, 0, none⟩ = some (.bool false) := hp.cell 0
      have k1 : W.cell? ⟨w.heap.size, 1, none⟩ = some (.bool false) := hp.cell 1
      have k2 : W.cell? ⟨w.heap.size, 2, none⟩ = some (.bool false) := hp.cell 2
      have k3 : W.cell? ⟨w.heap.size, 3, none⟩ = some (.bool false) := hp.cell 3
      have k4 : W.cell? ⟨w.heap.size, 4, none⟩ = some (.bool false) := hp.cell 4
      have k5 : W.cell? ⟨w.heap.size, 5, none⟩ = some (.int .i64 0) := hp.cell 5
      have k6 : W.cell? ⟨w.heap.size, 6, none⟩ = some (.int .i64 0) := hp.cell 6
      have k7 : W.cell? ⟨w.heap.size, 7, none⟩ = some (.int .u8 0) := hp.cell 7
      have k8 : W.cell? ⟨w.heap.size, 8, none⟩ = some (.bool false) := hp.cell 8
      have k9 : W.cell? ⟨w.heap.size, 9, none⟩ = some (.bool false) := hp.cell 9
      have k10 : W.cell? ⟨w.heap.size, 10, none⟩ = some (.int .i64 0) := hp.cell 10
      clear hp
      exact bodyPost_ret (v := .tuple #[.agg #[.bool false, .bool false, .bool false, .bool false, .bool false, .int .i64 0, .int .i64 0, .int .u8 0, .bool false, .bool false, .int .i64 0], .int .i64 50]) (by simp [results, Tryz.results65, go_sem, *]) rfl ⟨rfl, hb⟩
     ·have hVn : (Z == 0) = false := by have := HZ.out; simp; omega
      have hVb := Lib.hid (show (V != 0) = true from by simp; omega)
      clear hV0 hV
      go_wp2_with fail
      refine (HIX.out V Z _ HZ.out).mono ?_
      rintro e _ ⟨rfl, rfl⟩
      generalize ((wa.setCell ⟨w1.heap.size, 7, none⟩ (.int .u8 Z)).setCell ⟨w1.heap.size, 10, none⟩ (.int .i64 ((X : Int) + 1))) = Wc at *
      generalize ixB verbsB V = J at *
      rcases Int.lt_or_le J 0 with hJ | hJ
      ·have hJb := Lib.hid (show decide (0 ≤ J) = false from by simp; omega)
       go_wp2_with fail
       generalize hW : World.setCell _ _ _ = W
       have hp : PcAt W w.heap.size #[.bool false, .bool false, .bool false, .bool false, .bool false, .int .i64 0, .int .i64 0, .int .u8 0, .bool false, .bool false, .int .i64 0] := by rw [← hW]; exact PcAt.all (show PcAt _ w.heap.size _ from HQc.out) _ _ _ _ _ _ _ _ _ _ _
       have hb : Below w.heap.size w W := by rw [← hW]; exact below_all HBc.out (Nat.le_refl _) _ _ _ _ _ _ _ _ _ _ _
       have hok : okP s k = false := by rw [HOK.out, hVb.out, hJb.out]; rfl
       rw [HQA1.out, HQE1.out, hok]
       clear hW z0 z1 z2 z3 z4 z5 z6 z7 z8 z9 z10 y0 y1 y2 y3 y4 y5 y6 y7 y8 y9 y10
       have k0 : W.cell? ⟨w.heap.size, 0, none⟩ = some (.bool false) := hp.cell 0
       have k1 : W.cell? ⟨w.heap.size, 1, none⟩ = some (.bool false) := hp.cell 1
       have k2 : W.cell? ⟨w.heap.size, 2, none⟩ = some (.bool false) := hp.cell 2
       have k3 : W.cell? ⟨w.heap.size, 3, none⟩ = some (.bool false) := hp.cell 3
       have k4 : W.cell? ⟨w.heap.size, 4, none⟩ = some (.bool false) := hp.cell 4
       have k5 : W.cell? ⟨w.heap.size, 5, none⟩ = some (.int .i64 0) := hp.cell 5
       have k6 : W.cell? ⟨w.heap.size, 6, none⟩ = some (.int .i64 0) := hp.cell 6
       have k7 : W.cell? ⟨w.heap.size, 7, none⟩ = some (.int .u8 0) := hp.cell 7
       have k8 : W.cell? ⟨w.heap.size, 8, none⟩ = some (.bool false) := hp.cell 8
       have k9 : W.cell? ⟨w.heap.size, 9, none⟩ = some (.bool false) := hp.cell 9
       have k10 : W.cell? ⟨w.heap.size, 10, none⟩ = some (.int .i64 0) := hp.cell 10
       clear hp
       exact bodyPost_ret (v := .tuple #[.agg #[.bool false, .bool false, .bool false, .bool false, .bool false, .int .i64 0, .int .i64 0, .int .u8 0, .bool false, .bool false, .int .i64 0], .int .i64 50]) (by simp [results, Tryz.results65, go_sem, *]) rfl ⟨rfl, hb⟩
      ·have hJb := Lib.hid (show decide (0 ≤ J) = true from by simp; omega)
       have hJn : decide (J < 0) = false := by simp; omega
       clear hJ
       go_wp2_with fail
       generalize hW : World.setCell _ _ _ = W
       have hp : PcAt W w.heap.size #[.bool fm, .bool fp1, .bool fb, .bool fa, .bool fz, .int .i64 n1, .int .i64 n2, .int .u8 Z, .bool st1, .bool st2, .int .i64 ((X : Int) + 1)] := by rw [← hW]; exact PcAt.all (show PcAt _ w.heap.size _ from HQc.out) _ _ _ _ _ _ _ _ _ _ _
       have hb : Below w.heap.size w W := by rw [← hW]; exact below_all HBc.out (Nat.le_refl _) _ _ _ _ _ _ _ _ _ _ _
       have hok : okP s k = true := by rw [HOK.out, hVb.out, hJb.out]; rfl
       rw [HQA1.out, HQE1.out, hok]
       clear hW z0 z1 z2 z3 z4 z5 z6 z7 z8 z9 z10 y0 y1 y2 y3 y4 y5 y6 y7 y8 y9 y10
       have k0 : W.cell? ⟨w.heap.size, 0, none⟩ = some (.bool fm) := hp.cell 0
       have k1 : W.cell? ⟨w.heap.size, 1, none⟩ = some (.bool fp1) := hp.cell 1
       have k2 : W.cell? ⟨w.heap.size, 2, none⟩ = some (.bool fb) := hp.cell 2
       have k3 : W.cell? ⟨w.heap.size, 3, none⟩ = some (.bool fa) := hp.cell 3
       have k4 : W.cell? ⟨w.heap.size, 4, none⟩ = some (.bool fz) := hp.cell 4
       have k5 : W.cell? ⟨w.heap.size, 5, none⟩ = some (.int .i64 n1) := hp.cell 5
       have k6 : W.cell? ⟨w.heap.size, 6, none⟩ = some (.int .i64 n2) := hp.cell 6
       have k7 : W.cell? ⟨w.heap.size, 7, none⟩ = some (.int .u8 Z) := hp.cell 7
       have k8 : W.cell? ⟨w.heap.size, 8, none⟩ = some (.bool st1) := hp.cell 8
       have k9 : W.cell? ⟨w.heap.size, 9, none⟩ = some (.bool st2) := hp.cell 9
       have k10 : W.cell? ⟨w.heap.size, 10, none⟩ = some (.int .i64 ((X : Int) + 1)) := hp.cell 10
       clear hp
       exact bodyPost_ret (v := .tuple #[.agg #[.bool fm, .bool fp1, .bool fb, .bool fa, .bool fz, .int .i64 n1, .int .i64 n2, .int .u8 Z, .bool st1, .bool st2, .int .i64 ((X : Int) + 1)], .int .i64 0]) (by simp [results, Tryz.results65, go_sem, *]) rfl ⟨rfl, hb⟩
  ·have hCn : ((C : Int) == 46) = false := by simp; omega
   have hCb : (C == 46) = false := by simp; omega
   have HF1 : Hid (fp s k = (-1, false, ok1, 0)) := by show _ = _; rw [HFP.out, HDP.out, hCb]; rfl
   have HV1 : Hid (pv s k = D) := by show _ = _; rw [HPV.out, HDP.out, hCb]; rfl
   clear HFP HPV HDP HDL hC hCb
   go_wp2_with fail
   rw [← HV1.out] at HR5
   have HRt := HR5
   have HPt := HP5
   have HQt := HQ5
   have HBt := HB5
   have HNt := Lib.hid (next_any s (pv s k : Nat) (w.heap.size + 1) w5 HRt.out)
   rw [chr_nat] at HNt
   refine HNt.out.mono ?_
   rintro e wa ⟨rfl, hb⟩
   have hza := hb.size
   try simp only [World.size_setCell] at hza
   have HRa := Lib.hid (HRt.out.below hb)
   have HPa := Lib.hid (HPt.out.below hb)
   have HQa := Lib.hid (HQt.out.below hb)
   have HBa := Lib.hid (HBt.out.trans (hb.mono (by first | omega | (simp only [World.size_setCell]; omega))))
   have hV := ch_lt s (pv s k)
   have hX : pv s k ≤ 700000000000000 := by rw [HV1.out]; exact hDle
   generalize ch s (pv s k) = V at *
   generalize pv s k = X at *
   rw [show ((X + 1 : Nat) : Int) = (X : Int) + 1 from by omega] at HQA1
   generalize hZ : ((V : Nat) : Int) = Z at *
   have HZ := Lib.hid hZ
   clear hZ
   clear hb HNt HRt HPt HQt HBt
   have k7 : wa.cell? ⟨w1.heap.size, 7, none⟩ = some (.int .u8 0) := HPa.out.cell 7
   have kfa : ∀ j, wa.frozen? ⟨w1.heap.size, j, none⟩ = false := HPa.out.frozen
   have q1 : (wa.setCell ⟨w1.heap.size, 7, none⟩ (.int .u8 Z)).cell? ⟨w.heap.size + 1, 1, none⟩ = some (.int .i64 (X : Nat)) := (HRa.out.other 7 _ (by omega)).c1
   have q2 : (wa.setCell ⟨w1.heap.size, 7, none⟩ (.int .u8 Z)).cell? ⟨w1.heap.size, 10, none⟩ = some (.int .i64 0) := (HPa.out.set 7 _).cell 10
   have HPc := Lib.hid (show PcAt ((wa.setCell ⟨w1.heap.size, 7, none⟩ (.int .u8 Z)).setCell ⟨w1.heap.size, 10, none⟩ (.int .i64 ((X : Int) + 1))) w1.heap.size (pieceA fm fp1 fb fa fz n1 (-1) Z st1 false ((X : Int) + 1)) from (HPa.out.set 7 _).set 10 _)
   have HQc := Lib.hid (show PcAt ((wa.setCell ⟨w1.heap.size, 7, none⟩ (.int .u8 Z)).setCell ⟨w1.heap.size, 10, none⟩ (.int .i64 ((X : Int) + 1))) w.heap.size zeroA from (HQa.out.other 7 _ (by omega)).other 10 _ (by omega))
   have HBc := Lib.hid (show Below w.heap.size w ((wa.setCell ⟨w1.heap.size, 7, none⟩ (.int .u8 Z)).setCell ⟨w1.heap.size, 10, none⟩ (.int .i64 ((X : Int) + 1))) from (HBa.out.setCell (p := ⟨w1.heap.size, 7, none⟩) (by simp; omega) _).setCell (p := ⟨w1.heap.size, 10, none⟩) (by simp; omega) _)
   have y0 : ((wa.setCell ⟨w1.heap.size, 7, none⟩ (.int .u8 Z)).setCell ⟨w1.heap.size, 10, none⟩ (.int .i64 ((X : Int) + 1))).cell? ⟨w1.heap.size, 0, none⟩ = some (.bool fm) := HPc.out.cell 0
   have y1 : ((wa.setCell ⟨w1.heap.size, 7, none⟩ (.int .u8 Z)).setCell ⟨w1.heap.size, 10, none⟩ (.int .i64 ((X : Int) + 1))).cell? ⟨w1.heap.size, 1, none⟩ = some (.bool fp1) := HPc.out.cell 1
   have y2 : ((wa.setCell ⟨w1.heap.size, 7, none⟩ (.int .u8 Z)).setCell ⟨w1.heap.size, 10, none⟩ (.int .i64 ((X : Int) + 1))).cell? ⟨w1.heap.size, 2, none⟩ = some (.bool fb) := HPc.out.cell 2
   have y3 : ((wa.setCell ⟨w1.heap.size, 7, none⟩ (.int .u8 Z)).setCell ⟨w1.heap.size, 10, none⟩ (.int .i64 ((X : Int) + 1))).cell? ⟨w1.heap.size, 3, none⟩ = some (.bool fa) := HPc.out.cell 3
   have y4 : ((wa.setCell ⟨w1.heap.size, 7, none⟩ (.int .u8 Z)).setCell ⟨w1.heap.size, 10, none⟩ (.int .i64 ((X : Int) + 1))).cell? ⟨w1.heap.size, 4, none⟩ = some (.bool fz) := HPc.out.cell 4
   have y5 : ((wa.setCell ⟨w1.heap.size, 7, none⟩ (.int .u8 Z)).setCell ⟨w1.heap.size, 10, none⟩ (.int .i64 ((X : Int) + 1))).cell? ⟨w1.heap.size, 5, none⟩ = some (.int .i64 n1) := HPc.out.cell 5
   have y6 : ((wa.setCell ⟨w1.heap.size, 7, none⟩ (.int .u8 Z)).setCell ⟨w1.heap.size, 10, none⟩ (.int .i64 ((X : Int) + 1))).cell? ⟨w1.heap.size, 6, none⟩ = some (.int .i64 (-1)) := HPc.out.cell 6
   have y7 : ((wa.setCell ⟨w1.heap.size, 7, none⟩ (.int .u8 Z)).setCell ⟨w1.heap.size, 10, none⟩ (.int .i64 ((X : Int) + 1))).cell? ⟨w1.heap.size, 7, none⟩ = some (.int .u8 Z) := HPc.out.cell 7
   have y8 : ((wa.setCell ⟨w1.heap.size, 7, none⟩ (.int .u8 Z)).setCell ⟨w1.heap.size, 10, none⟩ (.int .i64 ((X : Int) + 1))).cell? ⟨w1.heap.size, 8, none⟩ = some (.bool st1) := HPc.out.cell 8
   have y9 : ((wa.setCell ⟨w1.heap.size, 7, none⟩ (.int .u8 Z)).setCell ⟨w1.heap.size, 10, none⟩ (.int .i64 ((X : Int) + 1))).cell? ⟨w1.heap.size, 9, none⟩ = some (.bool false) := HPc.out.cell 9
   have y10 : ((wa.setCell ⟨w1.heap.size, 7, none⟩ (.int .u8 Z)).setCell ⟨w1.heap.size, 10, none⟩ (.int .i64 ((X : Int) + 1))).cell? ⟨w1.heap.size, 10, none⟩ = some (.int .i64 ((X : Int) + 1)) := HPc.out.cell 10
   have z0 : ((wa.setCell ⟨w1.heap.size, 7, none⟩ (.int .u8 Z)).setCell ⟨w1.heap.size, 10, none⟩ (.int .i64 ((X : Int) + 1))).cell? ⟨w.heap.size, 0, none⟩ = some (.bool false) := HQc.out.cell 0
   have z1 : ((wa.setCell ⟨w1.heap.size, 7, none⟩ (.int .u8 Z)).setCell ⟨w1.heap.size, 10, none⟩ (.int .i64 ((X : Int) + 1))).cell? ⟨w.heap.size, 1, none⟩ = some (.bool false) := HQc.out.cell 1
   have z2 : ((wa.setCell ⟨w1.heap.size, 7, none⟩ (.int .u8 Z)).setCell ⟨w1.heap.size, 10, none⟩ (.int .i64 ((X : Int) + 1))).cell? ⟨w.heap.size, 2, none⟩ = some (.bool false) := HQc.out.cell 2
   have z3 : ((wa.setCell ⟨w1.heap.size, 7, none⟩ (.int .u8 Z)).setCell ⟨w1.heap.size, 10, none⟩ (.int .i64 ((X : Int) + 1))).cell? ⟨w.heap.size, 3, none⟩ = some (.bool false) := HQc.out.cell 3
   have z4 : ((wa.setCell ⟨w1.heap.size, 7, none⟩ (.int .u8 Z)).setCell ⟨w1.heap.size, 10, none⟩ (.int .i64 ((X : Int) + 1))).cell? ⟨w.heap.size, 4, none⟩ = some (.bool false) := HQc.out.cell 4
   have z5 : ((wa.setCell ⟨w1.heap.size, 7, none⟩ (.int .u8 Z)).setCell ⟨w1.heap.size, 10, none⟩ (.int .i64 ((X : Int) + 1))).cell? ⟨w.heap.size, 5, none⟩ = some (.int .i64 0) := HQc.out.cell 5
   have z6 : ((wa.setCell ⟨w1.heap.size, 7, none⟩ (.int .u8 Z)).setCell ⟨w1.heap.size, 10, none⟩ (.int .i64 ((X : Int) + 1))).cell? ⟨w.heap.size, 6, none⟩ = some (.int .i64 0) := HQc.out.cell 6
   have z7 : ((wa.setCell ⟨w1.heap.size, 7, none⟩ (.int .u8 Z)).setCell ⟨w1.heap.size, 10, none⟩ (.int .i64 ((X : Int) + 1))).cell? ⟨w.heap.size, 7, none⟩ = some (.int .u8 0) := HQc.out.cell 7
   have z8 : ((wa.setCell ⟨w1.heap.size, 7, none⟩ (.int .u8 Z)).setCell ⟨w1.heap.size, 10, none⟩ (.int .i64 ((X : Int) + 1))).cell? ⟨w.heap.size, 8, none⟩ = some (.bool false) := HQc.out.cell 8
   have z9 : ((wa.setCell ⟨w1.heap.size, 7, none⟩ (.int .u8 Z)).setCell ⟨w1.heap.size, 10, none⟩ (.int .i64 ((X : Int) + 1))).cell? ⟨w.heap.size, 9, none⟩ = some (.bool false) := HQc.out.cell 9
   have z10 : ((wa.setCell ⟨w1.heap.size, 7, none⟩ (.int .u8 Z)).setCell ⟨w1.heap.size, 10, none⟩ (.int .i64 ((X : Int) + 1))).cell? ⟨w.heap.size, 10, none⟩ = some (.int .i64 0) := HQc.out.cell 10
   have zf : ∀ j, ((wa.setCell ⟨w1.heap.size, 7, none⟩ (.int .u8 Z)).setCell ⟨w1.heap.size, 10, none⟩ (.int .i64 ((X : Int) + 1))).frozen? ⟨w.heap.size, j, none⟩ = false := HQc.out.frozen
   cases ok1
   ·go_wp2_with fail
    generalize hW : World.setCell _ _ _ = W
    have hp : PcAt W w.heap.size #[.bool false, .bool false, .bool false, .bool false, .bool false, .int .i64 0, .int .i64 0, .int .u8 0, .bool false, .bool false, .int .i64 0] := by rw [← hW]; exact PcAt.all (show PcAt _ w.heap.size _ from HQc.out) _ _ _ _ _ _ _ _ _ _ _
    have hb : Below w.heap.size w W := by rw [← hW]; exact below_all HBc.out (Nat.le_refl _) _ _ _ _ _ _ _ _ _ _ _
    have hok : okP s k = false := by rw [HOK.out, HF1.out]; rfl
    (rw [HQA1.out, HQE1.out, hok]; try rw [HF1.out])
    clear hW z0 z1 z2 z3 z4 z5 z6 z7 z8 z9 z10 y0 y1 y2 y3 y4 y5 y6 y7 y8 y9 y10
    have k0 : W.cell? ⟨w.heap.size, 0, none⟩ = some (.bool false) := hp.cell 0
    have k1 : W.cell? ⟨w.heap.size, 1, none⟩ = some (.bool false) := hp.cell 1
    have k2 : W.cell? ⟨w.heap.size, 2, none⟩ = some (.bool false) := hp.cell 2
    have k3 : W.cell? ⟨w.heap.size, 3, none⟩ = some (.bool false) := hp.cell 3
    have k4 : W.cell? ⟨w.heap.size, 4, none⟩ = some (.bool false) := hp.cell 4
    have k5 : W.cell? ⟨w.heap.size, 5, none⟩ = some (.int .i64 0) := hp.cell 5
    have k6 : W.cell? ⟨w.heap.size, 6, none⟩ = some (.int .i64 0) := hp.cell 6
    have k7 : W.cell? ⟨w.heap.size, 7, none⟩ = some (.int .u8 0) := hp.cell 7
    have k8 : W.cell? ⟨w.heap.size, 8, none⟩ = some (.bool false) := hp.cell 8
    have k9 : W.cell? ⟨w.heap.size, 9, none⟩ = some (.bool false) := hp.cell 9
    have k10 : W.cell? ⟨w.heap.size, 10, none⟩ = some (.int .i64 0) := hp.cell 10
    clear hp
    exact bodyPost_ret (v := .tuple #[.agg #[.bool false, .bool false, .bool false, .bool false, .bool false, .int .i64 0, .int .i64 0, .int .u8 0, .bool false, .bool false, .int .i64 0], .int .i64 50]) (by simp [results, Tryz.results65, go_sem, *]) rfl ⟨rfl, hb⟩
   ·rcases Nat.eq_zero_or_pos V with hV0 | hV0
    ·obtain rfl : Z = 0 := by have := HZ.out; omega
     clear hV
     go_wp2_with fail
     generalize hW : World.setCell _ _ _ = W
     have hp : PcAt W w.heap.size #[.bool false, .bool false, .bool false, .bool false, .bool false, .int .i64 0, .int .i64 0, .int .u8 0, .bool false, .bool false, .int .i64 0] := by rw [← hW]; exact PcAt.all (show PcAt _ w.heap.size _ from HQc.out) _ _ _ _ _ _ _ _ _ _ _
     have hb : Below w.heap.size w W := by rw [← hW]; exact below_all HBc.out (Nat.le_refl _) _ _ _ _ _ _ _ _ _ _ _
     have hok : okP s k = false := by rw [HOK.out, HF1.out, hV0]; rfl
     (rw [HQA1.out, HQE1.out, hok]; try rw [HF1.out])
     clear hW z0 z1 z2 z3 z4 z5 z6 z7 z8 z9 z10 y0 y1 y2 y3 y4 y5 y6 y7 y8 y9 y10
     have k0 : W.cell? ⟨w.heap.size, 0, none⟩ = some (.bool false) := hp.cell 0
     have k1 : W.cell? ⟨w.heap.size, 1, none⟩ = some (.bool false) := hp.cell 1
     have k2 : W.cell? ⟨w.heap.size, 2, none⟩ = some (.bool false) := hp.cell 2
     have k3 : W.cell? ⟨w.heap.size, 3, none⟩ = some (.bool false) := hp.cell 3
     have k4 : W.cell? ⟨w.heap.size, 4, none⟩ = some (.bool false) := hp.cell 4
     have k5 : W.cell? ⟨w.heap.size, 5, none⟩ = some (.int .i64 0) := hp.cell 5
     have k6 : W.cell? ⟨w.heap.size, 6, none⟩ = some (.int .i64 0) := hp.cell 6
     have k7 : W.cell? ⟨w.heap.size, 7, none⟩ = some (.int .u8 0) := hp.cell 7
     have k8 : W.cell? ⟨w.heap.size, 8, none⟩ = some (.bool false) := hp.cell 8
     have k9 : W.cell? ⟨w.heap.size, 9, none⟩ = some (.bool false) := hp.cell 9
     have k10 : W.cell? ⟨w.heap.size, 10, none⟩ = some (.int .i64 0) := hp.cell 10
     clear hp
     exact bodyPost_ret (v := .tuple #[.agg #[.bool false, .bool false, .bool false, .bool false, .bool false, .int .i64 0, .int .i64 0, .int .u8 0, .bool false, .bool false, .int .i64 0], .int .i64 50]) (by simp [results, Tryz.results65, go_sem, *]) rfl ⟨rfl, hb⟩
    ·have hVn : (Z == 0) = false := by have := HZ.out; simp; omega
     have hVb := Lib.hid (show (V != 0) = true from by simp; omega)
     clear hV0 hV
     go_wp2_with fail
     refine (HIX.out V Z _ HZ.out).mono ?_
     rintro e _ ⟨rfl, rfl⟩
     generalize ((wa.setCell ⟨w1.heap.size, 7, none⟩ (.int .u8 Z)).setCell ⟨w1.heap.size, 10, none⟩ (.int .i64 ((X : Int) + 1))) = Wc at *
     generalize ixB verbsB V = J at *
     rcases Int.lt_or_le J 0 with hJ | hJ
     ·have hJb := Lib.hid (show decide (0 ≤ J) = false from by simp; omega)
      go_wp2_with fail
      generalize hW : World.setCell _ _ _ = W
      have hp : PcAt W w.heap.size #[.bool false, .bool false, .bool false, .bool false, .bool false, .int .i64 0, .int .i64 0, .int .u8 0, .bool false, .bool false, .int .i64 0] := by rw [← hW]; exact PcAt.all (show PcAt _ w.heap.size _ from HQc.out) _ _ _ _ _ _ _ _ _ _ _
      have hb : Below w.heap.size w W := by rw [← hW]; exact below_all HBc.out (Nat.le_refl _) _ _ _ _ _ _ _ _ _ _ _
      have hok : okP s k = false := by rw [HOK.out, HF1.out, hVb.out, hJb.out]; rfl
      (rw [HQA1.out, HQE1.out, hok]; try rw [HF1.out])
      clear hW z0 z1 z2 z3 z4 z5 z6 z7 z8 z9 z10 y0 y1 y2 y3 y4 y5 y6 y7 y8 y9 y10
      have k0 : W.cell? ⟨w.heap.size, 0, none⟩ = some (.bool false) := hp.cell 0
      have k1 : W.cell? ⟨w.heap.size, 1, none⟩ = some (.bool false) := hp.cell 1
      have k2 : W.cell? ⟨w.heap.size, 2, none⟩ = some (.bool false) := hp.cell 2
      have k3 : W.cell? ⟨w.heap.size, 3, none⟩ = some (.bool false) := hp.cell 3
      have k4 : W.cell? ⟨w.heap.size, 4, none⟩ = some (.bool false) := hp.cell 4
      have k5 : W.cell? ⟨w.heap.size, 5, none⟩ = some (.int .i64 0) := hp.cell 5
      have k6 : W.cell? ⟨w.heap.size, 6, none⟩ = some (.int .i64 0) := hp.cell 6
      have k7 : W.cell? ⟨w.heap.size, 7, none⟩ = some (.int .u8 0) := hp.cell 7
      have k8 : W.cell? ⟨w.heap.size, 8, none⟩ = some (.bool false) := hp.cell 8
      have k9 : W.cell? ⟨w.heap.size, 9, none⟩ = some (.bool false) := hp.cell 9
      have k10 : W.cell? ⟨w.heap.size, 10, none⟩ = some (.int .i64 0) := hp.cell 10
      clear hp
      exact bodyPost_ret (v := .tuple #[.agg #[.bool false, .bool false, .bool false, .bool false, .bool false, .int .i64 0, .int .i64 0, .int .u8 0, .bool false, .bool false, .int .i64 0], .int .i64 50]) (by simp [results, Tryz.results65, go_sem, *]) rfl ⟨rfl, hb⟩
     ·have hJb := Lib.hid (show decide (0 ≤ J) = true from by simp; omega)
      have hJn : decide (J < 0) = false := by simp; omega
      clear hJ
      go_wp2_with fail
      generalize hW : World.setCell _ _ _ = W
      have hp : PcAt W w.heap.size #[.bool fm, .bool fp1, .bool fb, .bool fa, .bool fz, .int .i64 n1, .int .i64 (-1), .int .u8 Z, .bool st1, .bool false, .int .i64 ((X : Int) + 1)] := by rw [← hW]; exact PcAt.all (show PcAt _ w.heap.size _ from HQc.out) _ _ _ _ _ _ _ _ _ _ _
      have hb : Below w.heap.size w W := by rw [← hW]; exact below_all HBc.out (Nat.le_refl _) _ _ _ _ _ _ _ _ _ _ _
      have hok : okP s k = true := by rw [HOK.out, HF1.out, hVb.out, hJb.out]; rfl
      (rw [HQA1.out, HQE1.out, hok]; try rw [HF1.out])
      clear hW z0 z1 z2 z3 z4 z5 z6 z7 z8 z9 z10 y0 y1 y2 y3 y4 y5 y6 y7 y8 y9 y10
      have k0 : W.cell? ⟨w.heap.size, 0, none⟩ = some (.bool fm) := hp.cell 0
      have k1 : W.cell? ⟨w.heap.size, 1, none⟩ = some (.bool fp1) := hp.cell 1
      have k2 : W.cell? ⟨w.heap.size, 2, none⟩ = some (.bool fb) := hp.cell 2
      have k3 : W.cell? ⟨w.heap.size, 3, none⟩ = some (.bool fa) := hp.cell 3
      have k4 : W.cell? ⟨w.heap.size, 4, none⟩ = some (.bool fz) := hp.cell 4
      have k5 : W.cell? ⟨w.heap.size, 5, none⟩ = some (.int .i64 n1) := hp.cell 5
      have k6 : W.cell? ⟨w.heap.size, 6, none⟩ = some (.int .i64 (-1)) := hp.cell 6
      have k7 : W.cell? ⟨w.heap.size, 7, none⟩ = some (.int .u8 Z) := hp.cell 7
      have k8 : W.cell? ⟨w.heap.size, 8, none⟩ = some (.bool st1) := hp.cell 8
      have k9 : W.cell? ⟨w.heap.size, 9, none⟩ = some (.bool false) := hp.cell 9
      have k10 : W.cell? ⟨w.heap.size, 10, none⟩ = some (.int .i64 ((X : Int) + 1)) := hp.cell 10
      clear hp
      exact bodyPost_ret (v := .tuple #[.agg #[.bool fm, .bool fp1, .bool fb, .bool fa, .bool fz, .int .i64 n1, .int .i64 (-1), .int .u8 Z, .bool st1, .bool false, .int .i64 ((X : Int) + 1)], .int .i64 0]) (by simp [results, Tryz.results65, go_sem, *]) rfl ⟨rfl, hb⟩
 ·rw [if_neg (fun h => h37 h.1)] at HQA HQE
  have hb37 : ((chr s i : Int) == 37) = false := by simp; omega
  generalize chr s i = c at *
  clear h37
  go_enter Tryz.func65, Tryz.ntmps65
  go_wp2_with fail
  have hr0 : RdAt ((w.alloc (.cells #[.bool false, .bool false, .bool false, .bool false, .bool false, .int .i64 0, .int .i64 0, .int .u8 0, .bool false, .bool false, .int .i64 0] 101)).alloc (.cells #[.string s, .int .i64 i] 172)) (w.heap.size + 1) s i := by
   have h := heap_alloc_at (w.alloc (.cells #[.bool false, .bool false, .bool false, .bool false, .bool false, .int .i64 0, .int .i64 0, .int .u8 0, .bool false, .bool false, .int .i64 0] 101)) (.cells #[.string s, .int .i64 i] 172)
   rw [World.size_alloc] at h
   exact h
  have hp0 : PcAt ((w.alloc (.cells #[.bool false, .bool false, .bool false, .bool false, .bool false, .int .i64 0, .int .i64 0, .int .u8 0, .bool false, .bool false, .int .i64 0] 101)).alloc (.cells #[.string s, .int .i64 i] 172)) w.heap.size zeroA :=
   (heap_alloc_lt _ _ _ (by simp)).trans (heap_alloc_at w _)
  have hB0 : Below w.heap.size w ((w.alloc (.cells #[.bool false, .bool false, .bool false, .bool false, .bool false, .int .i64 0, .int .i64 0, .int .u8 0, .bool false, .bool false, .int .i64 0] 101)).alloc (.cells #[.string s, .int .i64 i] 172)) := ((Below.refl _ _).alloc (Nat.le_refl _) _).alloc (by simp) _
  refine (HX.out (w.heap.size + 1) _ hr0).mono ?_
  rintro e w1 ⟨rfl, hb⟩
  have HP1 := Lib.hid (hp0.below hb)
  have HB1 := Lib.hid (hB0.trans (hb.mono hB0.size))
  have k0 : w1.cell? ⟨w.heap.size, 0, none⟩ = some (.bool false) := HP1.out.cell 0
  have k1 : w1.cell? ⟨w.heap.size, 1, none⟩ = some (.bool false) := HP1.out.cell 1
  have k2 : w1.cell? ⟨w.heap.size, 2, none⟩ = some (.bool false) := HP1.out.cell 2
  have k3 : w1.cell? ⟨w.heap.size, 3, none⟩ = some (.bool false) := HP1.out.cell 3
  have k4 : w1.cell? ⟨w.heap.size, 4, none⟩ = some (.bool false) := HP1.out.cell 4
  have k5 : w1.cell? ⟨w.heap.size, 5, none⟩ = some (.int .i64 0) := HP1.out.cell 5
  have k6 : w1.cell? ⟨w.heap.size, 6, none⟩ = some (.int .i64 0) := HP1.out.cell 6
  have k7 : w1.cell? ⟨w.heap.size, 7, none⟩ = some (.int .u8 0) := HP1.out.cell 7
  have k8 : w1.cell? ⟨w.heap.size, 8, none⟩ = some (.bool false) := HP1.out.cell 8
  have k9 : w1.cell? ⟨w.heap.size, 9, none⟩ = some (.bool false) := HP1.out.cell 9
  have k10 : w1.cell? ⟨w.heap.size, 10, none⟩ = some (.int .i64 0) := HP1.out.cell 10
  have kf : ∀ j, w1.frozen? ⟨w.heap.size, j, none⟩ = false := fun j => HP1.out.frozen j
  clear hr0 hp0 hB0 hb
  go_wp2_with fail
  generalize hW : World.setCell _ _ _ = W
  have hp : PcAt W w.heap.size zeroA := by rw [← hW]; exact PcAt.all (show PcAt w1 w.heap.size _ from HP1.out) _ _ _ _ _ _ _ _ _ _ _
  have hb : Below w.heap.size w W := by rw [← hW]; exact below_all HB1.out (Nat.le_refl _) _ _ _ _ _ _ _ _ _ _ _
  clear hW k0 k1 k2 k3 k4 k5 k6 k7 k8 k9 k10 kf
  have k0 : W.cell? ⟨w.heap.size, 0, none⟩ = some (.bool false) := hp.cell 0
  have k1 : W.cell? ⟨w.heap.size, 1, none⟩ = some (.bool false) := hp.cell 1
  have k2 : W.cell? ⟨w.heap.size, 2, none⟩ = some (.bool false) := hp.cell 2
  have k3 : W.cell? ⟨w.heap.size, 3, none⟩ = some (.bool false) := hp.cell 3
  have k4 : W.cell? ⟨w.heap.size, 4, none⟩ = some (.bool false) := hp.cell 4
  have k5 : W.cell? ⟨w.heap.size, 5, none⟩ = some (.int .i64 0) := hp.cell 5
  have k6 : W.cell? ⟨w.heap.size, 6, none⟩ = some (.int .i64 0) := hp.cell 6
  have k7 : W.cell? ⟨w.heap.size, 7, none⟩ = some (.int .u8 0) := hp.cell 7
  have k8 : W.cell? ⟨w.heap.size, 8, none⟩ = some (.bool false) := hp.cell 8
  have k9 : W.cell? ⟨w.heap.size, 9, none⟩ = some (.bool false) := hp.cell 9
  have k10 : W.cell? ⟨w.heap.size, 10, none⟩ = some (.int .i64 0) := hp.cell 10
  clear hp
  rw [HQA.out, HQE.out]
  exact bodyPost_ret (v := .tuple #[.agg #[.bool false, .bool false, .bool false, .bool false, .bool false, .int .i64 0, .int .i64 0, .int .u8 0, .bool false, .bool false, .int .i64 0], .int .i64 50]) (by simp [results, Tryz.results65, go_sem, *]) rfl ⟨rfl, hb⟩
end Go.Proofs.YtfdnhkjeoeffoaaGreatDoor
end

section
/- Rows of bytes that a call has made itself; Reverse; string(b). -/
namespace Go.Proofs.YtfdnhkjeoeffoaaGreatDoor
open Go.RowKit
set_option linter.unusedVariables false
/-- words as cells -/
def cellsB (L : List Nat) : List Value := L.map fun n : Nat => Value.int .u8 (n : Int)
/-- v is a row of the call's own (from block base on) that holds these words -/
structure OwnB (w : World) (base : Nat) (v : Value) (L : List Nat) : Prop where
 lt : ∀ x ∈ L, x < 256
 own : w.ownsRow base 5 1 v L.length (cellsB L)
theorem infoB : (Tryz.prog.info? 5).map (fun i => (i.zero, i.size, i.bytes)) = some (some (.int .u8 0), 1, 1) := by kernel_rfl
theorem undB : Tryz.prog.underlying 64 = some (.slice 5) := by kernel_rfl
theorem cellsB_length (L : List Nat) : (cellsB L).length = L.length := by simp [cellsB]
theorem OwnB.nil (w : World) (base : Nat) : OwnB w base (.slice none 0 0) [] := ⟨by simp, World.ownsRow_nil w base _ _⟩
/-- where it lies -/
theorem OwnB.at_ {w : World} {base : Nat} {v : Value} {L : List Nat} (h : OwnB w base v L) :
 (v = .slice none 0 0 ∧ L = []) ∨ ∃ g cap cur, v = .slice (some ⟨g, 0, none⟩) L.length cap ∧ base ≤ g ∧ w.heap[g]? = some (.cells cur 5 (0, 0)) ∧ L.length ≤ cap ∧ cap ≤ 9223372036854775807 ∧ cur.size = cap ∧ cur.toList.take L.length = cellsB L := by
 obtain ⟨h1, h2⟩ := h
 obtain ⟨h3, h4⟩ := h2
 rcases h4 with ⟨rfl, hn⟩ | ⟨g, cap, cur, rfl, hb, hg, hl, hm, hs, ht⟩
 ·exact .inl ⟨rfl, List.eq_nil_of_length_eq_zero hn⟩
 ·exact .inr ⟨g, cap, cur, rfl, hb, hg, hl, by simpa [maxLen] using hm, by simpa using hs, by simpa using ht⟩
theorem cur_getB {cur : Array Value} {L : List Nat} (ht : cur.toList.take L.length = cellsB L) (i : Nat) (h : i < L.length) : cur[i]? = some (.int .u8 (L[i] : Nat)) := by
 have e : (cur.toList.take L.length)[i]? = (cellsB L)[i]? := by rw [ht]
 rw [List.getElem?_take_of_lt h] at e
 simpa [cellsB, h] using e
/-- a row that is not nil, as a block -/
structure RowB (w : World) (g cap : Nat) (L : List Nat) : Prop where
 lt : ∀ x ∈ L, x < 256
 le : L.length ≤ cap
 max : cap ≤ 9223372036854775807
 row : ∃ cur, w.heap[g]? = some (.cells cur 5 (0, 0)) ∧ cur.size = cap ∧ cur.toList.take L.length = cellsB L
theorem RowB.ltg {w : World} {g cap : Nat} {L : List Nat} (h : RowB w g cap L) : g < w.heap.size := by
 obtain ⟨cur, hg, hs, ht⟩ := h.row
 exact lt_of_heap hg
theorem RowB.cell {w : World} {g cap : Nat} {L : List Nat} (h : RowB w g cap L) (i : Nat) (hi : i < L.length) : w.cell? ⟨g, i, none⟩ = some (.int .u8 (L[i] : Nat)) := by
 obtain ⟨cur, hg, hs, ht⟩ := h.row
 simp [World.cell?, hg, cur_getB ht i hi]
theorem RowB.frozen {w : World} {g cap : Nat} {L : List Nat} (h : RowB w g cap L) (i : Nat) : w.frozen? ⟨g, i, none⟩ = false := by
 obtain ⟨cur, hg, hs, ht⟩ := h.row
 simp [World.frozen?, hg]
theorem RowB.keep {w w' : World} {g cap : Nat} {L : List Nat} (h : RowB w g cap L) (hk : w'.heap[g]? = w.heap[g]?) : RowB w' g cap L := by
 obtain ⟨cur, hg, hs, ht⟩ := h.row
 exact ⟨h.lt, h.le, h.max, cur, hk.trans hg, hs, ht⟩
theorem RowB.below {w w' : World} {g cap B : Nat} {L : List Nat} (h : RowB w g cap L) (hb : Below B w w') (hB : g < B) : RowB w' g cap L := h.keep (hb.block g hB)
theorem RowB.own {w : World} {g cap base : Nat} {L : List Nat} (h : RowB w g cap L) (hb : base ≤ g) : OwnB w base (.slice (some ⟨g, 0, none⟩) L.length cap) L := by
 obtain ⟨cur, hg, hs, ht⟩ := h.row
 exact ⟨h.lt, by simp [cellsB_length], .inr ⟨g, cap, cur, rfl, hb, hg, h.le, by simpa [maxLen] using h.max, by simpa using hs, by simpa using ht⟩⟩
theorem RowB.take {w : World} {g cap : Nat} {L : List Nat} (h : RowB w g cap L) (k : Nat) : RowB w g cap (L.take k) := by
 obtain ⟨cur, hg, hs, ht⟩ := h.row
 refine ⟨fun x hx => h.lt x (List.mem_of_mem_take hx), by have := h.le; simp; omega, h.max, cur, hg, hs, ?_⟩
 rw [cellsB, List.map_take, ← cellsB, ← ht, List.take_take, List.length_take]
theorem RowB.set {w : World} {g cap : Nat} {L : List Nat} (h : RowB w g cap L) (i y : Nat) (hi : i < L.length) (hy : y < 256) : RowB (w.setCell ⟨g, i, none⟩ (.int .u8 (y : Nat))) g cap (L.set i y) := by
 obtain ⟨cur, hg, hs, ht⟩ := h.row
 refine ⟨fun x hx => ?_, by simpa using h.le, h.max, _, setCell_heap_same hg i _, by simpa using hs, ?_⟩
 ·rcases List.mem_or_eq_of_mem_set hx with hx | rfl
  ·exact h.lt x hx
  ·exact hy
 ·rw [Array.toList_setIfInBounds, List.length_set, List.take_set, ht]
  simp [cellsB, List.map_set]
section
variable (w : World) {ops : Array Oper} {rest : List Oper} {o : Oper} {a : Act} {Q : Exit → Act → World → Prop}
/-- append of one word -/
theorem wpList_appB (hg : o.guard = none) (s x : Operand) (ho : o.op = .call { callee := .builtin .append, args := #[s, x], argTypes := #[64, 64] })
 (base : Nat) (v : Value) (L : List Nat) (hs : a.eval s = v) (hown : OwnB w base v L) (p y : Nat) (hx : a.eval x = .slice (some ⟨p, 0, none⟩) 1 1) (hc : w.cell? ⟨p, 0, none⟩ = some (.int .u8 (y : Nat))) (hy : y < 256)
 (hbase : base ≤ w.heap.size) (hlen : L.length ≤ 1000000000)
 (hK : ∀ v' w', OwnB w' base v' (L ++ [y]) → w.grownBy w' v.ownBlock → wpList Tryz.prog ops Q rest (a.put o.dst v') w') : wpList Tryz.prog ops Q (o :: rest) a w := by
 obtain ⟨i0, hi, hz0, hz1, hz2⟩ := info_parts infoB
 refine wpList_append_own w hg s x 64 ho base 5 i0 (.int .u8 0) 1 1 undB hi hz0 hz1 hz2 rfl (by decide) v L.length (cellsB L) hs hown.own ⟨p, 0, none⟩ 1 1 [.int .u8 (y : Nat)] hx rfl ?_ ?_ ?_ ?_ hbase ?_
 ·intro j u hj
  cases j with
  | zero => simp at hj; subst hj; simpa [Addr.add] using hc
  | succ j => simp at hj
 ·simp [Value.oneCell']
 ·simp [maxLen]; omega
 ·omega
 ·intro v' w' ho hgr _
  refine hK v' w' ⟨?_, ?_⟩ hgr
  ·intro z hz
   rcases List.mem_append.1 hz with hz | hz
   ·exact hown.lt z hz
   ·simp at hz; subst hz; exact hy
  ·have e : cellsB (L ++ [y]) = cellsB L ++ [.int .u8 (y : Nat)] := by simp [cellsB]
   rw [e]; simpa using ho
end
theorem OwnB.alloc {w : World} {base : Nat} {v : Value} {L : List Nat} (h : OwnB w base v L) (o : Obj) : OwnB (w.alloc o) base v L := ⟨h.lt, h.own.alloc o⟩
theorem OwnB.row {w : World} {base n cap : Nat} {a : Option Addr} {L : List Nat} (h : OwnB w base (.slice a n cap) L) (hne : 0 < L.length) : ∃ g, a = some ⟨g, 0, none⟩ ∧ n = L.length ∧ base ≤ g ∧ RowB w g cap L := by
 rcases h.at_ with ⟨_, rfl⟩ | ⟨g, cap', cur, e, hb, hg, hl, hm, hs, ht⟩
 ·simp at hne
 ·cases e
  exact ⟨g, rfl, rfl, hb, h.lt, hl, hm, cur, hg, hs, ht⟩
theorem OwnB.slice {w : World} {base : Nat} {v : Value} {L : List Nat} (h : OwnB w base v L) : (v = .slice none 0 0 ∧ L = []) ∨ ∃ g cap, v = .slice (some ⟨g, 0, none⟩) L.length cap ∧ base ≤ g ∧ RowB w g cap L := by
 rcases h.at_ with ⟨rfl, rfl⟩ | ⟨g, cap, cur, rfl, hb, hg, hl, hm, hs, ht⟩
 ·exact .inl ⟨rfl, rfl⟩
 ·exact .inr ⟨g, cap, rfl, hb, h.lt, hl, hm, cur, hg, hs, ht⟩
/-- a change of one block of words leaves it -/
theorem OwnB.apart {w w' : World} {base g : Nat} {v : Value} {L : List Nat} (h : OwnB w base v L) (hb : ∀ k, k < w.heap.size → k ≠ g → w'.heap[k]? = w.heap[k]?) {cap : Nat} {X : List Nat} (hg : RowU w g cap X) : OwnB w' base v L := by
 rcases h.slice with ⟨rfl, rfl⟩ | ⟨g', cap', rfl, hbg, hr⟩
 ·exact ⟨by simp, World.ownsRow_nil w' base _ _⟩
 ·refine (RowB.keep hr (hb g' hr.ltg ?_)).own hbg
  rintro rfl
  obtain ⟨c1, e1, _⟩ := hr.row
  obtain ⟨c2, e2, _⟩ := hg.row
  rw [e1] at e2
  simp at e2
end Go.Proofs.YtfdnhkjeoeffoaaGreatDoor
end

section
/- Digits, lowest first; Reverse of bytes; bytes as a string. -/
namespace Go.Proofs.YtfdnhkjeoeffoaaGreatDoor
open Go.RowKit
set_option linter.unusedVariables false
def valD : List Nat → Nat | [] => 0 | c :: l => (c - 48) + 10 * valD l
def DigN (L : List Nat) : Prop := ∀ c ∈ L, 48 ≤ c ∧ c ≤ 57
theorem valD_append : ∀ (l m : List Nat), valD (l ++ m) = valD l + 10 ^ l.length * valD m
 | [], m => by simp [valD]
 | c :: l, m => by
   simp only [List.cons_append, valD, valD_append l m, List.length_cons, Nat.pow_succ]
   rw [Nat.mul_add, ← Nat.mul_assoc, Nat.mul_comm 10 (10 ^ l.length)]; omega
theorem valD_48 : ∀ (l : List Nat), (∀ c ∈ l, c = 48) → valD l = 0
 | [], _ => rfl
 | c :: l, h => by simp [valD, h c (by simp), valD_48 l (fun x hx => h x (by simp [hx]))]
theorem valD_strip {L : List Nat} {k : Nat} (h : ∀ c ∈ L.drop k, c = 48) : valD (L.take k) = valD L := by
 conv => rhs; rw [← List.take_append_drop k L]
 rw [valD_append, valD_48 _ h]; simp
/-- the text of a natural: digits, no nought ahead but of 0 itself -/
structure Canon (l : List UInt8) (x : Nat) : Prop where
 ne : l ≠ []
 dig : Digits l
 val : digVal l = x
 top : ∀ c r, l = c :: r → c.toNat = 48 → r = []
/-- the string that a row of digits is, turned round -/
def turned (L : List Nat) : List UInt8 := L.reverse.map UInt8.ofNat
theorem turned_length (L : List Nat) : (turned L).length = L.length := by simp [turned]
theorem toNat_ofNat_dig {c : Nat} (h : c ≤ 57) : (UInt8.ofNat c).toNat = c := by
 rw [UInt8.toNat_ofNat']; exact Nat.mod_eq_of_lt (by omega)
theorem turned_digits {L : List Nat} (hd : DigN L) : Digits (turned L) := by
 intro c hc
 simp only [turned, List.mem_map, List.mem_reverse] at hc
 obtain ⟨n, hn, rfl⟩ := hc
 have := hd n hn
 rw [toNat_ofNat_dig this.2]; exact this
theorem digVal_turned : ∀ (L : List Nat), DigN L → digVal (turned L) = valD L
 | [], _ => rfl
 | c :: l, h => by
   have hc := h c (by simp)
   have ih := digVal_turned l (fun x hx => h x (by simp [hx]))
   have e : turned (c :: l) = turned l ++ [UInt8.ofNat c] := by simp [turned]
   rw [e, digVal_snoc, ih, toNat_ofNat_dig hc.2, valD]; omega
theorem canon_turned {L : List Nat} {k : Nat} (hd : DigN L) (hk : k ≠ 0) (hkl : k ≤ L.length) (hs : ∀ c ∈ L.drop k, c = 48) (ht : ∀ h : k - 1 < L.length, L[k - 1] ≠ 48) : Canon (turned (L.take k)) (valD L) := by
 have hdk : DigN (L.take k) := fun c hc => hd c (List.mem_of_mem_take hc)
 have hsn : L.take k = L.take (k - 1) ++ [L[k - 1]'(by omega)] := by
  rw [← List.take_succ_eq_append_getElem (by omega)]; congr 1; omega
 have e : turned (L.take k) = UInt8.ofNat (L[k - 1]'(by omega)) :: turned (L.take (k - 1)) := by
  rw [hsn]; simp only [turned, List.reverse_append, List.reverse_singleton, List.map_cons, List.singleton_append]
 refine ⟨by rw [e]; simp, turned_digits hdk, by rw [digVal_turned _ hdk, valD_strip hs], ?_⟩
 intro c r h hc
 rw [e] at h
 cases h
 have h1 := hd (L[k - 1]'(by omega)) (List.getElem_mem _)
 rw [toNat_ofNat_dig h1.2] at hc
 exact absurd hc (ht (by omega))
theorem canon_zero : Canon (turned [48]) 0 := by
 refine ⟨by simp [turned], turned_digits (by intro c hc; simp at hc; omega), by decide, ?_⟩
 intro c r h hc
 simp [turned] at h
 exact h.2
/-- slices.Reverse of a row of bytes -/
theorem Reverse_any (g cap : Nat) (L : List Nat) (w : World) (h : RowB w g cap L) : Calls Tryz.prog 178 #[.slice (some ⟨g, 0, none⟩) L.length cap] w fun e w' => e = .returned (.tuple #[]) ∧ RowB w' g cap L.reverse ∧ ∀ B v, Below B v w → B ≤ g → Below B v w' := by
 have hH : Go.Sort.Holds (fun n : Nat => Value.int .u8 (n : Int)) w g 0 L.toArray := by
  intro j hj
  have hj' : j < L.length := by simpa using hj
  refine ⟨?_, h.frozen _⟩
  have := h.cell j hj'
  rw [Nat.zero_add, this]
  simp [hj']
 refine (Tryz.slices_Reverse (fun n : Nat => Value.int .u8 (n : Int)) (fun _ => rfl) g 0 cap L w hH (by have := h.le; have := h.max; omega)).mono ?_
 rintro e w' ⟨rfl, n, rfl⟩
 refine ⟨rfl, ?_, fun B v hb hB => Go.Lib.below_putRow hb hB⟩
 have ho := h.own (Nat.le_refl g)
 have h2 := Go.Lib.ownsRow_putRow (q := n) (k := L.length) (ys := L.reverse) (zs := L) (enc := fun n : Nat => Value.int .u8 (n : Int)) ho.own (by simp) (Nat.le_refl _)
 rw [List.take_of_length_le (by simp)] at h2
 rcases Nat.eq_zero_or_pos L.length with h0 | h0
 ·have : L = [] := List.eq_nil_of_length_eq_zero h0
  subst this
  refine ⟨by simp, by simp, h.max, ?_⟩
  obtain ⟨cur, hg, hs, ht⟩ := h.row
  exact ⟨Go.Sort.putCells (fun n : Nat => Value.int .u8 (n : Int)) 0 #[] cur, by simp [Go.Sort.putRow, Go.Sort.mapBlock, Go.Sort.ahead, Array.getElem?_modify, hg, Go.Sort.onCells], by simpa [Go.Sort.putCells] using hs, by simp [cellsB]⟩
 ·have h3 : OwnB (Go.Sort.putRow (fun n : Nat => Value.int .u8 (n : Int)) (Go.Sort.ahead w n) g 0 L.reverse.toArray) g (.slice (some ⟨g, 0, none⟩) L.length cap) L.reverse :=
   ⟨fun x hx => h.lt x (List.mem_reverse.1 hx), by rw [List.length_reverse]; exact h2⟩
  obtain ⟨g', e1, e2, _, h4⟩ := h3.row (by simpa using h0)
  cases e1
  exact h4
theorem add_plain' (b o i : Nat) : (⟨b, o, none⟩ : Addr).add i = ⟨b, o + i, none⟩ := by unfold Addr.add; split <;> simp_all
/-- string(b) -/
theorem wpList_string (w : World) {ops : Array Oper} {rest : List Oper} {o : Oper} {a : Act} {Q : Exit → Act → World → Prop} (hg : o.guard = none) (x : Operand) (ho : o.op = .convert 64 9 x) (g cap : Nat) (l : List UInt8) (hx : a.eval x = .slice (some ⟨g, 0, none⟩) l.length cap)
 (hc : ∀ j (hj : j < l.length), w.cell? ⟨g, j, none⟩ = some (.int .u8 (l[j].toNat : Nat)))
 (hK : wpList Tryz.prog ops Q rest (a.put o.dst (.string ⟨l.toArray⟩)) w) : wpList Tryz.prog ops Q (o :: rest) a w := by
 have hr := run_convert_bytes_back (P := Tryz.prog) w 64 9 5 ⟨g, 0, none⟩ cap l undBytes undByte undStr (fun j hj => by rw [add_plain', Nat.zero_add]; exact hc j hj)
 refine wpList_plain hg fun K' hK' => ?_
 unfold Oper.wp
 simp [execOp, ho, hx, hr, Result.andThen]
 exact hK' _ _ hK
end Go.Proofs.YtfdnhkjeoeffoaaGreatDoor
end

section
/- Package nat: Text. -/
namespace Go.Proofs.YtfdnhkjeoeffoaaGreatDoor
open Go.RowKit
set_option linter.unusedVariables false
theorem pow_lt_digits {n k m : Nat} (h : 10 ^ k * m ≤ n) (hm : 0 < m) (hn : n < B32 ^ 256) : k < 8192 := by
 rcases Nat.lt_or_ge k 8192 with h1 | h1
 ·exact h1
 ·exfalso
  have h2 := p2_le (a := 32 * 256) (b := k) (by omega)
  have h3 : 2 ^ k ≤ 10 ^ k := Nat.pow_le_pow_left (by decide) k
  have h4 : 10 ^ k * 1 ≤ 10 ^ k * m := Nat.mul_le_mul_left _ hm
  have h5 := b32_pow 256
  generalize B32 ^ 256 = b at *
  generalize (2 : Nat) ^ (32 * 256) = c at *
  omega
theorem RowB.cell_turned {w : World} {g cap : Nat} {L : List Nat} (h : RowB w g cap L.reverse) (hd : DigN L) (j : Nat) (hj : j < (turned L).length) : w.cell? ⟨g, j, none⟩ = some (.int .u8 ((turned L)[j].toNat : Nat)) := by
 have hj' : j < L.reverse.length := by simpa [turned_length] using hj
 rw [h.cell j hj']
 have h2 := hd _ (List.mem_reverse.1 (List.getElem_mem hj'))
 have h3 : (turned L)[j] = UInt8.ofNat (L.reverse[j]) := by simp [turned]
 rw [h3, toNat_ofNat_dig h2.2]
theorem RowU.grownB {w w3 : World} {g cap base : Nat} {A L : List Nat} {v : Value} {o : Obj} (h : RowU w g cap A) (hb : OwnB w base v L) (hgr : (w.alloc o).grownBy w3 v.ownBlock) : RowU w3 g cap A := by
 have hg := h.ltg
 have h1 : w3.heap[g]? = (w.alloc o).heap[g]? := by
  refine hgr.block g (by simp; omega) ?_
  rcases hb.slice with ⟨rfl, rfl⟩ | ⟨g', cap', rfl, hbg, hr⟩
  ·simp [Value.ownBlock]
  ·simp only [Value.ownBlock]
   intro he
   cases he
   obtain ⟨c1, e1, _⟩ := hr.row
   obtain ⟨c2, e2, _⟩ := h.row
   rw [e1] at e2
   simp at e2
 exact h.keep (h1.trans (Below.heap_alloc w o g hg))
theorem OwnB.lenV {w : World} {base : Nat} {v : Value} {L : List Nat} (h : OwnB w base v L) : lenV v = L.length := by
 rcases h.slice with ⟨rfl, rfl⟩ | ⟨g, cap, rfl, _, _⟩ <;> simp [Go.Proofs.YtfdnhkjeoeffoaaGreatDoor.lenV]
theorem valD_snoc (L : List Nat) (c : Nat) : valD (L ++ [c]) = valD L + 10 ^ L.length * (c - 48) := by rw [valD_append]; simp [valD]
theorem text_step (V l r i : Nat) : V + 10 ^ l * (r % 10) + 10 ^ (l + 1) * (r / 10) = V + 10 ^ l * r := by
 rw [Nat.pow_succ, Nat.mul_assoc, Nat.add_assoc, ← Nat.mul_add]
 congr 2; omega
set_option maxRecDepth 100000 in
set_option maxHeartbeats 8000000 in
theorem Text_any (va : Value) (x : Nat) (w : World) (hx : NatV w va x) (hX : (limbs x).length ≤ 256) (hx0 : 0 < x) :
 Calls Tryz.prog 112 #[va] w fun e w' => ∃ s : ByteArray, e = .returned (.tuple #[.string s, .int .i64 0]) ∧ Canon s.data.toList x ∧ Below w.heap.size w w' := by
 obtain ⟨a, ca, rfl, ha⟩ := hx
 have V1 := Lib.hid (valid_any a ca x w ha hX)
 have C1 := Lib.hid (Clone_any a ca (limbs x) w ha (by omega))
 have hle := ha.le
 have HXB : Hid (x < B32 ^ 256) := lt_of_limbs_length hX
 clear ha
 generalize hXe : limbs x = X at *
 have HXE := Lib.hid hXe
 clear hXe
 go_enter Tryz.func112, Tryz.ntmps112
 go_wp2_with fail
 refine V1.out.mono ?_
 rintro e w1 ⟨rfl, rfl⟩
 go_wp2_with fail
 refine C1.out.mono ?_
 rintro e w1 ⟨vl, rfl, hown0, hb1⟩
 have hs1 := hb1.size
 have HO0 := Lib.hid hown0
 have HB1 := Lib.hid hb1
 clear hown0 hb1 V1 C1 hle
 generalize hgw : w.heap.size = gw at *
 have HGW := Lib.hid hgw
 clear hgw
 go_wp2_with fail
 have hvx : Hid (val X = x) := by rw [← HXE.out]; exact val_limbs x
 go_loopw [4, 5] (fun vo vl wr => ∃ (m : Nat) (L : List Nat), OwnU wr gw vl (limbs m) ∧ OwnB wr gw vo L ∧ DigN L ∧ valD L + 10 ^ L.length * m = x ∧ Below gw w wr ∧ gw ≤ wr.heap.size ∧ (limbs m).length ≤ 256) (fun vo _ wr => 9000 - lenV vo)
 case atStart => exact ⟨x, [], by rw [HXE.out]; exact HO0.out, ⟨by simp, World.ownsRow_nil _ _ _ _⟩, by intro c hc; simp at hc, by simp [valD], HB1.out, by omega, by rw [HXE.out]; exact hX⟩
 case round =>
  obtain ⟨m, L, hown, hownb, hdl, hv, hbw, hgs, hml⟩ := hrel
  have HV := Lib.hid hv; have BW := Lib.hid hbw; have HO := Lib.hid hown; have HOB := Lib.hid hownb; have HD := Lib.hid hdl
  have HLU := Lib.hid hownb.lenV
  clear hv hbw hdl HO0 HB1
  by_cases hm : m = 0
  ·subst hm
   obtain ⟨a, cap, rfl, hlies⟩ := hown.lies
   rw [limbs_zero] at *
   clear hown hlies
   have hvd : valD L = x := by have := HV.out; omega
   rcases hownb.slice with ⟨rfl, rfl⟩ | ⟨g, cap2, rfl, hgb, hrow⟩
   ·simp [valD] at hvd; omega
   have HR := Lib.hid hrow
   have hgl := hrow.ltg
   have hrle := hrow.le
   have hrm := hrow.max
   have HVD := Lib.hid hvd
   have hL0 : Hid (0 < L.length) := by
    show 0 < L.length
    rcases Nat.eq_zero_or_pos L.length with h | h
    ·rw [List.eq_nil_of_length_eq_zero h] at hvd; simp [valD] at hvd; omega
    ·exact h
   clear hrow hownb hvd HO HOB
   go_wp2_with fail
   obtain ⟨wo, rfl⟩ : ∃ wo : World, wo = wr := ⟨_, rfl⟩
   go_loop [4] (fun v => ∃ k : Nat, k ≤ L.length ∧ v = .slice (some ⟨g, 0, none⟩) k cap2 ∧ ∀ c ∈ L.drop k, c = 48) lenV
   case atStart => exact ⟨L.length, Nat.le_refl _, rfl, by simp⟩
   case round =>
    obtain ⟨k, hk, rfl, hst⟩ := hrel
    have HST := Lib.hid hst
    clear hst
    cases k with
    | zero =>
      exfalso
      have h1 := valD_48 L (by simpa using HST.out)
      rw [HVD.out] at h1; omega
    | succ k =>
      have hc := HR.out.cell k (by omega)
      by_cases h48 : L[k] = 48
      ·rw [h48] at hc
       have HS2 : Hid (∀ c ∈ L.drop k, c = 48) := by
        intro c hc
        rw [List.drop_eq_getElem_cons (show k < L.length by omega)] at hc
        rcases List.mem_cons.1 hc with rfl | hc
        ·exact h48
        ·exact HST.out c hc
       clear h48
       go_wp2_with fail
       go_round
       case rel => exact ⟨k, by omega, by go_num, HS2.out⟩
       case measure => simp [lenV]
      ·have hCN := canon_turned HD.out (k := k + 1) (by omega) hk HST.out (fun _ => h48)
       rw [HVD.out] at hCN
       have HCN := Lib.hid hCN
       have h48' : (((L[k] : Nat) : Int) == 48) = false := beq_eq_false_iff_ne.2 (by omega)
       have hRT := HR.out.take (k + 1)
       have hREV := Reverse_any g cap2 (L.take (k + 1)) wo hRT
       rw [List.length_take, Nat.min_eq_left hk] at hREV
       have HREV := Lib.hid hREV
       clear hRT hREV hCN h48
       generalize L[k] = ck at *
       go_wp2_with fail
       refine HREV.out.mono ?_
       rintro e w2 ⟨rfl, hr2, hb2⟩
       have HR2 := Lib.hid hr2
       have HB2 := Lib.hid (hb2 gw w BW.out hgb)
       clear hr2 hb2
       have htl : (turned (L.take (k + 1))).length = k + 1 := by rw [turned_length, List.length_take, Nat.min_eq_left hk]
       have HCT := Lib.hid (HR2.out.cell_turned (fun c hc => HD.out c (List.mem_of_mem_take hc)))
       generalize turned (L.take (k + 1)) = T at *
       go_wp2_with (refine wpList_string _ rfl _ rfl g cap2 T (by rw [htl]; rfl) HCT.out ?_)
       go_ret2
       exact ⟨_, rfl, by simpa using HCN.out, by rw [HGW.out]; exact HB2.out⟩
  ·have hmp : 0 < m := by omega
   have hmn : limbs m ≠ [] := fun h => hm (limbs_eq_nil.1 h)
   have hlm : 0 < (limbs m).length := List.length_pos_iff.2 hmn
   obtain ⟨a, cap, rfl, hlies⟩ := hown.lies
   obtain ⟨g, rfl, _, hgb, hrow⟩ := hown.row hlm
   have hll : L.length < 8192 := pow_lt_digits (n := x) (by have := HV.out; omega) hmp HXB.out
   have hSM := Lib.hid (small_any g cap (limbs m) 1000000000 wr hrow (by decide) (by decide) (by omega))
   have hvm := val_limbs m
   rw [hvm] at hSM
   have hgl := hrow.ltg
   have HR := Lib.hid hrow
   clear hown hlies hm hmn hrow hvm
   generalize hMe : limbs m = M at *
   have HME := Lib.hid hMe
   clear hMe
   have hM0 : (0 : Int) < (M.length : Int) := by omega
   go_wp2_with fail
   refine hSM.out.mono ?_
   rintro e w2 ⟨rfl, ⟨A', hal, hav, hra⟩, hap⟩
   have hs2 := hap.size
   have HAP := Lib.hid hap
   have HOB2 := Lib.hid (HOB.out.apart (fun k hk hne => hap.block k hk (by simpa using hne)) HR.out)
   have HRA := Lib.hid hra
   have HB2 := Lib.hid (BW.out.trans (hap.below (B := gw) hgs (by simp; exact hgb)))
   have HAV := Lib.hid hav
   have HAL := Lib.hid hal
   clear hap hra hav hal hownb HOB hSM HR
   obtain ⟨r, hr⟩ : ∃ r, r = m % 1000000000 := ⟨_, rfl⟩
   rw [← hr]
   have hr9 : r < 1000000000 := by omega
   have HRR := Lib.hid hr
   clear hr
   go_wp2_with fail
   go_loopw [4, 6, 19] (fun vo n i wr => ∃ (k : Nat) (L' : List Nat), k ≤ 9 ∧ i = .int .i64 k ∧ n = .int .u32 ((r / 10 ^ k : Nat) : Int) ∧ OwnB wr gw vo L' ∧ DigN L' ∧ L'.length = L.length + k ∧ valD L' + 10 ^ (L.length + k) * (r / 10 ^ k) = valD L + 10 ^ L.length * r ∧ RowU wr g cap A' ∧ Below gw w wr ∧ gw ≤ wr.heap.size) (fun _ _ i _ => 9 - (intOf i).toNat)
   case atStart => exact ⟨0, L, by omega, rfl, by simp, HOB2.out, HD.out, rfl, by simp, HRA.out, HB2.out, by omega⟩
   case round =>
    obtain ⟨k, L', hk, rfl, rfl, hown', hdl', hll', hv', hra', hbw', hgs'⟩ := hrel
    have HO' := Lib.hid hown'; have HD' := Lib.hid hdl'; have HLL' := Lib.hid hll'; have HV' := Lib.hid hv'; have HRA' := Lib.hid hra'; have BW' := Lib.hid hbw'
    clear hown' hdl' hll' hv' hbw' HOB2 HRA HB2
    by_cases hk9 : k < 9
    ·obtain ⟨q, hq⟩ : ∃ q, q = r / 10 ^ k := ⟨_, rfl⟩
     have hqr : q ≤ r := by rw [hq]; exact Nat.div_le_self _ _
     have hq2 : r / 10 ^ (k + 1) = q / 10 := by rw [hq, Nat.pow_succ, Nat.div_div_eq_div_mul]
     have HV2 := HV'.out
     rw [← hq] at HV2 ⊢
     have HQ2 := Lib.hid hq2
     have hst := text_step (valD L') (L.length + k) q 0
     rw [HV2] at hst
     have HST := Lib.hid hst
     have hdq : q % 10 ≤ 9 := by omega
     obtain ⟨c, hc⟩ : ∃ c, c = 48 + q % 10 := ⟨_, rfl⟩
     have ec : 48 + (q : Int) % 10 = (c : Int) := by omega
     have hcd : 48 ≤ c ∧ c ≤ 57 := by omega
     have HC : Hid (q % 10 = c - 48) := by show q % 10 = c - 48; omega
     clear hq hq2 HV2 hst hc
     go_wp2_with (
      at_builtin
      go_loud (refine wpList_appB _ rfl _ _ rfl gw _ L' rfl (OwnB.alloc HO'.out _) wr.heap.size c rfl (by simp [go_sem]) (by omega) (by simp; omega) (by have := HLL'.out; omega) ?_)
      intro v1 w3 hown1 hgr1
      have HO1 := Lib.hid hown1
      have HB3 := Lib.hid ((BW'.out.alloc hgs' _).grown hgr1 (by simp; omega) (fun x hx => (HO'.out.own.lt x hx).1))
      have HRA3 : Hid (RowU w3 g cap A') := HRA'.out.grownB HO'.out hgr1
      have hs3 : gw ≤ w3.heap.size := by have := hgr1.size; simp at this; omega
      clear hown1 hgr1)
     go_wp2_with fail
     go_roundw
     case rel => exact ⟨k + 1, L' ++ [c], by omega, by go_num, by rw [HQ2.out]; rfl, HO1.out, by intro c hc; rcases List.mem_append.1 hc with h | h; exact HD'.out c h; simp at h; omega, by simp [HLL'.out]; omega, by rw [valD_snoc, HLL'.out, HQ2.out, ← HST.out, HC.out]; rfl, HRA3.out, HB3.out, hs3⟩
     case measure => simp [intOf]; omega
    ·obtain rfl : k = 9 := by omega
     have hlA : A'.length = M.length := HAL.out
     have hTR := trim_any (some ⟨g, 0, none⟩) cap A' wr HRA'.out.lies
     have htA : trimL A' = limbs (m / 1000000000) := by rw [trimL_limbs A' HRA'.out.lt, HAV.out]
     have hown3 := (HRA'.out.take (trimL A').length).own hgb
     rw [← trimL_prefix, htA] at hown3
     have hlm2 := trimL_length_le A'
     have hll2 := hown3.lies
     rw [htA] at hTR hlm2
     rw [hlA] at hTR hlm2
     have HTR := Lib.hid hTR
     have HOW3 := Lib.hid hown3
     have hr0 : r / 10 ^ 9 = 0 := Nat.div_eq_of_lt (by omega)
     have hvv : valD L' + 10 ^ L'.length * (m / 1000000000) = x := by
      have h1 := HV'.out
      rw [hr0, Nat.mul_zero, Nat.add_zero] at h1
      rw [h1, HLL'.out, Nat.pow_add, Nat.mul_assoc, Nat.add_assoc, ← Nat.mul_add, ← HV.out, HRR.out]
      congr 2; omega
     have HVV := Lib.hid hvv
     have HLV := Lib.hid HO'.out.lenV
     clear hvv hr0 hown3 hTR htA hll2 hra'
     generalize hZ : limbs (m / 1000000000) = Z at *
     have HZ := Lib.hid hZ
     clear hZ
     go_wp2_with fail
     refine HTR.out.mono ?_
     rintro e w4 ⟨rfl, rfl⟩
     go_wp2_with fail
     go_roundw
     case rel => exact ⟨m / 1000000000, L', by rw [HZ.out]; exact HOW3.out, HO'.out, HD'.out, HVV.out, BW'.out, hgs', by rw [HZ.out]; omega⟩
     case measure =>
      have h1 := HLV.out
      have h2 := HLL'.out
      have h3 := HLU.out
      omega
end Go.Proofs.YtfdnhkjeoeffoaaGreatDoor
end

section
/- Package nat: Text of 0; Div as a whole. -/
namespace Go.Proofs.YtfdnhkjeoeffoaaGreatDoor
open Go.RowKit
set_option linter.unusedVariables false
theorem rowB_one (w : World) (c : Nat) (hc : c < 256) : RowB (w.alloc (.cells #[.int .u8 (c : Nat)] 5)) w.heap.size 1 [c] :=
 ⟨by intro x hx; simp at hx; omega, by simp, by omega, _, heap_alloc_at w _, rfl, rfl⟩
set_option maxRecDepth 100000 in
set_option maxHeartbeats 8000000 in
theorem Text_zero (va : Value) (w : World) (hx : NatV w va 0) :
 Calls Tryz.prog 112 #[va] w fun e w' => ∃ s : ByteArray, e = .returned (.tuple #[.string s, .int .i64 0]) ∧ Canon s.data.toList 0 ∧ Below w.heap.size w w' := by
 obtain ⟨a, ca, rfl, ha⟩ := hx
 have V1 := Lib.hid (valid_any a ca 0 w ha (by rw [limbs_zero]; simp))
 have C1 := Lib.hid (Clone_any a ca (limbs 0) w ha (by rw [limbs_zero]; simp))
 have hle := ha.le
 rw [limbs_zero] at *
 clear ha
 go_enter Tryz.func112, Tryz.ntmps112
 go_wp2_with fail
 refine V1.out.mono ?_
 rintro e w1 ⟨rfl, rfl⟩
 go_wp2_with fail
 refine C1.out.mono ?_
 rintro e w1 ⟨vl, rfl, hown0, hb1⟩
 have hs1 := hb1.size
 have HB1 := Lib.hid hb1
 obtain ⟨a, cap, rfl, _⟩ := hown0.lies
 clear hown0 hb1 V1 C1 hle
 go_wp2_with fail
 refine wp_loop_rounds 1 ?_
 rw [rounds_succ]
 go_wp2_with fail
 refine wp_loop_rounds 1 ?_
 rw [rounds_succ]
 go_wp2_with fail
 have HREV := Reverse_any w1.heap.size 1 [48] (w1.alloc (.cells #[.int .u8 (48 : Nat)] 5)) (rowB_one w1 48 (by decide))
 refine HREV.mono ?_
 rintro e w2 ⟨rfl, hr2, hb2⟩
 have HB2 := Lib.hid (hb2 w.heap.size w (HB1.out.alloc hs1 _) hs1)
 have HCT := Lib.hid (hr2.cell_turned (by intro c hc; simp at hc; omega))
 have htl : (turned [48]).length = 1 := by rw [turned_length]; rfl
 have HCN := Lib.hid canon_zero
 clear hr2 hb2 HREV
 generalize turned [48] = T at *
 go_wp2_with (refine wpList_string _ rfl _ rfl w1.heap.size 1 T (by rw [htl]; rfl) HCT.out ?_)
 go_ret2
 exact ⟨_, rfl, by simpa using HCN.out, HB2.out⟩
theorem Text_all (va : Value) (x : Nat) (w : World) (hx : NatV w va x) (hX : (limbs x).length ≤ 256) :
 Calls Tryz.prog 112 #[va] w fun e w' => ∃ s : ByteArray, e = .returned (.tuple #[.string s, .int .i64 0]) ∧ Canon s.data.toList x ∧ Below w.heap.size w w' := by
 rcases Nat.eq_zero_or_pos x with rfl | h
 ·exact Text_zero va w hx
 ·exact Text_any va x w hx hX h
theorem Div_any (va vb : Value) (x y : Nat) (w : World) (hx : NatV w va x) (hy : NatV w vb y) (hX : (limbs x).length ≤ 256) (hY : (limbs y).length ≤ 256) (hy0 : 0 < y) :
 Calls Tryz.prog 192 #[va, vb] w fun e w' => ∃ q r, e = .returned (.tuple #[q, r, .int .i64 0]) ∧ NatV w' q (x / y) ∧ NatV w' r (x % y) ∧ Below w.heap.size w w' := by
 have h1 : (limbs y).length ≠ 0 := fun h => by
  have := limbs_eq_nil.1 (List.eq_nil_of_length_eq_zero h); omega
 rcases Nat.lt_or_ge 1 (limbs y).length with h | h
 ·exact Div_long va vb x y w hx hy hX hY h
 ·exact Div_small va vb x y w hx hy hX (by omega)
end Go.Proofs.YtfdnhkjeoeffoaaGreatDoor
end

section
/- Package dec: pow10, shifted, word. -/
namespace Go.Proofs.YtfdnhkjeoeffoaaGreatDoor
open Go.RowKit
set_option linter.unusedVariables false
theorem limbs_le_of_le {x y k : Nat} (h : x ≤ y) (hy : (limbs y).length ≤ k) : (limbs x).length ≤ k :=
 limbs_length_le (Nat.lt_of_le_of_lt h (lt_of_limbs_length hy))
theorem FromV (n : Nat) (m : Int) (hm : m = (n : Int)) (hn : n < 18446744073709551616) (w : World) :
 Calls Tryz.prog 180 #[.int .u64 m] w fun e w' => ∃ v, e = .returned v ∧ NatV w' v n ∧ Below w.heap.size w w' := by
 subst hm
 refine (From_any n hn w).mono ?_
 rintro e w' ⟨a, cap, rfl, hl, hb⟩
 exact ⟨_, rfl, ⟨a, cap, rfl, hl⟩, hb⟩
theorem pow10_sub {k j : Nat} (h : j ≤ k) (hk : (limbs (10 ^ k)).length ≤ 256) : (limbs (10 ^ j)).length ≤ 256 :=
 limbs_le_of_le (Nat.pow_le_pow_right (by decide) h) hk
set_option maxRecDepth 100000 in
set_option maxHeartbeats 4000000 in
theorem pow10_any (k : Nat) (w : World) (hk : (limbs (10 ^ k)).length ≤ 256) (hk2 : k ≤ 100000) :
 Calls Tryz.prog 181 #[.int .i64 k] w fun e w' => ∃ v, e = .returned v ∧ NatV w' v (10 ^ k) ∧ Below w.heap.size w w' := by
 have HK := Lib.hid hk
 clear hk
 go_enter Tryz.func181, Tryz.ntmps181
 go_wp2_with fail
 refine (FromV 1 1 rfl (by decide) w).mono ?_
 rintro e w1 ⟨v1, rfl, hn1, hb1⟩
 have HN1 := Lib.hid hn1
 have HB1 := Lib.hid hb1
 clear hn1 hb1
 go_wp2_with fail
 go_loopw [0, 3] (fun i v wr => ∃ (r j : Nat), r + j = k ∧ i = .int .i64 r ∧ NatV wr v (10 ^ j) ∧ Below w.heap.size w wr) (fun i _ _ => (intOf i).toNat)
 case atStart => exact ⟨k, 0, rfl, rfl, HN1.out, HB1.out⟩
 case round =>
  obtain ⟨r, j, hrj, rfl, hn, hb⟩ := hrel
  have HN := Lib.hid hn
  have HB := Lib.hid hb
  have hbs := hb.size
  clear hn hb HN1 HB1
  by_cases h9 : 9 ≤ r
  ·have e9 : (9 : Int) ≤ (r : Int) := by omega
   go_wp2_with fail
   refine (FromV 1000000000 1000000000 rfl (by decide) wr).mono ?_
   rintro e w1 ⟨v1, rfl, hn1, hb1⟩
   have HN1 := Lib.hid hn1
   have HNj := Lib.hid (HN.out.below hb1)
   have HB1 := Lib.hid (HB.out.trans (hb1.mono hbs))
   have hbs1 := hb1.size
   clear hn1 hb1 HN HB
   go_wp2_with fail
   have e10 : 10 ^ j * 1000000000 = 10 ^ (j + 9) := by rw [Nat.pow_add]
   have HM := Mul_any _ _ _ _ w1 HNj.out HN1.out (pow10_sub (k := k) (by omega) HK.out) (limbs_length_le (by decide)) (by rw [e10]; exact pow10_sub (k := k) (by omega) HK.out)
   rw [e10] at HM
   refine HM.mono ?_
   rintro e w2 ⟨v2, rfl, hn2, hb2⟩
   have HN2 := Lib.hid hn2
   have HB2 := Lib.hid (HB1.out.trans (hb2.mono (by omega)))
   clear hn2 hb2 HM HN1 HNj HB1 e10
   go_wp2_with fail
   go_roundw
   case rel => exact ⟨r - 9, j + 9, by omega, by go_num, HN2.out, HB2.out⟩
   case measure => simp [intOf]; omega
  ·have e9 : ¬ (9 : Int) ≤ (r : Int) := by omega
   go_wp2_with fail
   obtain ⟨wo, rfl⟩ : ∃ wo : World, wo = wr := ⟨_, rfl⟩
   go_loopw [0, 3] (fun i v wr => ∃ (r j : Nat), r + j = k ∧ i = .int .i64 r ∧ NatV wr v (10 ^ j) ∧ Below w.heap.size w wr) (fun i _ _ => (intOf i).toNat)
   case atStart => exact ⟨r, j, hrj, rfl, HN.out, HB.out⟩
   case round =>
    obtain ⟨r, j, hrj, rfl, hn, hb⟩ := hrel
    have HN := Lib.hid hn
    have HB := Lib.hid hb
    have hbs := hb.size
    clear hn hb
    by_cases h0 : 0 < r
    ·have e9 : (0 : Int) < (r : Int) := by omega
     go_wp2_with fail
     refine (FromV 10 10 rfl (by decide) wr).mono ?_
     rintro e w1 ⟨v1, rfl, hn1, hb1⟩
     have HN1 := Lib.hid hn1
     have HNj := Lib.hid (HN.out.below hb1)
     have HB1 := Lib.hid (HB.out.trans (hb1.mono hbs))
     have hbs1 := hb1.size
     clear hn1 hb1
     go_wp2_with fail
     have e10 : 10 ^ j * 10 = 10 ^ (j + 1) := by rw [Nat.pow_add]
     have HM := Mul_any _ _ _ _ w1 HNj.out HN1.out (pow10_sub (k := k) (by omega) HK.out) (limbs_length_le (by decide)) (by rw [e10]; exact pow10_sub (k := k) (by omega) HK.out)
     rw [e10] at HM
     refine HM.mono ?_
     rintro e w2 ⟨v2, rfl, hn2, hb2⟩
     have HN2 := Lib.hid hn2
     have HB2 := Lib.hid (HB1.out.trans (hb2.mono (by omega)))
     clear hn2 hb2 HM HN1 HNj HB1 e10
     go_wp2_with fail
     go_roundw
     case rel => exact ⟨r - 1, j + 1, by omega, by go_num, HN2.out, HB2.out⟩
     case measure => simp [intOf]; omega
    ·obtain rfl : r = 0 := by omega
     obtain rfl : j = k := by omega
     go_wp2_with fail
     go_ret
     exact ⟨_, rfl, HN.out, HB.out⟩
theorem Shl_zero (va : Value) (w : World) (hx : NatV w va 0) (kk : Nat) : Calls Tryz.prog 234 #[va, .int .i64 kk] w fun e w' => e = .returned (.tuple #[.slice none 0 0, .int .i64 0]) ∧ w = w' := by
 obtain ⟨a, ca, rfl, ha⟩ := hx
 have V1 := Lib.hid (valid_any a ca 0 w ha (by rw [limbs_zero]; simp))
 rw [limbs_zero] at *
 clear ha
 go_enter Tryz.func234, Tryz.ntmps234
 go_wp2_with fail
 refine V1.out.mono ?_
 rintro e w1 ⟨rfl, rfl⟩
 clear V1
 go_wp2_with fail
 go_ret2
 exact ⟨rfl, rfl⟩
theorem NatV.zero (w : World) : NatV w (.slice none 0 0) 0 := ⟨none, 0, by rw [limbs_zero]; rfl, by rw [limbs_zero]; exact Lies.nil w none 0 (by decide) (by simp)⟩
theorem shifted_any (va : Value) (x : Nat) (k : Int) (w : World) (hx : NatV w va x) (hk : k ≤ 8192) (hk0 : -100000 ≤ k) (hf : (limbs (x * 2 ^ k.toNat)).length ≤ 256) :
 Calls Tryz.prog 183 #[va, .int .i64 k] w fun e w' => ∃ v, e = .returned v ∧ NatV w' v (x * 2 ^ k.toNat) ∧ Below w.heap.size w w' := by
 have hm : max k 0 = (k.toNat : Int) := by omega
 have hkb : k.toNat ≤ 8192 := by omega
 generalize k.toNat = kk at *
 have HX := Lib.hid hx
 have HF := Lib.hid hf
 clear hx hf
 go_enter Tryz.func183, Tryz.ntmps183
 go_wp2_with fail
 rcases Nat.eq_zero_or_pos x with h0 | h0
 ·have HX0 := HX.out
  rw [h0] at HX0
  refine (Shl_zero va w HX0 kk).mono ?_
  rintro e w1 ⟨rfl, rfl⟩
  have hz : x * 2 ^ kk = 0 := by rw [h0]; simp
  clear HX0
  go_wp2_with fail
  go_ret
  exact ⟨_, rfl, by rw [hz]; exact NatV.zero _, Below.refl _ _⟩
 ·refine (Shl_any va x kk w HX.out h0 (by omega) HF.out).mono ?_
  rintro e w1 ⟨v1, rfl, hn1, hb1⟩
  have HN1 := Lib.hid hn1
  have HB1 := Lib.hid hb1
  clear hn1 hb1
  go_wp2_with fail
  go_ret
  exact ⟨_, rfl, HN1.out, HB1.out⟩
/-- word: the value modulo 2^64 -/
theorem word_step {X : List Nat} {k : Nat} (hk : k < X.length) (hX : ∀ x ∈ X, x < B32) : val (X.drop k) % 18446744073709551616 = (val (X.drop (k + 1)) % 18446744073709551616 * 4294967296 % 18446744073709551616) ||| X[k] := by
 rw [List.drop_eq_getElem_cons hk, val]
 have h1 := hX _ (List.getElem_mem hk)
 rw [B32] at *
 have h2 : val (X.drop (k + 1)) % 18446744073709551616 * 4294967296 % 18446744073709551616 = 2 ^ 32 * (val (X.drop (k + 1)) % 18446744073709551616 % 4294967296) := by omega
 rw [h2, ← Nat.two_pow_add_eq_or_of_lt (by omega)]
 omega
set_option maxRecDepth 100000 in
set_option maxHeartbeats 4000000 in
theorem word_any (va : Value) (x : Nat) (w : World) (hx : NatV w va x) (hX : (limbs x).length ≤ 256) :
 Calls Tryz.prog 269 #[va] w fun e w' => e = .returned (.int .u64 ((x % 18446744073709551616 : Nat) : Int)) ∧ w = w' := by
 obtain ⟨a, ca, rfl, ha⟩ := hx
 have hle := ha.le
 have HA := Lib.hid ha
 have hv : Hid (val (limbs x) = x) := val_limbs x
 have hlt := Lib.hid (limbs_lt x)
 clear ha
 generalize limbs x = X at *
 go_enter Tryz.func269, Tryz.ntmps269
 go_wp2_with fail
 go_loop [3, 4] (fun n i => ∃ k : Nat, k ≤ X.length ∧ i = .int .i64 ((k : Int) - 1) ∧ n = .int .u64 ((val (X.drop k) % 18446744073709551616 : Nat) : Int)) (fun _ i => (intOf i + 1).toNat)
 case atStart => exact ⟨X.length, Nat.le_refl _, rfl, by simp [val]⟩
 case round =>
  obtain ⟨k, hk, rfl, rfl⟩ := hrel
  cases k with
  | zero =>
    have hxv : Hid (val (X.drop 0) % 18446744073709551616 = x % 18446744073709551616) := by show _ = _; rw [List.drop_zero, hv.out]
    generalize val (X.drop 0) % 18446744073709551616 = y at *
    go_wp2_with fail
    go_ret
    exact ⟨by rw [hxv.out]; simp, rfl⟩
  | succ k =>
    obtain ⟨b, off, rfl, hc⟩ := HA.out.at_ k (by omega)
    have hst := word_step (show k < X.length by omega) hlt.out
    have hxk : X[k] < 4294967296 := hlt.out _ (List.getElem_mem _)
    obtain ⟨n, hn⟩ : ∃ n, n = val (X.drop (k + 1)) % 18446744073709551616 := ⟨_, rfl⟩
    obtain ⟨m, hm⟩ : ∃ m, m = val (X.drop k) % 18446744073709551616 := ⟨_, rfl⟩
    have hn64 : n < 18446744073709551616 := by rw [hn]; exact Nat.mod_lt _ (by decide)
    rw [← hn, ← hm] at hst
    rw [← hn]
    have HM := Lib.hid hm
    clear hn hm
    generalize X[k] = xk at *
    have e1 : bits .or .u64 (IntKind.wrap .u64 ((n : Int) * 4294967296)) (xk : Int) = (m : Int) := by
     have h := u64_or_nat (n * 4294967296 % 18446744073709551616) xk (Nat.mod_lt _ (by decide)) (by omega)
     rw [← hst] at h
     rw [← h, IntKind.wrap_u64]; simp
    clear hst
    go_wp2_with fail
    go_round
    case rel => exact ⟨k, by omega, by go_num, by rw [HM.out]⟩
    case measure => simp [intOf]
end Go.Proofs.YtfdnhkjeoeffoaaGreatDoor
end

section
/- Package dec: rounded. -/
namespace Go.Proofs.YtfdnhkjeoeffoaaGreatDoor
open Go.RowKit
set_option linter.unusedVariables false
/-- the whole number nearest to a fraction, ties to the even one -/
def rnd (x y : Nat) : Nat := if y < 2 * (x % y) ∨ 2 * (x % y) = y ∧ x / y % 2 = 1 then x / y + 1 else x / y
theorem rnd_le (x y : Nat) : rnd x y ≤ x / y + 1 := by unfold rnd; split <;> omega
theorem Cmp_V (va vb : Value) (x y : Nat) (w : World) (ha : NatV w va x) (hb : NatV w vb y) :
 Calls Tryz.prog 232 #[va, vb] w fun e w' => e = .returned (.int .i64 (cmpN x y)) ∧ Below w.heap.size w w' := by
 obtain ⟨a, ca, rfl, ha⟩ := ha
 obtain ⟨b, cb, rfl, hb⟩ := hb
 exact Cmp_any a ca x b cb y w ha hb
theorem u32_odd (x : Nat) (hx : x < 4294967296) : bits .and .u32 (x : Int) 1 = ((x % 2 : Nat) : Int) := by
 have h3 := u32_and_nat x 1 hx (by decide)
 rw [nat_mask1] at h3
 exact h3
theorem limbs_head {q : Nat} (h : 0 < (limbs q).length) : (limbs q)[0] % 2 = q % 2 := by
 have hq : q ≠ 0 := by rintro rfl; rw [limbs_zero] at h; simp at h
 have e := limbs_pos hq
 have : (limbs q)[0] = q % B32 := by simp [e]
 rw [this, B32]; omega
set_option maxRecDepth 100000 in
set_option maxHeartbeats 4000000 in
theorem rounded_any (va vb : Value) (x y : Nat) (w : World) (hx : NatV w va x) (hy : NatV w vb y) (hX : (limbs x).length ≤ 256) (hY : (limbs (2 * y)).length ≤ 256) (hy0 : 0 < y) (hQ : (limbs (x / y + 1)).length ≤ 256) :
 Calls Tryz.prog 182 #[va, vb] w fun e w' => ∃ v, e = .returned v ∧ NatV w' v (rnd x y) ∧ Below w.heap.size w w' := by
 have hY1 : (limbs y).length ≤ 256 := limbs_le_of_le (by omega) hY
 have HX := Lib.hid hx
 have HY := Lib.hid hy
 clear hx hy
 go_enter Tryz.func182, Tryz.ntmps182
 go_wp2_with fail
 refine (Div_any va vb x y w HX.out HY.out hX hY1 hy0).mono ?_
 rintro e w1 ⟨q, r, rfl, hq, hr, hb1⟩
 have HQ := Lib.hid hq
 have HR := Lib.hid hr
 have HB1 := Lib.hid hb1
 have HY1 := Lib.hid (HY.out.below hb1)
 have hs1 := hb1.size
 clear hq hr hb1 HX HY
 go_wp2_with fail
 have hr2 : x % y * 2 ^ (Int.toNat 1) = 2 * (x % y) := by
  rw [show Int.toNat 1 = 1 from rfl, Nat.pow_one, Nat.mul_comm]
 have hrl : (limbs (2 * (x % y))).length ≤ 256 := limbs_le_of_le (by have := Nat.mod_lt x hy0; omega) hY
 have HS := shifted_any r (x % y) 1 w1 HR.out (by decide) (by decide) (by rw [hr2]; exact hrl)
 rw [hr2] at HS
 refine HS.mono ?_
 rintro e w2 ⟨v2, rfl, hn2, hb2⟩
 have HN2 := Lib.hid hn2
 have HB2 := Lib.hid (HB1.out.trans (hb2.mono hs1))
 have HQ2 := Lib.hid (HQ.out.below hb2)
 have HY2 := Lib.hid (HY1.out.below hb2)
 have hs2 := hb2.size
 clear hn2 hb2 HS HQ HR HY1 HB1 hr2 hrl
 obtain ⟨aq, cq, rfl, hlq⟩ := HQ2.out
 have hq0 : (limbs (x / y)).length ≠ 0 → ∃ b, ∃ off, aq = some ⟨b, off, none⟩ ∧ ∃ t, w2.cell? ⟨b, off, none⟩ = some (.int .u32 (t : Nat)) ∧ t < 4294967296 ∧ t % 2 = x / y % 2 := by
  intro h
  obtain ⟨b, off, e, hc⟩ := hlq.at_ 0 (by omega)
  have h0 : 0 < (limbs (x / y)).length := Nat.pos_of_ne_zero h
  have h1 := limbs_head h0
  have h2 := hlq.lt _ (List.getElem_mem h0)
  exact ⟨b, off, e, (limbs (x / y))[0], by simpa using hc, h2, h1⟩
 have hql : (limbs (x / y)).length ≤ 256 := limbs_le_of_le (Nat.div_le_self _ _) hX
 have HC := Lib.hid (Cmp_V v2 vb (2 * (x % y)) y w2 HN2.out HY2.out)
 have HADD := Lib.hid (fun (v1 : Value) (w' : World) (h : NatV w' (.slice aq (limbs (x / y)).length cq) (x / y)) (h1 : NatV w' v1 1) => Add_any _ v1 (x / y) 1 w' h h1 hql (limbs_length_le (by decide)) hQ)
 clear hQ hX hY hY1
 have hqv : Hid ((limbs (x / y)).length = 0 → x / y = 0) := fun h => limbs_eq_nil.1 (List.eq_nil_of_length_eq_zero h)
 clear hlq
 have hup : Hid (y < 2 * (x % y) → rnd x y = x / y + 1) := by
  show _ → _; intro h; unfold rnd; rw [if_pos (.inl h)]
 have hdn : Hid (2 * (x % y) < y → rnd x y = x / y) := by
  show _ → _; intro h; unfold rnd; rw [if_neg (by omega)]
 have heq1 : Hid (2 * (x % y) = y → x / y % 2 = 1 → rnd x y = x / y + 1) := by
  show _ → _; intro h h1; unfold rnd; rw [if_pos (.inr ⟨h, h1⟩)]
 have heq0 : Hid (2 * (x % y) = y → x / y % 2 = 0 → rnd x y = x / y) := by
  show _ → _; intro h h1; unfold rnd; rw [if_neg (by omega)]
 generalize hrn : rnd x y = rn at *
 have HRN := Lib.hid hrn
 clear hrn
 have hq0' : (limbs (x / y)).length = 0 ∨ 0 < (limbs (x / y)).length := Nat.eq_zero_or_pos _
 generalize limbs (x / y) = Q at *
 generalize x / y = q at *
 generalize 2 * (x % y) = r2 at *
 rcases Nat.lt_trichotomy r2 y with hlt | hlt | hlt
 ·have hcm : cmpN r2 y = -1 := by simp only [cmpN]; rw [if_pos hlt]
  rw [hcm] at HC
  clear hcm
  rcases hq0' with h0 | h0
  ·have hq00 : q = 0 := hqv.out h0
   rw [h0] at HQ2 HADD
   have HRN2 : Hid (rnd x y = q) := by show _ = _; rw [HRN.out]; exact hdn.out hlt
   clear HRN hup hdn heq1 heq0 hlt
   go_wp2_with fail
   refine HC.out.mono ?_
   rintro e w3 ⟨rfl, hb3⟩
   have HQ3 := Lib.hid (HQ2.out.below hb3)
   have HB3 := Lib.hid (HB2.out.trans (hb3.mono (by omega)))
   clear hb3 HQ2 HB2
   go_wp2_with fail
   go_ret
   exact ⟨_, rfl, by rw [HRN2.out]; exact HQ3.out, HB3.out⟩
  rcases Nat.mod_two_eq_zero_or_one q with hp | hp
  ·obtain ⟨b, off, rfl, t, hc, ht, htq⟩ := hq0 (by omega)
   have hodd := u32_odd t ht
   rw [htq, hp] at hodd
   have HRN2 : Hid (rnd x y = q) := by show _ = _; rw [HRN.out]; exact hdn.out hlt
   clear HRN hup hdn heq1 heq0 hlt
   go_wp2_with fail
   refine HC.out.mono ?_
   rintro e w3 ⟨rfl, hb3⟩
   have HQ3 := Lib.hid (HQ2.out.below hb3)
   have HB3 := Lib.hid (HB2.out.trans (hb3.mono (by omega)))
   clear hb3 HQ2 HB2
   go_wp2_with fail
   go_ret
   exact ⟨_, rfl, by rw [HRN2.out]; exact HQ3.out, HB3.out⟩
  ·obtain ⟨b, off, rfl, t, hc, ht, htq⟩ := hq0 (by omega)
   have hodd := u32_odd t ht
   rw [htq, hp] at hodd
   have HRN2 : Hid (rnd x y = q) := by show _ = _; rw [HRN.out]; exact hdn.out hlt
   clear HRN hup hdn heq1 heq0 hlt
   go_wp2_with fail
   refine HC.out.mono ?_
   rintro e w3 ⟨rfl, hb3⟩
   have HQ3 := Lib.hid (HQ2.out.below hb3)
   have HB3 := Lib.hid (HB2.out.trans (hb3.mono (by omega)))
   clear hb3 HQ2 HB2
   go_wp2_with fail
   go_ret
   exact ⟨_, rfl, by rw [HRN2.out]; exact HQ3.out, HB3.out⟩
 ·have hcm : cmpN r2 y = 0 := by simp only [cmpN]; rw [if_neg (by omega), if_pos hlt]
  rw [hcm] at HC
  clear hcm
  rcases hq0' with h0 | h0
  ·have hq00 : q = 0 := hqv.out h0
   rw [h0] at HQ2 HADD
   have HRN2 : Hid (rnd x y = q) := by show _ = _; rw [HRN.out]; exact heq0.out hlt (by omega)
   clear HRN hup hdn heq1 heq0 hlt
   go_wp2_with fail
   refine HC.out.mono ?_
   rintro e w3 ⟨rfl, hb3⟩
   have HQ3 := Lib.hid (HQ2.out.below hb3)
   have HB3 := Lib.hid (HB2.out.trans (hb3.mono (by omega)))
   clear hb3 HQ2 HB2
   go_wp2_with fail
   go_ret
   exact ⟨_, rfl, by rw [HRN2.out]; exact HQ3.out, HB3.out⟩
  rcases Nat.mod_two_eq_zero_or_one q with hp | hp
  ·obtain ⟨b, off, rfl, t, hc, ht, htq⟩ := hq0 (by omega)
   have hodd := u32_odd t ht
   rw [htq, hp] at hodd
   have HRN2 : Hid (rnd x y = q) := by show _ = _; rw [HRN.out]; exact heq0.out hlt hp
   clear HRN hup hdn heq1 heq0 hlt
   go_wp2_with fail
   refine HC.out.mono ?_
   rintro e w3 ⟨rfl, hb3⟩
   have HQ3 := Lib.hid (HQ2.out.below hb3)
   have HB3 := Lib.hid (HB2.out.trans (hb3.mono (by omega)))
   clear hb3 HQ2 HB2
   go_wp2_with fail
   go_ret
   exact ⟨_, rfl, by rw [HRN2.out]; exact HQ3.out, HB3.out⟩
  ·obtain ⟨b, off, rfl, t, hc, ht, htq⟩ := hq0 (by omega)
   have hodd := u32_odd t ht
   rw [htq, hp] at hodd
   have HRN2 : Hid (rnd x y = q + 1) := by show _ = _; rw [HRN.out]; exact heq1.out hlt hp
   clear HRN hup hdn heq1 heq0 hlt
   go_wp2_with fail
   refine HC.out.mono ?_
   rintro e w3 ⟨rfl, hb3⟩
   have HQ3 := Lib.hid (HQ2.out.below hb3)
   have HB3 := Lib.hid (HB2.out.trans (hb3.mono (by omega)))
   have hs3 := hb3.size
   clear hb3 HQ2 HB2
   go_wp2_with fail
   refine (FromV 1 1 rfl (by decide) w3).mono ?_
   rintro e w4 ⟨v4, rfl, hn4, hb4⟩
   have HN4 := Lib.hid hn4
   have HQ4 := Lib.hid (HQ3.out.below hb4)
   have HB4 := Lib.hid (HB3.out.trans (hb4.mono (by omega)))
   have hs4 := hb4.size
   clear hn4 hb4 HQ3 HB3
   go_wp2_with fail
   refine (HADD.out v4 w4 HQ4.out HN4.out).mono ?_
   rintro e w5 ⟨v5, rfl, hn5, hb5⟩
   have HN5 := Lib.hid hn5
   have HB5 := Lib.hid (HB4.out.trans (hb5.mono (by omega)))
   clear hn5 hb5 HQ4 HB4 HN4
   go_wp2_with fail
   go_ret
   exact ⟨_, rfl, by rw [HRN2.out]; exact HN5.out, HB5.out⟩
 ·have hcm : cmpN r2 y = 1 := by simp only [cmpN]; rw [if_neg (by omega), if_neg (by omega)]
  rw [hcm] at HC
  clear hcm
  rcases hq0' with h0 | h0
  ·have hq00 : q = 0 := hqv.out h0
   rw [h0] at HQ2 HADD
   have HRN2 : Hid (rnd x y = q + 1) := by show _ = _; rw [HRN.out]; exact hup.out hlt
   clear HRN hup hdn heq1 heq0 hlt
   go_wp2_with fail
   refine HC.out.mono ?_
   rintro e w3 ⟨rfl, hb3⟩
   have HQ3 := Lib.hid (HQ2.out.below hb3)
   have HB3 := Lib.hid (HB2.out.trans (hb3.mono (by omega)))
   have hs3 := hb3.size
   clear hb3 HQ2 HB2
   go_wp2_with fail
   refine (FromV 1 1 rfl (by decide) w3).mono ?_
   rintro e w4 ⟨v4, rfl, hn4, hb4⟩
   have HN4 := Lib.hid hn4
   have HQ4 := Lib.hid (HQ3.out.below hb4)
   have HB4 := Lib.hid (HB3.out.trans (hb4.mono (by omega)))
   have hs4 := hb4.size
   clear hn4 hb4 HQ3 HB3
   go_wp2_with fail
   refine (HADD.out v4 w4 HQ4.out HN4.out).mono ?_
   rintro e w5 ⟨v5, rfl, hn5, hb5⟩
   have HN5 := Lib.hid hn5
   have HB5 := Lib.hid (HB4.out.trans (hb5.mono (by omega)))
   clear hn5 hb5 HQ4 HB4 HN4
   go_wp2_with fail
   go_ret
   exact ⟨_, rfl, by rw [HRN2.out]; exact HN5.out, HB5.out⟩
  rcases Nat.mod_two_eq_zero_or_one q with hp | hp
  ·obtain ⟨b, off, rfl, t, hc, ht, htq⟩ := hq0 (by omega)
   have hodd := u32_odd t ht
   rw [htq, hp] at hodd
   have HRN2 : Hid (rnd x y = q + 1) := by show _ = _; rw [HRN.out]; exact hup.out hlt
   clear HRN hup hdn heq1 heq0 hlt
   go_wp2_with fail
   refine HC.out.mono ?_
   rintro e w3 ⟨rfl, hb3⟩
   have HQ3 := Lib.hid (HQ2.out.below hb3)
   have HB3 := Lib.hid (HB2.out.trans (hb3.mono (by omega)))
   have hs3 := hb3.size
   clear hb3 HQ2 HB2
   go_wp2_with fail
   refine (FromV 1 1 rfl (by decide) w3).mono ?_
   rintro e w4 ⟨v4, rfl, hn4, hb4⟩
   have HN4 := Lib.hid hn4
   have HQ4 := Lib.hid (HQ3.out.below hb4)
   have HB4 := Lib.hid (HB3.out.trans (hb4.mono (by omega)))
   have hs4 := hb4.size
   clear hn4 hb4 HQ3 HB3
   go_wp2_with fail
   refine (HADD.out v4 w4 HQ4.out HN4.out).mono ?_
   rintro e w5 ⟨v5, rfl, hn5, hb5⟩
   have HN5 := Lib.hid hn5
   have HB5 := Lib.hid (HB4.out.trans (hb5.mono (by omega)))
   clear hn5 hb5 HQ4 HB4 HN4
   go_wp2_with fail
   go_ret
   exact ⟨_, rfl, by rw [HRN2.out]; exact HN5.out, HB5.out⟩
  ·obtain ⟨b, off, rfl, t, hc, ht, htq⟩ := hq0 (by omega)
   have hodd := u32_odd t ht
   rw [htq, hp] at hodd
   have HRN2 : Hid (rnd x y = q + 1) := by show _ = _; rw [HRN.out]; exact hup.out hlt
   clear HRN hup hdn heq1 heq0 hlt
   go_wp2_with fail
   refine HC.out.mono ?_
   rintro e w3 ⟨rfl, hb3⟩
   have HQ3 := Lib.hid (HQ2.out.below hb3)
   have HB3 := Lib.hid (HB2.out.trans (hb3.mono (by omega)))
   have hs3 := hb3.size
   clear hb3 HQ2 HB2
   go_wp2_with fail
   refine (FromV 1 1 rfl (by decide) w3).mono ?_
   rintro e w4 ⟨v4, rfl, hn4, hb4⟩
   have HN4 := Lib.hid hn4
   have HQ4 := Lib.hid (HQ3.out.below hb4)
   have HB4 := Lib.hid (HB3.out.trans (hb4.mono (by omega)))
   have hs4 := hb4.size
   clear hn4 hb4 HQ3 HB3
   go_wp2_with fail
   refine (HADD.out v4 w4 HQ4.out HN4.out).mono ?_
   rintro e w5 ⟨v5, rfl, hn5, hb5⟩
   have HN5 := Lib.hid hn5
   have HB5 := Lib.hid (HB4.out.trans (hb5.mono (by omega)))
   clear hn5 hb5 HQ4 HB4 HN4
   go_wp2_with fail
   go_ret
   exact ⟨_, rfl, by rw [HRN2.out]; exact HN5.out, HB5.out⟩
end Go.Proofs.YtfdnhkjeoeffoaaGreatDoor
end
