/- Package format: Parse. -/
import Derived.Test.YtcmpdamfeoaapaaGreatDoorP3
namespace Go.Proofs.YtcmpdamfeoaapaaGreatDoor
open Go.RowKit
set_option linter.unusedVariables false

/-- the letters of verbs: of all, of numbers -/
def verbsB : ByteArray := ⟨#[100, 105, 111, 120, 88, 117, 101, 69, 102, 70, 103, 71, 99, 115, 37]⟩
def numsB : ByteArray := ⟨#[100, 105, 111, 120, 88, 117, 101, 69, 102, 70, 103, 71]⟩
def ixB (t : ByteArray) (c : Nat) : Int := Lib.indexByte t.data.toList c.toUInt8
def zeroA : Array Value := pieceA false false false false false 0 0 0 false false 0
def pw (s : ByteArray) (k : Nat) : Nat := k + 1 + flagN s (k + 1)
def fw (s : ByteArray) (k : Nat) : Int × Bool × Bool × Nat := figV s (pw s k)
def pd (s : ByteArray) (k : Nat) : Nat := pw s k + (fw s k).2.2.2
def dotP (s : ByteArray) (k : Nat) : Bool := ch s (pd s k) == 46 && (fw s k).2.2.1
def fp (s : ByteArray) (k : Nat) : Int × Bool × Bool × Nat := if dotP s k then figV s (pd s k + 1) else (-1, false, (fw s k).2.2.1, 0)
def pv (s : ByteArray) (k : Nat) : Nat := if dotP s k then pd s k + 1 + (fp s k).2.2.2 else pd s k
def okP (s : ByteArray) (k : Nat) : Bool := (fp s k).2.2.1 && (ch s (pv s k) != 0) && decide (0 ≤ ixB verbsB (ch s (pv s k)))
def pieceP (s : ByteArray) (k : Nat) : Array Value :=
  pieceA (hasF 45 s (k + 1) (flagN s (k + 1))) (hasF 43 s (k + 1) (flagN s (k + 1))) (hasF 32 s (k + 1) (flagN s (k + 1))) (hasF 35 s (k + 1) (flagN s (k + 1))) (hasF 48 s (k + 1) (flagN s (k + 1)))
    (fw s k).1 (fp s k).1 ((ch s (pv s k) : Nat) : Int) (fw s k).2.1 (fp s k).2.1 ((pv s k + 1 : Nat) : Int)
/-- what Parse answers -/
def parseA (s : ByteArray) (i : Int) : Array Value := if chr s i = 37 ∧ okP s i.toNat = true then pieceP s i.toNat else zeroA
def parseE (s : ByteArray) (i : Int) : Int := if chr s i = 37 ∧ okP s i.toNat = true then 0 else 50

theorem figV_le (s : ByteArray) (i : Nat) : (figV s i).2.2.2 ≤ s.size + 1 := by
  have h := digN_le s i
  unfold figV
  split
  · show 1 ≤ _
    omega
  · split
    · show digN s i ≤ _
      omega
    · show digN s i ≤ _
      omega
theorem chr_in {s : ByteArray} {i : Int} (h : chr s i ≠ 0) : ∃ k : Nat, i = (k : Int) ∧ k < s.size := by
  unfold chr at h
  rcases Int.lt_or_le i 0 with hi | hi
  · rw [if_pos hi] at h; exact absurd rfl h
  · rw [if_neg (by omega)] at h
    refine ⟨i.toNat, by omega, ?_⟩
    rcases Nat.lt_or_ge i.toNat s.size with hk | hk
    · exact hk
    · exact absurd (ch_out hk) h

/-- a piece stored whole -/
theorem PcAt.all {w : World} {r : Nat} {u0 u1 u2 u3 u4 u5 u6 u7 u8 u9 u10 : Value} (h : PcAt w r #[u0, u1, u2, u3, u4, u5, u6, u7, u8, u9, u10]) (v0 v1 v2 v3 v4 v5 v6 v7 v8 v9 v10 : Value) :
    PcAt (((((((((((w.setCell ⟨r, 0, none⟩ v0).setCell ⟨r, 1, none⟩ v1).setCell ⟨r, 2, none⟩ v2).setCell ⟨r, 3, none⟩ v3).setCell ⟨r, 4, none⟩ v4).setCell ⟨r, 5, none⟩ v5).setCell ⟨r, 6, none⟩ v6).setCell ⟨r, 7, none⟩ v7).setCell ⟨r, 8, none⟩ v8).setCell ⟨r, 9, none⟩ v9).setCell ⟨r, 10, none⟩ v10) r #[v0, v1, v2, v3, v4, v5, v6, v7, v8, v9, v10] := by
  have h0 : PcAt _ r #[v0, u1, u2, u3, u4, u5, u6, u7, u8, u9, u10] := h.set 0 v0
  have h1 : PcAt _ r #[v0, v1, u2, u3, u4, u5, u6, u7, u8, u9, u10] := h0.set 1 v1
  have h2 : PcAt _ r #[v0, v1, v2, u3, u4, u5, u6, u7, u8, u9, u10] := h1.set 2 v2
  have h3 : PcAt _ r #[v0, v1, v2, v3, u4, u5, u6, u7, u8, u9, u10] := h2.set 3 v3
  have h4 : PcAt _ r #[v0, v1, v2, v3, v4, u5, u6, u7, u8, u9, u10] := h3.set 4 v4
  have h5 : PcAt _ r #[v0, v1, v2, v3, v4, v5, u6, u7, u8, u9, u10] := h4.set 5 v5
  have h6 : PcAt _ r #[v0, v1, v2, v3, v4, v5, v6, u7, u8, u9, u10] := h5.set 6 v6
  have h7 : PcAt _ r #[v0, v1, v2, v3, v4, v5, v6, v7, u8, u9, u10] := h6.set 7 v7
  have h8 : PcAt _ r #[v0, v1, v2, v3, v4, v5, v6, v7, v8, u9, u10] := h7.set 8 v8
  have h9 : PcAt _ r #[v0, v1, v2, v3, v4, v5, v6, v7, v8, v9, u10] := h8.set 9 v9
  have h10 : PcAt _ r #[v0, v1, v2, v3, v4, v5, v6, v7, v8, v9, v10] := h9.set 10 v10
  exact h10
theorem below_all {n : Nat} {a w : World} {r : Nat} (h : Below n a w) (hr : n ≤ r) (v0 v1 v2 v3 v4 v5 v6 v7 v8 v9 v10 : Value) :
    Below n a (((((((((((w.setCell ⟨r, 0, none⟩ v0).setCell ⟨r, 1, none⟩ v1).setCell ⟨r, 2, none⟩ v2).setCell ⟨r, 3, none⟩ v3).setCell ⟨r, 4, none⟩ v4).setCell ⟨r, 5, none⟩ v5).setCell ⟨r, 6, none⟩ v6).setCell ⟨r, 7, none⟩ v7).setCell ⟨r, 8, none⟩ v8).setCell ⟨r, 9, none⟩ v9).setCell ⟨r, 10, none⟩ v10) := (((((((((((h.setCell (p := ⟨r, 0, none⟩) hr v0).setCell (p := ⟨r, 1, none⟩) hr v1).setCell (p := ⟨r, 2, none⟩) hr v2).setCell (p := ⟨r, 3, none⟩) hr v3).setCell (p := ⟨r, 4, none⟩) hr v4).setCell (p := ⟨r, 5, none⟩) hr v5).setCell (p := ⟨r, 6, none⟩) hr v6).setCell (p := ⟨r, 7, none⟩) hr v7).setCell (p := ⟨r, 8, none⟩) hr v8).setCell (p := ⟨r, 9, none⟩) hr v9).setCell (p := ⟨r, 10, none⟩) hr v10)

set_option maxHeartbeats 8000000 in
set_option maxRecDepth 1000000 in
theorem FParse_any (s : ByteArray) (i : Int) (w : World) (hs : s.size ≤ 200000000000000) (hE : ErrOk w) :
    Calls Tryz.prog 85 #[.string s, .int .i64 i] w fun e w' => e = .returned (.tuple #[.agg (parseA s i), .int .i64 (parseE s i)]) ∧ Below w.heap.size w w' := by
  have HE := Lib.hid hE
  have hel := hE.lt
  have HQA : Hid (parseA s i = if chr s i = 37 ∧ okP s i.toNat = true then pieceP s i.toNat else zeroA) := rfl
  have HQE : Hid (parseE s i = if chr s i = 37 ∧ okP s i.toNat = true then 0 else 50) := rfl
  generalize parseA s i = QA at *
  generalize parseE s i = QE at *
  have HX := Lib.hid (fun r W h => next_any s i r W h)
  have HX0 := HX
  clear hE
  by_cases h37 : chr s i = 37
  · obtain ⟨k, rfl, hk⟩ := chr_in (s := s) (i := i) (by rw [h37]; decide)
    rw [Int.toNat_natCast, h37] at HQA HQE
    rw [h37] at HX0
    have HQA1 : Hid (QA = if okP s k = true then pieceP s k else zeroA) := by show _ = _; simpa using HQA.out
    have HQE1 : Hid (QE = if okP s k = true then 0 else 50) := by show _ = _; simpa using HQE.out
    clear HQA HQE h37
    unfold pieceP at HQA1
    have HF := Lib.hid (fun r p W h1 h2 h3 h4 => flags_any s (k + 1) r p 0 (-1) 0 false false 0 W h1 h2 h3 h4)
    have hfn : flagN s (k + 1) ≤ s.size - (k + 1) := by
      unfold flagN
      refine Nat.le_trans (List.takeWhile_sublist _).length_le ?_
      rw [List.length_drop, sz_list]
      exact Nat.le_refl _
    have hpw : pw s k = k + 1 + flagN s (k + 1) := rfl
    have HPW1 := Lib.hid hpw
    rw [← HPW1.out] at HF
    have hp1 : pw s k ≤ s.size := by omega
    have HN1 := Lib.hid (fun r W h1 h2 h3 => number_any s (pw s k) r W h1 hp1 hs h2 h3)
    clear hpw hfn
    rw [show figV s (pw s k) = fw s k from rfl] at HN1
    have hpd : pd s k = pw s k + (fw s k).2.2.2 := rfl
    rw [← hpd] at HN1
    clear hpd
    generalize hasF 45 s (k + 1) (flagN s (k + 1)) = fm at *
    generalize hasF 43 s (k + 1) (flagN s (k + 1)) = fp1 at *
    generalize hasF 32 s (k + 1) (flagN s (k + 1)) = fb at *
    generalize hasF 35 s (k + 1) (flagN s (k + 1)) = fa at *
    generalize hasF 48 s (k + 1) (flagN s (k + 1)) = fz at *
    have HND := Lib.hid (fun r W h => next_any s (pd s k : Int) r W h)
    rw [show chr s (pd s k : Int) = ch s (pd s k) from chr_nat _ _] at HND
    go_enter Tryz.func85, Tryz.ntmps85
    go_wp2_with fail
    have hr0 : RdAt ((w.alloc (.cells #[.bool false, .bool false, .bool false, .bool false, .bool false, .int .i64 0, .int .i64 0, .int .u8 0, .bool false, .bool false, .int .i64 0] 114)).alloc (.cells #[.string s, .int .i64 (k : Int)] 157)) (w.heap.size + 1) s k := by
      have h := heap_alloc_at (w.alloc (.cells #[.bool false, .bool false, .bool false, .bool false, .bool false, .int .i64 0, .int .i64 0, .int .u8 0, .bool false, .bool false, .int .i64 0] 114)) (.cells #[.string s, .int .i64 (k : Int)] 157)
      rw [World.size_alloc] at h
      exact h
    have hp0 : PcAt ((w.alloc (.cells #[.bool false, .bool false, .bool false, .bool false, .bool false, .int .i64 0, .int .i64 0, .int .u8 0, .bool false, .bool false, .int .i64 0] 114)).alloc (.cells #[.string s, .int .i64 (k : Int)] 157)) w.heap.size zeroA :=
      (heap_alloc_lt _ _ _ (by simp)).trans (heap_alloc_at w _)
    have hB0 : Below w.heap.size w ((w.alloc (.cells #[.bool false, .bool false, .bool false, .bool false, .bool false, .int .i64 0, .int .i64 0, .int .u8 0, .bool false, .bool false, .int .i64 0] 114)).alloc (.cells #[.string s, .int .i64 (k : Int)] 157)) := ((Below.refl _ _).alloc (Nat.le_refl _) _).alloc (by simp) _
    refine (HX0.out (w.heap.size + 1) _ hr0).mono ?_
    rintro e w1 ⟨rfl, hb⟩
    have HP1 := Lib.hid (hp0.below hb)
    have HR1 := Lib.hid (hr0.below hb)
    have HB1 := Lib.hid (hB0.trans (hb.mono hB0.size))
    have c1 := HR1.out.c1
    have f1 := HR1.out.f1
    have hz1 := hb.size
    rw [World.size_alloc, World.size_alloc] at hz1
    have hk1 : (k : Int) + 1 ≤ 200000000000000 := by omega
    clear hr0 hp0 hB0 hb HX0
    go_wp2_with fail
    -- MAIN
    have HDP : Hid (dotP s k = (ch s (pd s k) == 46 && (fw s k).2.2.1)) := rfl
    have HFP : Hid (fp s k = if dotP s k then figV s (pd s k + 1) else (-1, false, (fw s k).2.2.1, 0)) := rfl
    have HPV : Hid (pv s k = if dotP s k then pd s k + 1 + (fp s k).2.2.2 else pd s k) := rfl
    have HOK : Hid (okP s k = ((fp s k).2.2.1 && (ch s (pv s k) != 0) && decide (0 ≤ ixB verbsB (ch s (pv s k))))) := rfl
    have HDL := Lib.hid (fun h : ch s (pd s k) = 46 => show pd s k + 1 ≤ s.size from by
      rcases Nat.lt_or_ge (pd s k) s.size with h' | h'
      · exact h'
      · rw [ch_out h'] at h; cases h)
    have HIX : Hid (∀ (c : Nat) (Z : Int) (W : World), (c : Int) = Z → Calls Tryz.prog 58 #[.string ⟨#[100, 105, 111, 120, 88, 117, 101, 69, 102, 70, 103, 71, 99, 115, 37]⟩, .int .u8 Z] W fun e w' => e = .returned (.int .i64 (ixB verbsB c)) ∧ w' = W) :=
      fun c Z W h => h ▸ Tryz.strings_IndexByte verbsB (c : Int) W
    have hDle : pd s k ≤ 700000000000000 := by
      have h1 := figV_le s (pw s k)
      have h2 : pd s k = pw s k + (figV s (pw s k)).2.2.2 := rfl
      omega
    generalize hW2 : World.alloc _ _ = W2
    have z2 : W2.heap.size = w1.heap.size + 1 := by rw [← hW2]; simp [World.setCell]
    have HR2 := Lib.hid (show RdAt W2 (w.heap.size + 1) s ((k + 1 : Nat) : Int) from by
      rw [← hW2]; exact (heap_alloc_lt _ _ _ (by simp [World.setCell]; omega)).trans (HR1.out.step _))
    have HP2 := Lib.hid (show PcAt W2 w1.heap.size (pieceA false false false false false 0 (-1) 0 false false 0) from by
      rw [← hW2, show w1.heap.size = (w1.setCell ⟨w.heap.size + 1, 1, none⟩ (.int .i64 ((k : Int) + 1))).heap.size from by simp [World.setCell]]
      exact heap_alloc_at _ _)
    have HQ2 := Lib.hid (show PcAt W2 w.heap.size zeroA from by
      rw [← hW2]; exact (heap_alloc_lt _ _ _ (by simp [World.setCell]; omega)).trans (HP1.out.other 1 _ (by omega)))
    have HB2 := Lib.hid (show Below w.heap.size w W2 from by
      rw [← hW2]; exact (HB1.out.setCell (p := ⟨w.heap.size + 1, 1, none⟩) (by simp) _).alloc (by simp [World.setCell]; omega) _)
    clear hW2 c1 f1 HR1 HP1 HB1
    refine (HF.out (w.heap.size + 1) w1.heap.size W2 HR2.out HP2.out (by omega) (by omega)).mono ?_
    rintro e w3 ⟨rfl, hr3, hp3, ha3⟩
    have hz3 := ha3.size
    have HR3 := Lib.hid hr3
    have HP3 := Lib.hid hp3
    have HQ3 := Lib.hid (HQ2.out.keep ha3 (by simp; omega))
    have HB3 := Lib.hid (HB2.out.trans (ha3.below (B := w.heap.size) (by omega) (by simp; omega)))
    clear hr3 hp3 ha3 HR2 HP2 HQ2 HB2 HF
    go_wp2_with fail
    refine (HN1.out (w.heap.size + 1) w3 HR3.out (HE.out.below HB3.out) (by omega)).mono ?_
    rintro e w4 ⟨rfl, hr4, ha4⟩
    have hz4 := ha4.size
    have HR4 := Lib.hid hr4
    have HP4 := Lib.hid (HP3.out.keep ha4 (by simp; omega))
    have HQ4 := Lib.hid (HQ3.out.keep ha4 (by simp))
    have HB4 := Lib.hid (HB3.out.trans (ha4.below (B := w.heap.size) (by omega) (by simp)))
    have k5 : w4.cell? ⟨w1.heap.size, 5, none⟩ = some (.int .i64 0) := HP4.out.cell 5
    have k8 : w4.cell? ⟨w1.heap.size, 8, none⟩ = some (.bool false) := HP4.out.cell 8
    have kf : ∀ j, w4.frozen? ⟨w1.heap.size, j, none⟩ = false := HP4.out.frozen
    generalize (fw s k).1 = n1 at *
    generalize (fw s k).2.1 = st1 at *
    generalize (fw s k).2.2.1 = ok1 at *
    clear hr4 ha4 HR3 HP3 HQ3 HB3 HN1
    go_wp2_with fail
    refine (HND.out (w.heap.size + 1) _ ((HR4.out.other 5 _ (by omega)).other 8 _ (by omega))).mono ?_
    rintro e w5 ⟨rfl, hb⟩
    have hz5 := hb.size
    simp only [World.size_setCell] at hz5
    have HR5 := Lib.hid (((HR4.out.other 5 (.int .i64 n1) (show w.heap.size + 1 ≠ w1.heap.size by omega)).other 8 (.bool st1) (by omega)).below hb)
    have HP5 := Lib.hid (show PcAt w5 w1.heap.size (pieceA fm fp1 fb fa fz n1 (-1) 0 st1 false 0) from (((HP4.out.set 5 _).set 8 _).below hb))
    have HQ5 := Lib.hid (((HQ4.out.other 5 (.int .i64 n1) (show w.heap.size ≠ w1.heap.size by omega)).other 8 (.bool st1) (by omega)).below hb)
    have HB5 := Lib.hid (((HB4.out.setCell (p := ⟨w1.heap.size, 5, none⟩) (by simp; omega) (.int .i64 n1)).setCell (p := ⟨w1.heap.size, 8, none⟩) (by simp; omega) (.bool st1)).trans (hb.mono (by simp only [World.size_setCell]; omega)))
    generalize ch s (pd s k) = C at *
    generalize pd s k = D at *
    clear hb k5 k8 kf HR4 HP4 HQ4 HB4 HND
    by_cases hC : C = 46
    · subst hC
      have hDL := HDL.out rfl
      clear HDL
      cases ok1
      · have HF1 : Hid (fp s k = (-1, false, false, 0)) := by show _ = _; rw [HFP.out, HDP.out]; rfl
        have HV1 : Hid (pv s k = D) := by show _ = _; rw [HPV.out, HDP.out]; rfl
        clear HFP HPV HDP
        go_wp2_with fail
        rw [← HV1.out] at HR5
        have HRt := HR5
        have HPt := HP5
        have HQt := HQ5
        have HBt := HB5
        have HNt := Lib.hid (next_any s (pv s k : Nat) (w.heap.size + 1) w5 HRt.out)
        rw [chr_nat] at HNt
        refine HNt.out.mono ?_
        rintro e wa ⟨rfl, hb⟩
        have hza := hb.size
        try simp only [World.size_setCell] at hza
        have HRa := Lib.hid (HRt.out.below hb)
        have HPa := Lib.hid (HPt.out.below hb)
        have HQa := Lib.hid (HQt.out.below hb)
        have HBa := Lib.hid (HBt.out.trans (hb.mono (by first | omega | (simp only [World.size_setCell]; omega))))
        have hV := ch_lt s (pv s k)
        have hX : pv s k ≤ 700000000000000 := by rw [HV1.out]; exact hDle
        generalize ch s (pv s k) = V at *
        generalize pv s k = X at *
        rw [show ((X + 1 : Nat) : Int) = (X : Int) + 1 from by omega] at HQA1
        generalize hZ : ((V : Nat) : Int) = Z at *
        have HZ := Lib.hid hZ
        clear hZ
        clear hb HNt HRt HPt HQt HBt
        have k7 : wa.cell? ⟨w1.heap.size, 7, none⟩ = some (.int .u8 0) := HPa.out.cell 7
        have kfa : ∀ j, wa.frozen? ⟨w1.heap.size, j, none⟩ = false := HPa.out.frozen
        have q1 : (wa.setCell ⟨w1.heap.size, 7, none⟩ (.int .u8 Z)).cell? ⟨w.heap.size + 1, 1, none⟩ = some (.int .i64 (X : Nat)) := (HRa.out.other 7 _ (by omega)).c1
        have q2 : (wa.setCell ⟨w1.heap.size, 7, none⟩ (.int .u8 Z)).cell? ⟨w1.heap.size, 10, none⟩ = some (.int .i64 0) := (HPa.out.set 7 _).cell 10
        have HPc := Lib.hid (show PcAt ((wa.setCell ⟨w1.heap.size, 7, none⟩ (.int .u8 Z)).setCell ⟨w1.heap.size, 10, none⟩ (.int .i64 ((X : Int) + 1))) w1.heap.size (pieceA fm fp1 fb fa fz n1 (-1) Z st1 false ((X : Int) + 1)) from (HPa.out.set 7 _).set 10 _)
        have HQc := Lib.hid (show PcAt ((wa.setCell ⟨w1.heap.size, 7, none⟩ (.int .u8 Z)).setCell ⟨w1.heap.size, 10, none⟩ (.int .i64 ((X : Int) + 1))) w.heap.size zeroA from (HQa.out.other 7 _ (by omega)).other 10 _ (by omega))
        have HBc := Lib.hid (show Below w.heap.size w ((wa.setCell ⟨w1.heap.size, 7, none⟩ (.int .u8 Z)).setCell ⟨w1.heap.size, 10, none⟩ (.int .i64 ((X : Int) + 1))) from (HBa.out.setCell (p := ⟨w1.heap.size, 7, none⟩) (by simp; omega) _).setCell (p := ⟨w1.heap.size, 10, none⟩) (by simp; omega) _)
        have y0 : ((wa.setCell ⟨w1.heap.size, 7, none⟩ (.int .u8 Z)).setCell ⟨w1.heap.size, 10, none⟩ (.int .i64 ((X : Int) + 1))).cell? ⟨w1.heap.size, 0, none⟩ = some (.bool fm) := HPc.out.cell 0
        have y1 : ((wa.setCell ⟨w1.heap.size, 7, none⟩ (.int .u8 Z)).setCell ⟨w1.heap.size, 10, none⟩ (.int .i64 ((X : Int) + 1))).cell? ⟨w1.heap.size, 1, none⟩ = some (.bool fp1) := HPc.out.cell 1
        have y2 : ((wa.setCell ⟨w1.heap.size, 7, none⟩ (.int .u8 Z)).setCell ⟨w1.heap.size, 10, none⟩ (.int .i64 ((X : Int) + 1))).cell? ⟨w1.heap.size, 2, none⟩ = some (.bool fb) := HPc.out.cell 2
        have y3 : ((wa.setCell ⟨w1.heap.size, 7, none⟩ (.int .u8 Z)).setCell ⟨w1.heap.size, 10, none⟩ (.int .i64 ((X : Int) + 1))).cell? ⟨w1.heap.size, 3, none⟩ = some (.bool fa) := HPc.out.cell 3
        have y4 : ((wa.setCell ⟨w1.heap.size, 7, none⟩ (.int .u8 Z)).setCell ⟨w1.heap.size, 10, none⟩ (.int .i64 ((X : Int) + 1))).cell? ⟨w1.heap.size, 4, none⟩ = some (.bool fz) := HPc.out.cell 4
        have y5 : ((wa.setCell ⟨w1.heap.size, 7, none⟩ (.int .u8 Z)).setCell ⟨w1.heap.size, 10, none⟩ (.int .i64 ((X : Int) + 1))).cell? ⟨w1.heap.size, 5, none⟩ = some (.int .i64 n1) := HPc.out.cell 5
        have y6 : ((wa.setCell ⟨w1.heap.size, 7, none⟩ (.int .u8 Z)).setCell ⟨w1.heap.size, 10, none⟩ (.int .i64 ((X : Int) + 1))).cell? ⟨w1.heap.size, 6, none⟩ = some (.int .i64 (-1)) := HPc.out.cell 6
        have y7 : ((wa.setCell ⟨w1.heap.size, 7, none⟩ (.int .u8 Z)).setCell ⟨w1.heap.size, 10, none⟩ (.int .i64 ((X : Int) + 1))).cell? ⟨w1.heap.size, 7, none⟩ = some (.int .u8 Z) := HPc.out.cell 7
        have y8 : ((wa.setCell ⟨w1.heap.size, 7, none⟩ (.int .u8 Z)).setCell ⟨w1.heap.size, 10, none⟩ (.int .i64 ((X : Int) + 1))).cell? ⟨w1.heap.size, 8, none⟩ = some (.bool st1) := HPc.out.cell 8
        have y9 : ((wa.setCell ⟨w1.heap.size, 7, none⟩ (.int .u8 Z)).setCell ⟨w1.heap.size, 10, none⟩ (.int .i64 ((X : Int) + 1))).cell? ⟨w1.heap.size, 9, none⟩ = some (.bool false) := HPc.out.cell 9
        have y10 : ((wa.setCell ⟨w1.heap.size, 7, none⟩ (.int .u8 Z)).setCell ⟨w1.heap.size, 10, none⟩ (.int .i64 ((X : Int) + 1))).cell? ⟨w1.heap.size, 10, none⟩ = some (.int .i64 ((X : Int) + 1)) := HPc.out.cell 10
        have z0 : ((wa.setCell ⟨w1.heap.size, 7, none⟩ (.int .u8 Z)).setCell ⟨w1.heap.size, 10, none⟩ (.int .i64 ((X : Int) + 1))).cell? ⟨w.heap.size, 0, none⟩ = some (.bool false) := HQc.out.cell 0
        have z1 : ((wa.setCell ⟨w1.heap.size, 7, none⟩ (.int .u8 Z)).setCell ⟨w1.heap.size, 10, none⟩ (.int .i64 ((X : Int) + 1))).cell? ⟨w.heap.size, 1, none⟩ = some (.bool false) := HQc.out.cell 1
        have z2 : ((wa.setCell ⟨w1.heap.size, 7, none⟩ (.int .u8 Z)).setCell ⟨w1.heap.size, 10, none⟩ (.int .i64 ((X : Int) + 1))).cell? ⟨w.heap.size, 2, none⟩ = some (.bool false) := HQc.out.cell 2
        have z3 : ((wa.setCell ⟨w1.heap.size, 7, none⟩ (.int .u8 Z)).setCell ⟨w1.heap.size, 10, none⟩ (.int .i64 ((X : Int) + 1))).cell? ⟨w.heap.size, 3, none⟩ = some (.bool false) := HQc.out.cell 3
        have z4 : ((wa.setCell ⟨w1.heap.size, 7, none⟩ (.int .u8 Z)).setCell ⟨w1.heap.size, 10, none⟩ (.int .i64 ((X : Int) + 1))).cell? ⟨w.heap.size, 4, none⟩ = some (.bool false) := HQc.out.cell 4
        have z5 : ((wa.setCell ⟨w1.heap.size, 7, none⟩ (.int .u8 Z)).setCell ⟨w1.heap.size, 10, none⟩ (.int .i64 ((X : Int) + 1))).cell? ⟨w.heap.size, 5, none⟩ = some (.int .i64 0) := HQc.out.cell 5
        have z6 : ((wa.setCell ⟨w1.heap.size, 7, none⟩ (.int .u8 Z)).setCell ⟨w1.heap.size, 10, none⟩ (.int .i64 ((X : Int) + 1))).cell? ⟨w.heap.size, 6, none⟩ = some (.int .i64 0) := HQc.out.cell 6
        have z7 : ((wa.setCell ⟨w1.heap.size, 7, none⟩ (.int .u8 Z)).setCell ⟨w1.heap.size, 10, none⟩ (.int .i64 ((X : Int) + 1))).cell? ⟨w.heap.size, 7, none⟩ = some (.int .u8 0) := HQc.out.cell 7
        have z8 : ((wa.setCell ⟨w1.heap.size, 7, none⟩ (.int .u8 Z)).setCell ⟨w1.heap.size, 10, none⟩ (.int .i64 ((X : Int) + 1))).cell? ⟨w.heap.size, 8, none⟩ = some (.bool false) := HQc.out.cell 8
        have z9 : ((wa.setCell ⟨w1.heap.size, 7, none⟩ (.int .u8 Z)).setCell ⟨w1.heap.size, 10, none⟩ (.int .i64 ((X : Int) + 1))).cell? ⟨w.heap.size, 9, none⟩ = some (.bool false) := HQc.out.cell 9
        have z10 : ((wa.setCell ⟨w1.heap.size, 7, none⟩ (.int .u8 Z)).setCell ⟨w1.heap.size, 10, none⟩ (.int .i64 ((X : Int) + 1))).cell? ⟨w.heap.size, 10, none⟩ = some (.int .i64 0) := HQc.out.cell 10
        have zf : ∀ j, ((wa.setCell ⟨w1.heap.size, 7, none⟩ (.int .u8 Z)).setCell ⟨w1.heap.size, 10, none⟩ (.int .i64 ((X : Int) + 1))).frozen? ⟨w.heap.size, j, none⟩ = false := HQc.out.frozen
        go_wp2_with fail
        generalize hW : World.setCell _ _ _ = W
        have hp : PcAt W w.heap.size #[.bool false, .bool false, .bool false, .bool false, .bool false, .int .i64 0, .int .i64 0, .int .u8 0, .bool false, .bool false, .int .i64 0] := by rw [← hW]; exact PcAt.all (show PcAt _ w.heap.size _ from HQc.out) _ _ _ _ _ _ _ _ _ _ _
        have hb : Below w.heap.size w W := by rw [← hW]; exact below_all HBc.out (Nat.le_refl _) _ _ _ _ _ _ _ _ _ _ _
        have hok : okP s k = false := by rw [HOK.out, HF1.out]; rfl
        rw [HQA1.out, HQE1.out, hok]
        clear hW z0 z1 z2 z3 z4 z5 z6 z7 z8 z9 z10 y0 y1 y2 y3 y4 y5 y6 y7 y8 y9 y10
        have k0 : W.cell? ⟨w.heap.size, 0, none⟩ = some (.bool false) := hp.cell 0
        have k1 : W.cell? ⟨w.heap.size, 1, none⟩ = some (.bool false) := hp.cell 1
        have k2 : W.cell? ⟨w.heap.size, 2, none⟩ = some (.bool false) := hp.cell 2
        have k3 : W.cell? ⟨w.heap.size, 3, none⟩ = some (.bool false) := hp.cell 3
        have k4 : W.cell? ⟨w.heap.size, 4, none⟩ = some (.bool false) := hp.cell 4
        have k5 : W.cell? ⟨w.heap.size, 5, none⟩ = some (.int .i64 0) := hp.cell 5
        have k6 : W.cell? ⟨w.heap.size, 6, none⟩ = some (.int .i64 0) := hp.cell 6
        have k7 : W.cell? ⟨w.heap.size, 7, none⟩ = some (.int .u8 0) := hp.cell 7
        have k8 : W.cell? ⟨w.heap.size, 8, none⟩ = some (.bool false) := hp.cell 8
        have k9 : W.cell? ⟨w.heap.size, 9, none⟩ = some (.bool false) := hp.cell 9
        have k10 : W.cell? ⟨w.heap.size, 10, none⟩ = some (.int .i64 0) := hp.cell 10
        clear hp
        exact bodyPost_ret (v := .tuple #[.agg #[.bool false, .bool false, .bool false, .bool false, .bool false, .int .i64 0, .int .i64 0, .int .u8 0, .bool false, .bool false, .int .i64 0], .int .i64 50]) (by simp [results, Tryz.results85, go_sem, *]) rfl ⟨rfl, hb⟩
      · have HF1 : Hid (fp s k = figV s (D + 1)) := by show _ = _; rw [HFP.out, HDP.out]; rfl
        have HV1 : Hid (pv s k = D + 1 + (fp s k).2.2.2) := by show _ = _; rw [HPV.out, HDP.out]; rfl
        clear HFP HPV HDP
        have c1 := HR5.out.c1
        have f1 := HR5.out.f1
        have hD1 : (D : Int) + 1 ≤ 200000000000000 := by omega
        go_wp2_with fail
        have hE5 : ErrOk (w5.setCell ⟨w.heap.size + 1, 1, none⟩ (.int .i64 ((D : Int) + 1))) := HE.out.below (HB5.out.setCell (p := ⟨w.heap.size + 1, 1, none⟩) (by simp) _)
        refine (number_any s (D + 1) (w.heap.size + 1) _ (by rw [show ((D + 1 : Nat) : Int) = (D : Int) + 1 from by omega]; exact HR5.out.step _) hDL hs hE5 (by omega)).mono ?_
        rintro e w6 ⟨rfl, hr6, ha6⟩
        have hz6 := ha6.size
        simp only [World.size_setCell] at hz6
        have HR6 := Lib.hid hr6
        have HP6 := Lib.hid ((HP5.out.other 1 (.int .i64 ((D : Int) + 1)) (show w1.heap.size ≠ w.heap.size + 1 by omega)).keep ha6 (by simp; omega))
        have HQ6 := Lib.hid ((HQ5.out.other 1 (.int .i64 ((D : Int) + 1)) (show w.heap.size ≠ w.heap.size + 1 by omega)).keep ha6 (by simp))
        have HB6 := Lib.hid ((HB5.out.setCell (p := ⟨w.heap.size + 1, 1, none⟩) (by simp) (.int .i64 ((D : Int) + 1))).trans (ha6.below (B := w.heap.size) (by simp only [World.size_setCell]; omega) (by simp)))
        have k6 : w6.cell? ⟨w1.heap.size, 6, none⟩ = some (.int .i64 (-1)) := HP6.out.cell 6
        have k9 : w6.cell? ⟨w1.heap.size, 9, none⟩ = some (.bool false) := HP6.out.cell 9
        have kf : ∀ j, w6.frozen? ⟨w1.heap.size, j, none⟩ = false := HP6.out.frozen
        rw [← HF1.out, ← HV1.out] at HR6
        rw [← HF1.out]
        have hfl := figV_le s (D + 1)
        rw [← HF1.out] at hfl
        clear hr6 ha6 c1 f1 hE5 HR5 HP5 HQ5 HB5
        generalize (fp s k).1 = n2 at *
        generalize (fp s k).2.1 = st2 at *
        generalize (fp s k).2.2.1 = ok2 at *
        go_wp2_with fail
        have HRt := Lib.hid ((HR6.out.other 6 (.int .i64 n2) (show w.heap.size + 1 ≠ w1.heap.size by omega)).other 9 (.bool st2) (show w.heap.size + 1 ≠ w1.heap.size by omega))
        have HPt := Lib.hid (show PcAt _ w1.heap.size (pieceA fm fp1 fb fa fz n1 n2 0 st1 st2 0) from (HP6.out.set 6 (.int .i64 n2)).set 9 (.bool st2))
        have HQt := Lib.hid ((HQ6.out.other 6 (.int .i64 n2) (show w.heap.size ≠ w1.heap.size by omega)).other 9 (.bool st2) (show w.heap.size ≠ w1.heap.size by omega))
        have HBt := Lib.hid ((HB6.out.setCell (p := ⟨w1.heap.size, 6, none⟩) (show w.heap.size ≤ w1.heap.size by omega) (.int .i64 n2)).setCell (p := ⟨w1.heap.size, 9, none⟩) (show w.heap.size ≤ w1.heap.size by omega) (.bool st2))
        have HNt := Lib.hid (next_any s (pv s k : Nat) (w.heap.size + 1) _ HRt.out)
        rw [chr_nat] at HNt
        refine HNt.out.mono ?_
        rintro e wa ⟨rfl, hb⟩
        have hza := hb.size
        try simp only [World.size_setCell] at hza
        have HRa := Lib.hid (HRt.out.below hb)
        have HPa := Lib.hid (HPt.out.below hb)
        have HQa := Lib.hid (HQt.out.below hb)
        have HBa := Lib.hid (HBt.out.trans (hb.mono (by first | omega | (simp only [World.size_setCell]; omega))))
        have hV := ch_lt s (pv s k)
        have hX : pv s k ≤ 1900000000000000 := by rw [HV1.out]; omega
        generalize ch s (pv s k) = V at *
        generalize pv s k = X at *
        rw [show ((X + 1 : Nat) : Int) = (X : Int) + 1 from by omega] at HQA1
        generalize hZ : ((V : Nat) : Int) = Z at *
        have HZ := Lib.hid hZ
        clear hZ
        clear hb HNt HRt HPt HQt HBt
        have k7 : wa.cell? ⟨w1.heap.size, 7, none⟩ = some (.int .u8 0) := HPa.out.cell 7
        have kfa : ∀ j, wa.frozen? ⟨w1.heap.size, j, none⟩ = false := HPa.out.frozen
        have q1 : (wa.setCell ⟨w1.heap.size, 7, none⟩ (.int .u8 Z)).cell? ⟨w.heap.size + 1, 1, none⟩ = some (.int .i64 (X : Nat)) := (HRa.out.other 7 _ (by omega)).c1
        have q2 : (wa.setCell ⟨w1.heap.size, 7, none⟩ (.int .u8 Z)).cell? ⟨w1.heap.size, 10, none⟩ = some (.int .i64 0) := (HPa.out.set 7 _).cell 10
        have HPc := Lib.hid (show PcAt ((wa.setCell ⟨w1.heap.size, 7, none⟩ (.int .u8 Z)).setCell ⟨w1.heap.size, 10, none⟩ (.int .i64 ((X : Int) + 1))) w1.heap.size (pieceA fm fp1 fb fa fz n1 n2 Z st1 st2 ((X : Int) + 1)) from (HPa.out.set 7 _).set 10 _)
        have HQc := Lib.hid (show PcAt ((wa.setCell ⟨w1.heap.size, 7, none⟩ (.int .u8 Z)).setCell ⟨w1.heap.size, 10, none⟩ (.int .i64 ((X : Int) + 1))) w.heap.size zeroA from (HQa.out.other 7 _ (by omega)).other 10 _ (by omega))
        have HBc := Lib.hid (show Below w.heap.size w ((wa.setCell ⟨w1.heap.size, 7, none⟩ (.int .u8 Z)).setCell ⟨w1.heap.size, 10, none⟩ (.int .i64 ((X : Int) + 1))) from (HBa.out.setCell (p := ⟨w1.heap.size, 7, none⟩) (by simp; omega) _).setCell (p := ⟨w1.heap.size, 10, none⟩) (by simp; omega) _)
        have y0 : ((wa.setCell ⟨w1.heap.size, 7, none⟩ (.int .u8 Z)).setCell ⟨w1.heap.size, 10, none⟩ (.int .i64 ((X : Int) + 1))).cell? ⟨w1.heap.size, 0, none⟩ = some (.bool fm) := HPc.out.cell 0
        have y1 : ((wa.setCell ⟨w1.heap.size, 7, none⟩ (.int .u8 Z)).setCell ⟨w1.heap.size, 10, none⟩ (.int .i64 ((X : Int) + 1))).cell? ⟨w1.heap.size, 1, none⟩ = some (.bool fp1) := HPc.out.cell 1
        have y2 : ((wa.setCell ⟨w1.heap.size, 7, none⟩ (.int .u8 Z)).setCell ⟨w1.heap.size, 10, none⟩ (.int .i64 ((X : Int) + 1))).cell? ⟨w1.heap.size, 2, none⟩ = some (.bool fb) := HPc.out.cell 2
        have y3 : ((wa.setCell ⟨w1.heap.size, 7, none⟩ (.int .u8 Z)).setCell ⟨w1.heap.size, 10, none⟩ (.int .i64 ((X : Int) + 1))).cell? ⟨w1.heap.size, 3, none⟩ = some (.bool fa) := HPc.out.cell 3
        have y4 : ((wa.setCell ⟨w1.heap.size, 7, none⟩ (.int .u8 Z)).setCell ⟨w1.heap.size, 10, none⟩ (.int .i64 ((X : Int) + 1))).cell? ⟨w1.heap.size, 4, none⟩ = some (.bool fz) := HPc.out.cell 4
        have y5 : ((wa.setCell ⟨w1.heap.size, 7, none⟩ (.int .u8 Z)).setCell ⟨w1.heap.size, 10, none⟩ (.int .i64 ((X : Int) + 1))).cell? ⟨w1.heap.size, 5, none⟩ = some (.int .i64 n1) := HPc.out.cell 5
        have y6 : ((wa.setCell ⟨w1.heap.size, 7, none⟩ (.int .u8 Z)).setCell ⟨w1.heap.size, 10, none⟩ (.int .i64 ((X : Int) + 1))).cell? ⟨w1.heap.size, 6, none⟩ = some (.int .i64 n2) := HPc.out.cell 6
        have y7 : ((wa.setCell ⟨w1.heap.size, 7, none⟩ (.int .u8 Z)).setCell ⟨w1.heap.size, 10, none⟩ (.int .i64 ((X : Int) + 1))).cell? ⟨w1.heap.size, 7, none⟩ = some (.int .u8 Z) := HPc.out.cell 7
        have y8 : ((wa.setCell ⟨w1.heap.size, 7, none⟩ (.int .u8 Z)).setCell ⟨w1.heap.size, 10, none⟩ (.int .i64 ((X : Int) + 1))).cell? ⟨w1.heap.size, 8, none⟩ = some (.bool st1) := HPc.out.cell 8
        have y9 : ((wa.setCell ⟨w1.heap.size, 7, none⟩ (.int .u8 Z)).setCell ⟨w1.heap.size, 10, none⟩ (.int .i64 ((X : Int) + 1))).cell? ⟨w1.heap.size, 9, none⟩ = some (.bool st2) := HPc.out.cell 9
        have y10 : ((wa.setCell ⟨w1.heap.size, 7, none⟩ (.int .u8 Z)).setCell ⟨w1.heap.size, 10, none⟩ (.int .i64 ((X : Int) + 1))).cell? ⟨w1.heap.size, 10, none⟩ = some (.int .i64 ((X : Int) + 1)) := HPc.out.cell 10
        have z0 : ((wa.setCell ⟨w1.heap.size, 7, none⟩ (.int .u8 Z)).setCell ⟨w1.heap.size, 10, none⟩ (.int .i64 ((X : Int) + 1))).cell? ⟨w.heap.size, 0, none⟩ = some (.bool false) := HQc.out.cell 0
        have z1 : ((wa.setCell ⟨w1.heap.size, 7, none⟩ (.int .u8 Z)).setCell ⟨w1.heap.size, 10, none⟩ (.int .i64 ((X : Int) + 1))).cell? ⟨w.heap.size, 1, none⟩ = some (.bool false) := HQc.out.cell 1
        have z2 : ((wa.setCell ⟨w1.heap.size, 7, none⟩ (.int .u8 Z)).setCell ⟨w1.heap.size, 10, none⟩ (.int .i64 ((X : Int) + 1))).cell? ⟨w.heap.size, 2, none⟩ = some (.bool false) := HQc.out.cell 2
        have z3 : ((wa.setCell ⟨w1.heap.size, 7, none⟩ (.int .u8 Z)).setCell ⟨w1.heap.size, 10, none⟩ (.int .i64 ((X : Int) + 1))).cell? ⟨w.heap.size, 3, none⟩ = some (.bool false) := HQc.out.cell 3
        have z4 : ((wa.setCell ⟨w1.heap.size, 7, none⟩ (.int .u8 Z)).setCell ⟨w1.heap.size, 10, none⟩ (.int .i64 ((X : Int) + 1))).cell? ⟨w.heap.size, 4, none⟩ = some (.bool false) := HQc.out.cell 4
        have z5 : ((wa.setCell ⟨w1.heap.size, 7, none⟩ (.int .u8 Z)).setCell ⟨w1.heap.size, 10, none⟩ (.int .i64 ((X : Int) + 1))).cell? ⟨w.heap.size, 5, none⟩ = some (.int .i64 0) := HQc.out.cell 5
        have z6 : ((wa.setCell ⟨w1.heap.size, 7, none⟩ (.int .u8 Z)).setCell ⟨w1.heap.size, 10, none⟩ (.int .i64 ((X : Int) + 1))).cell? ⟨w.heap.size, 6, none⟩ = some (.int .i64 0) := HQc.out.cell 6
        have z7 : ((wa.setCell ⟨w1.heap.size, 7, none⟩ (.int .u8 Z)).setCell ⟨w1.heap.size, 10, none⟩ (.int .i64 ((X : Int) + 1))).cell? ⟨w.heap.size, 7, none⟩ = some (.int .u8 0) := HQc.out.cell 7
        have z8 : ((wa.setCell ⟨w1.heap.size, 7, none⟩ (.int .u8 Z)).setCell ⟨w1.heap.size, 10, none⟩ (.int .i64 ((X : Int) + 1))).cell? ⟨w.heap.size, 8, none⟩ = some (.bool false) := HQc.out.cell 8
        have z9 : ((wa.setCell ⟨w1.heap.size, 7, none⟩ (.int .u8 Z)).setCell ⟨w1.heap.size, 10, none⟩ (.int .i64 ((X : Int) + 1))).cell? ⟨w.heap.size, 9, none⟩ = some (.bool false) := HQc.out.cell 9
        have z10 : ((wa.setCell ⟨w1.heap.size, 7, none⟩ (.int .u8 Z)).setCell ⟨w1.heap.size, 10, none⟩ (.int .i64 ((X : Int) + 1))).cell? ⟨w.heap.size, 10, none⟩ = some (.int .i64 0) := HQc.out.cell 10
        have zf : ∀ j, ((wa.setCell ⟨w1.heap.size, 7, none⟩ (.int .u8 Z)).setCell ⟨w1.heap.size, 10, none⟩ (.int .i64 ((X : Int) + 1))).frozen? ⟨w.heap.size, j, none⟩ = false := HQc.out.frozen
        cases ok2
        · go_wp2_with fail
          generalize hW : World.setCell _ _ _ = W
          have hp : PcAt W w.heap.size #[.bool false, .bool false, .bool false, .bool false, .bool false, .int .i64 0, .int .i64 0, .int .u8 0, .bool false, .bool false, .int .i64 0] := by rw [← hW]; exact PcAt.all (show PcAt _ w.heap.size _ from HQc.out) _ _ _ _ _ _ _ _ _ _ _
          have hb : Below w.heap.size w W := by rw [← hW]; exact below_all HBc.out (Nat.le_refl _) _ _ _ _ _ _ _ _ _ _ _
          have hok : okP s k = false := by rw [HOK.out, ]; rfl
          rw [HQA1.out, HQE1.out, hok]
          clear hW z0 z1 z2 z3 z4 z5 z6 z7 z8 z9 z10 y0 y1 y2 y3 y4 y5 y6 y7 y8 y9 y10
          have k0 : W.cell? ⟨w.heap.size, 0, none⟩ = some (.bool false) := hp.cell 0
          have k1 : W.cell? ⟨w.heap.size, 1, none⟩ = some (.bool false) := hp.cell 1
          have k2 : W.cell? ⟨w.heap.size, 2, none⟩ = some (.bool false) := hp.cell 2
          have k3 : W.cell? ⟨w.heap.size, 3, none⟩ = some (.bool false) := hp.cell 3
          have k4 : W.cell? ⟨w.heap.size, 4, none⟩ = some (.bool false) := hp.cell 4
          have k5 : W.cell? ⟨w.heap.size, 5, none⟩ = some (.int .i64 0) := hp.cell 5
          have k6 : W.cell? ⟨w.heap.size, 6, none⟩ = some (.int .i64 0) := hp.cell 6
          have k7 : W.cell? ⟨w.heap.size, 7, none⟩ = some (.int .u8 0) := hp.cell 7
          have k8 : W.cell? ⟨w.heap.size, 8, none⟩ = some (.bool false) := hp.cell 8
          have k9 : W.cell? ⟨w.heap.size, 9, none⟩ = some (.bool false) := hp.cell 9
          have k10 : W.cell? ⟨w.heap.size, 10, none⟩ = some (.int .i64 0) := hp.cell 10
          clear hp
          exact bodyPost_ret (v := .tuple #[.agg #[.bool false, .bool false, .bool false, .bool false, .bool false, .int .i64 0, .int .i64 0, .int .u8 0, .bool false, .bool false, .int .i64 0], .int .i64 50]) (by simp [results, Tryz.results85, go_sem, *]) rfl ⟨rfl, hb⟩
        · rcases Nat.eq_zero_or_pos V with hV0 | hV0
          · obtain rfl : Z = 0 := by have := HZ.out; omega
            clear hV
            go_wp2_with fail
            generalize hW : World.setCell _ _ _ = W
            have hp : PcAt W w.heap.size #[.bool false, .bool false, .bool false, .bool false, .bool false, .int .i64 0, .int .i64 0, .int .u8 0, .bool false, .bool false, .int .i64 0] := by rw [← hW]; exact PcAt.all (show PcAt _ w.heap.size _ from HQc.out) _ _ _ _ _ _ _ _ _ _ _
            have hb : Below w.heap.size w W := by rw [← hW]; exact below_all HBc.out (Nat.le_refl _) _ _ _ _ _ _ _ _ _ _ _
            have hok : okP s k = false := by rw [HOK.out, hV0]; rfl
            rw [HQA1.out, HQE1.out, hok]
            clear hW z0 z1 z2 z3 z4 z5 z6 z7 z8 z9 z10 y0 y1 y2 y3 y4 y5 y6 y7 y8 y9 y10
            have k0 : W.cell? ⟨w.heap.size, 0, none⟩ = some (.bool false) := hp.cell 0
            have k1 : W.cell? ⟨w.heap.size, 1, none⟩ = some (.bool false) := hp.cell 1
            have k2 : W.cell? ⟨w.heap.size, 2, none⟩ = some (.bool false) := hp.cell 2
            have k3 : W.cell? ⟨w.heap.size, 3, none⟩ = some (.bool false) := hp.cell 3
            have k4 : W.cell? ⟨w.heap.size, 4, none⟩ = some (.bool false) := hp.cell 4
            have k5 : W.cell? ⟨w.heap.size, 5, none⟩ = some (.int .i64 0) := hp.cell 5
            have k6 : W.cell? ⟨w.heap.size, 6, none⟩ = some (.int .i64 0) := hp.cell 6
            have k7 : W.cell? ⟨w.heap.size, 7, none⟩ = some (.int .u8 0) := hp.cell 7
            have k8 : W.cell? ⟨w.heap.size, 8, none⟩ = some (.bool false) := hp.cell 8
            have k9 : W.cell? ⟨w.heap.size, 9, none⟩ = some (.bool false) := hp.cell 9
            have k10 : W.cell? ⟨w.heap.size, 10, none⟩ = some (.int .i64 0) := hp.cell 10
            clear hp
            exact bodyPost_ret (v := .tuple #[.agg #[.bool false, .bool false, .bool false, .bool false, .bool false, .int .i64 0, .int .i64 0, .int .u8 0, .bool false, .bool false, .int .i64 0], .int .i64 50]) (by simp [results, Tryz.results85, go_sem, *]) rfl ⟨rfl, hb⟩
          · have hVn : (Z == 0) = false := by have := HZ.out; simp; omega
            have hVb := Lib.hid (show (V != 0) = true from by simp; omega)
            clear hV0 hV
            go_wp2_with fail
            refine (HIX.out V Z _ HZ.out).mono ?_
            rintro e _ ⟨rfl, rfl⟩
            generalize ((wa.setCell ⟨w1.heap.size, 7, none⟩ (.int .u8 Z)).setCell ⟨w1.heap.size, 10, none⟩ (.int .i64 ((X : Int) + 1))) = Wc at *
            generalize ixB verbsB V = J at *
            rcases Int.lt_or_le J 0 with hJ | hJ
            · have hJb := Lib.hid (show decide (0 ≤ J) = false from by simp; omega)
              go_wp2_with fail
              generalize hW : World.setCell _ _ _ = W
              have hp : PcAt W w.heap.size #[.bool false, .bool false, .bool false, .bool false, .bool false, .int .i64 0, .int .i64 0, .int .u8 0, .bool false, .bool false, .int .i64 0] := by rw [← hW]; exact PcAt.all (show PcAt _ w.heap.size _ from HQc.out) _ _ _ _ _ _ _ _ _ _ _
              have hb : Below w.heap.size w W := by rw [← hW]; exact below_all HBc.out (Nat.le_refl _) _ _ _ _ _ _ _ _ _ _ _
              have hok : okP s k = false := by rw [HOK.out, hVb.out, hJb.out]; rfl
              rw [HQA1.out, HQE1.out, hok]
              clear hW z0 z1 z2 z3 z4 z5 z6 z7 z8 z9 z10 y0 y1 y2 y3 y4 y5 y6 y7 y8 y9 y10
              have k0 : W.cell? ⟨w.heap.size, 0, none⟩ = some (.bool false) := hp.cell 0
              have k1 : W.cell? ⟨w.heap.size, 1, none⟩ = some (.bool false) := hp.cell 1
              have k2 : W.cell? ⟨w.heap.size, 2, none⟩ = some (.bool false) := hp.cell 2
              have k3 : W.cell? ⟨w.heap.size, 3, none⟩ = some (.bool false) := hp.cell 3
              have k4 : W.cell? ⟨w.heap.size, 4, none⟩ = some (.bool false) := hp.cell 4
              have k5 : W.cell? ⟨w.heap.size, 5, none⟩ = some (.int .i64 0) := hp.cell 5
              have k6 : W.cell? ⟨w.heap.size, 6, none⟩ = some (.int .i64 0) := hp.cell 6
              have k7 : W.cell? ⟨w.heap.size, 7, none⟩ = some (.int .u8 0) := hp.cell 7
              have k8 : W.cell? ⟨w.heap.size, 8, none⟩ = some (.bool false) := hp.cell 8
              have k9 : W.cell? ⟨w.heap.size, 9, none⟩ = some (.bool false) := hp.cell 9
              have k10 : W.cell? ⟨w.heap.size, 10, none⟩ = some (.int .i64 0) := hp.cell 10
              clear hp
              exact bodyPost_ret (v := .tuple #[.agg #[.bool false, .bool false, .bool false, .bool false, .bool false, .int .i64 0, .int .i64 0, .int .u8 0, .bool false, .bool false, .int .i64 0], .int .i64 50]) (by simp [results, Tryz.results85, go_sem, *]) rfl ⟨rfl, hb⟩
            · have hJb := Lib.hid (show decide (0 ≤ J) = true from by simp; omega)
              have hJn : decide (J < 0) = false := by simp; omega
              clear hJ
              go_wp2_with fail
              generalize hW : World.setCell _ _ _ = W
              have hp : PcAt W w.heap.size #[.bool fm, .bool fp1, .bool fb, .bool fa, .bool fz, .int .i64 n1, .int .i64 n2, .int .u8 Z, .bool st1, .bool st2, .int .i64 ((X : Int) + 1)] := by rw [← hW]; exact PcAt.all (show PcAt _ w.heap.size _ from HQc.out) _ _ _ _ _ _ _ _ _ _ _
              have hb : Below w.heap.size w W := by rw [← hW]; exact below_all HBc.out (Nat.le_refl _) _ _ _ _ _ _ _ _ _ _ _
              have hok : okP s k = true := by rw [HOK.out, hVb.out, hJb.out]; rfl
              rw [HQA1.out, HQE1.out, hok]
              clear hW z0 z1 z2 z3 z4 z5 z6 z7 z8 z9 z10 y0 y1 y2 y3 y4 y5 y6 y7 y8 y9 y10
              have k0 : W.cell? ⟨w.heap.size, 0, none⟩ = some (.bool fm) := hp.cell 0
              have k1 : W.cell? ⟨w.heap.size, 1, none⟩ = some (.bool fp1) := hp.cell 1
              have k2 : W.cell? ⟨w.heap.size, 2, none⟩ = some (.bool fb) := hp.cell 2
              have k3 : W.cell? ⟨w.heap.size, 3, none⟩ = some (.bool fa) := hp.cell 3
              have k4 : W.cell? ⟨w.heap.size, 4, none⟩ = some (.bool fz) := hp.cell 4
              have k5 : W.cell? ⟨w.heap.size, 5, none⟩ = some (.int .i64 n1) := hp.cell 5
              have k6 : W.cell? ⟨w.heap.size, 6, none⟩ = some (.int .i64 n2) := hp.cell 6
              have k7 : W.cell? ⟨w.heap.size, 7, none⟩ = some (.int .u8 Z) := hp.cell 7
              have k8 : W.cell? ⟨w.heap.size, 8, none⟩ = some (.bool st1) := hp.cell 8
              have k9 : W.cell? ⟨w.heap.size, 9, none⟩ = some (.bool st2) := hp.cell 9
              have k10 : W.cell? ⟨w.heap.size, 10, none⟩ = some (.int .i64 ((X : Int) + 1)) := hp.cell 10
              clear hp
              exact bodyPost_ret (v := .tuple #[.agg #[.bool fm, .bool fp1, .bool fb, .bool fa, .bool fz, .int .i64 n1, .int .i64 n2, .int .u8 Z, .bool st1, .bool st2, .int .i64 ((X : Int) + 1)], .int .i64 0]) (by simp [results, Tryz.results85, go_sem, *]) rfl ⟨rfl, hb⟩
    · have hCn : ((C : Int) == 46) = false := by simp; omega
      have hCb : (C == 46) = false := by simp; omega
      have HF1 : Hid (fp s k = (-1, false, ok1, 0)) := by show _ = _; rw [HFP.out, HDP.out, hCb]; rfl
      have HV1 : Hid (pv s k = D) := by show _ = _; rw [HPV.out, HDP.out, hCb]; rfl
      clear HFP HPV HDP HDL hC hCb
      go_wp2_with fail
      rw [← HV1.out] at HR5
      have HRt := HR5
      have HPt := HP5
      have HQt := HQ5
      have HBt := HB5
      have HNt := Lib.hid (next_any s (pv s k : Nat) (w.heap.size + 1) w5 HRt.out)
      rw [chr_nat] at HNt
      refine HNt.out.mono ?_
      rintro e wa ⟨rfl, hb⟩
      have hza := hb.size
      try simp only [World.size_setCell] at hza
      have HRa := Lib.hid (HRt.out.below hb)
      have HPa := Lib.hid (HPt.out.below hb)
      have HQa := Lib.hid (HQt.out.below hb)
      have HBa := Lib.hid (HBt.out.trans (hb.mono (by first | omega | (simp only [World.size_setCell]; omega))))
      have hV := ch_lt s (pv s k)
      have hX : pv s k ≤ 700000000000000 := by rw [HV1.out]; exact hDle
      generalize ch s (pv s k) = V at *
      generalize pv s k = X at *
      rw [show ((X + 1 : Nat) : Int) = (X : Int) + 1 from by omega] at HQA1
      generalize hZ : ((V : Nat) : Int) = Z at *
      have HZ := Lib.hid hZ
      clear hZ
      clear hb HNt HRt HPt HQt HBt
      have k7 : wa.cell? ⟨w1.heap.size, 7, none⟩ = some (.int .u8 0) := HPa.out.cell 7
      have kfa : ∀ j, wa.frozen? ⟨w1.heap.size, j, none⟩ = false := HPa.out.frozen
      have q1 : (wa.setCell ⟨w1.heap.size, 7, none⟩ (.int .u8 Z)).cell? ⟨w.heap.size + 1, 1, none⟩ = some (.int .i64 (X : Nat)) := (HRa.out.other 7 _ (by omega)).c1
      have q2 : (wa.setCell ⟨w1.heap.size, 7, none⟩ (.int .u8 Z)).cell? ⟨w1.heap.size, 10, none⟩ = some (.int .i64 0) := (HPa.out.set 7 _).cell 10
      have HPc := Lib.hid (show PcAt ((wa.setCell ⟨w1.heap.size, 7, none⟩ (.int .u8 Z)).setCell ⟨w1.heap.size, 10, none⟩ (.int .i64 ((X : Int) + 1))) w1.heap.size (pieceA fm fp1 fb fa fz n1 (-1) Z st1 false ((X : Int) + 1)) from (HPa.out.set 7 _).set 10 _)
      have HQc := Lib.hid (show PcAt ((wa.setCell ⟨w1.heap.size, 7, none⟩ (.int .u8 Z)).setCell ⟨w1.heap.size, 10, none⟩ (.int .i64 ((X : Int) + 1))) w.heap.size zeroA from (HQa.out.other 7 _ (by omega)).other 10 _ (by omega))
      have HBc := Lib.hid (show Below w.heap.size w ((wa.setCell ⟨w1.heap.size, 7, none⟩ (.int .u8 Z)).setCell ⟨w1.heap.size, 10, none⟩ (.int .i64 ((X : Int) + 1))) from (HBa.out.setCell (p := ⟨w1.heap.size, 7, none⟩) (by simp; omega) _).setCell (p := ⟨w1.heap.size, 10, none⟩) (by simp; omega) _)
      have y0 : ((wa.setCell ⟨w1.heap.size, 7, none⟩ (.int .u8 Z)).setCell ⟨w1.heap.size, 10, none⟩ (.int .i64 ((X : Int) + 1))).cell? ⟨w1.heap.size, 0, none⟩ = some (.bool fm) := HPc.out.cell 0
      have y1 : ((wa.setCell ⟨w1.heap.size, 7, none⟩ (.int .u8 Z)).setCell ⟨w1.heap.size, 10, none⟩ (.int .i64 ((X : Int) + 1))).cell? ⟨w1.heap.size, 1, none⟩ = some (.bool fp1) := HPc.out.cell 1
      have y2 : ((wa.setCell ⟨w1.heap.size, 7, none⟩ (.int .u8 Z)).setCell ⟨w1.heap.size, 10, none⟩ (.int .i64 ((X : Int) + 1))).cell? ⟨w1.heap.size, 2, none⟩ = some (.bool fb) := HPc.out.cell 2
      have y3 : ((wa.setCell ⟨w1.heap.size, 7, none⟩ (.int .u8 Z)).setCell ⟨w1.heap.size, 10, none⟩ (.int .i64 ((X : Int) + 1))).cell? ⟨w1.heap.size, 3, none⟩ = some (.bool fa) := HPc.out.cell 3
      have y4 : ((wa.setCell ⟨w1.heap.size, 7, none⟩ (.int .u8 Z)).setCell ⟨w1.heap.size, 10, none⟩ (.int .i64 ((X : Int) + 1))).cell? ⟨w1.heap.size, 4, none⟩ = some (.bool fz) := HPc.out.cell 4
      have y5 : ((wa.setCell ⟨w1.heap.size, 7, none⟩ (.int .u8 Z)).setCell ⟨w1.heap.size, 10, none⟩ (.int .i64 ((X : Int) + 1))).cell? ⟨w1.heap.size, 5, none⟩ = some (.int .i64 n1) := HPc.out.cell 5
      have y6 : ((wa.setCell ⟨w1.heap.size, 7, none⟩ (.int .u8 Z)).setCell ⟨w1.heap.size, 10, none⟩ (.int .i64 ((X : Int) + 1))).cell? ⟨w1.heap.size, 6, none⟩ = some (.int .i64 (-1)) := HPc.out.cell 6
      have y7 : ((wa.setCell ⟨w1.heap.size, 7, none⟩ (.int .u8 Z)).setCell ⟨w1.heap.size, 10, none⟩ (.int .i64 ((X : Int) + 1))).cell? ⟨w1.heap.size, 7, none⟩ = some (.int .u8 Z) := HPc.out.cell 7
      have y8 : ((wa.setCell ⟨w1.heap.size, 7, none⟩ (.int .u8 Z)).setCell ⟨w1.heap.size, 10, none⟩ (.int .i64 ((X : Int) + 1))).cell? ⟨w1.heap.size, 8, none⟩ = some (.bool st1) := HPc.out.cell 8
      have y9 : ((wa.setCell ⟨w1.heap.size, 7, none⟩ (.int .u8 Z)).setCell ⟨w1.heap.size, 10, none⟩ (.int .i64 ((X : Int) + 1))).cell? ⟨w1.heap.size, 9, none⟩ = some (.bool false) := HPc.out.cell 9
      have y10 : ((wa.setCell ⟨w1.heap.size, 7, none⟩ (.int .u8 Z)).setCell ⟨w1.heap.size, 10, none⟩ (.int .i64 ((X : Int) + 1))).cell? ⟨w1.heap.size, 10, none⟩ = some (.int .i64 ((X : Int) + 1)) := HPc.out.cell 10
      have z0 : ((wa.setCell ⟨w1.heap.size, 7, none⟩ (.int .u8 Z)).setCell ⟨w1.heap.size, 10, none⟩ (.int .i64 ((X : Int) + 1))).cell? ⟨w.heap.size, 0, none⟩ = some (.bool false) := HQc.out.cell 0
      have z1 : ((wa.setCell ⟨w1.heap.size, 7, none⟩ (.int .u8 Z)).setCell ⟨w1.heap.size, 10, none⟩ (.int .i64 ((X : Int) + 1))).cell? ⟨w.heap.size, 1, none⟩ = some (.bool false) := HQc.out.cell 1
      have z2 : ((wa.setCell ⟨w1.heap.size, 7, none⟩ (.int .u8 Z)).setCell ⟨w1.heap.size, 10, none⟩ (.int .i64 ((X : Int) + 1))).cell? ⟨w.heap.size, 2, none⟩ = some (.bool false) := HQc.out.cell 2
      have z3 : ((wa.setCell ⟨w1.heap.size, 7, none⟩ (.int .u8 Z)).setCell ⟨w1.heap.size, 10, none⟩ (.int .i64 ((X : Int) + 1))).cell? ⟨w.heap.size, 3, none⟩ = some (.bool false) := HQc.out.cell 3
      have z4 : ((wa.setCell ⟨w1.heap.size, 7, none⟩ (.int .u8 Z)).setCell ⟨w1.heap.size, 10, none⟩ (.int .i64 ((X : Int) + 1))).cell? ⟨w.heap.size, 4, none⟩ = some (.bool false) := HQc.out.cell 4
      have z5 : ((wa.setCell ⟨w1.heap.size, 7, none⟩ (.int .u8 Z)).setCell ⟨w1.heap.size, 10, none⟩ (.int .i64 ((X : Int) + 1))).cell? ⟨w.heap.size, 5, none⟩ = some (.int .i64 0) := HQc.out.cell 5
      have z6 : ((wa.setCell ⟨w1.heap.size, 7, none⟩ (.int .u8 Z)).setCell ⟨w1.heap.size, 10, none⟩ (.int .i64 ((X : Int) + 1))).cell? ⟨w.heap.size, 6, none⟩ = some (.int .i64 0) := HQc.out.cell 6
      have z7 : ((wa.setCell ⟨w1.heap.size, 7, none⟩ (.int .u8 Z)).setCell ⟨w1.heap.size, 10, none⟩ (.int .i64 ((X : Int) + 1))).cell? ⟨w.heap.size, 7, none⟩ = some (.int .u8 0) := HQc.out.cell 7
      have z8 : ((wa.setCell ⟨w1.heap.size, 7, none⟩ (.int .u8 Z)).setCell ⟨w1.heap.size, 10, none⟩ (.int .i64 ((X : Int) + 1))).cell? ⟨w.heap.size, 8, none⟩ = some (.bool false) := HQc.out.cell 8
      have z9 : ((wa.setCell ⟨w1.heap.size, 7, none⟩ (.int .u8 Z)).setCell ⟨w1.heap.size, 10, none⟩ (.int .i64 ((X : Int) + 1))).cell? ⟨w.heap.size, 9, none⟩ = some (.bool false) := HQc.out.cell 9
      have z10 : ((wa.setCell ⟨w1.heap.size, 7, none⟩ (.int .u8 Z)).setCell ⟨w1.heap.size, 10, none⟩ (.int .i64 ((X : Int) + 1))).cell? ⟨w.heap.size, 10, none⟩ = some (.int .i64 0) := HQc.out.cell 10
      have zf : ∀ j, ((wa.setCell ⟨w1.heap.size, 7, none⟩ (.int .u8 Z)).setCell ⟨w1.heap.size, 10, none⟩ (.int .i64 ((X : Int) + 1))).frozen? ⟨w.heap.size, j, none⟩ = false := HQc.out.frozen
      cases ok1
      · go_wp2_with fail
        generalize hW : World.setCell _ _ _ = W
        have hp : PcAt W w.heap.size #[.bool false, .bool false, .bool false, .bool false, .bool false, .int .i64 0, .int .i64 0, .int .u8 0, .bool false, .bool false, .int .i64 0] := by rw [← hW]; exact PcAt.all (show PcAt _ w.heap.size _ from HQc.out) _ _ _ _ _ _ _ _ _ _ _
        have hb : Below w.heap.size w W := by rw [← hW]; exact below_all HBc.out (Nat.le_refl _) _ _ _ _ _ _ _ _ _ _ _
        have hok : okP s k = false := by rw [HOK.out, HF1.out]; rfl
        (rw [HQA1.out, HQE1.out, hok]; try rw [HF1.out])
        clear hW z0 z1 z2 z3 z4 z5 z6 z7 z8 z9 z10 y0 y1 y2 y3 y4 y5 y6 y7 y8 y9 y10
        have k0 : W.cell? ⟨w.heap.size, 0, none⟩ = some (.bool false) := hp.cell 0
        have k1 : W.cell? ⟨w.heap.size, 1, none⟩ = some (.bool false) := hp.cell 1
        have k2 : W.cell? ⟨w.heap.size, 2, none⟩ = some (.bool false) := hp.cell 2
        have k3 : W.cell? ⟨w.heap.size, 3, none⟩ = some (.bool false) := hp.cell 3
        have k4 : W.cell? ⟨w.heap.size, 4, none⟩ = some (.bool false) := hp.cell 4
        have k5 : W.cell? ⟨w.heap.size, 5, none⟩ = some (.int .i64 0) := hp.cell 5
        have k6 : W.cell? ⟨w.heap.size, 6, none⟩ = some (.int .i64 0) := hp.cell 6
        have k7 : W.cell? ⟨w.heap.size, 7, none⟩ = some (.int .u8 0) := hp.cell 7
        have k8 : W.cell? ⟨w.heap.size, 8, none⟩ = some (.bool false) := hp.cell 8
        have k9 : W.cell? ⟨w.heap.size, 9, none⟩ = some (.bool false) := hp.cell 9
        have k10 : W.cell? ⟨w.heap.size, 10, none⟩ = some (.int .i64 0) := hp.cell 10
        clear hp
        exact bodyPost_ret (v := .tuple #[.agg #[.bool false, .bool false, .bool false, .bool false, .bool false, .int .i64 0, .int .i64 0, .int .u8 0, .bool false, .bool false, .int .i64 0], .int .i64 50]) (by simp [results, Tryz.results85, go_sem, *]) rfl ⟨rfl, hb⟩
      · rcases Nat.eq_zero_or_pos V with hV0 | hV0
        · obtain rfl : Z = 0 := by have := HZ.out; omega
          clear hV
          go_wp2_with fail
          generalize hW : World.setCell _ _ _ = W
          have hp : PcAt W w.heap.size #[.bool false, .bool false, .bool false, .bool false, .bool false, .int .i64 0, .int .i64 0, .int .u8 0, .bool false, .bool false, .int .i64 0] := by rw [← hW]; exact PcAt.all (show PcAt _ w.heap.size _ from HQc.out) _ _ _ _ _ _ _ _ _ _ _
          have hb : Below w.heap.size w W := by rw [← hW]; exact below_all HBc.out (Nat.le_refl _) _ _ _ _ _ _ _ _ _ _ _
          have hok : okP s k = false := by rw [HOK.out, HF1.out, hV0]; rfl
          (rw [HQA1.out, HQE1.out, hok]; try rw [HF1.out])
          clear hW z0 z1 z2 z3 z4 z5 z6 z7 z8 z9 z10 y0 y1 y2 y3 y4 y5 y6 y7 y8 y9 y10
          have k0 : W.cell? ⟨w.heap.size, 0, none⟩ = some (.bool false) := hp.cell 0
          have k1 : W.cell? ⟨w.heap.size, 1, none⟩ = some (.bool false) := hp.cell 1
          have k2 : W.cell? ⟨w.heap.size, 2, none⟩ = some (.bool false) := hp.cell 2
          have k3 : W.cell? ⟨w.heap.size, 3, none⟩ = some (.bool false) := hp.cell 3
          have k4 : W.cell? ⟨w.heap.size, 4, none⟩ = some (.bool false) := hp.cell 4
          have k5 : W.cell? ⟨w.heap.size, 5, none⟩ = some (.int .i64 0) := hp.cell 5
          have k6 : W.cell? ⟨w.heap.size, 6, none⟩ = some (.int .i64 0) := hp.cell 6
          have k7 : W.cell? ⟨w.heap.size, 7, none⟩ = some (.int .u8 0) := hp.cell 7
          have k8 : W.cell? ⟨w.heap.size, 8, none⟩ = some (.bool false) := hp.cell 8
          have k9 : W.cell? ⟨w.heap.size, 9, none⟩ = some (.bool false) := hp.cell 9
          have k10 : W.cell? ⟨w.heap.size, 10, none⟩ = some (.int .i64 0) := hp.cell 10
          clear hp
          exact bodyPost_ret (v := .tuple #[.agg #[.bool false, .bool false, .bool false, .bool false, .bool false, .int .i64 0, .int .i64 0, .int .u8 0, .bool false, .bool false, .int .i64 0], .int .i64 50]) (by simp [results, Tryz.results85, go_sem, *]) rfl ⟨rfl, hb⟩
        · have hVn : (Z == 0) = false := by have := HZ.out; simp; omega
          have hVb := Lib.hid (show (V != 0) = true from by simp; omega)
          clear hV0 hV
          go_wp2_with fail
          refine (HIX.out V Z _ HZ.out).mono ?_
          rintro e _ ⟨rfl, rfl⟩
          generalize ((wa.setCell ⟨w1.heap.size, 7, none⟩ (.int .u8 Z)).setCell ⟨w1.heap.size, 10, none⟩ (.int .i64 ((X : Int) + 1))) = Wc at *
          generalize ixB verbsB V = J at *
          rcases Int.lt_or_le J 0 with hJ | hJ
          · have hJb := Lib.hid (show decide (0 ≤ J) = false from by simp; omega)
            go_wp2_with fail
            generalize hW : World.setCell _ _ _ = W
            have hp : PcAt W w.heap.size #[.bool false, .bool false, .bool false, .bool false, .bool false, .int .i64 0, .int .i64 0, .int .u8 0, .bool false, .bool false, .int .i64 0] := by rw [← hW]; exact PcAt.all (show PcAt _ w.heap.size _ from HQc.out) _ _ _ _ _ _ _ _ _ _ _
            have hb : Below w.heap.size w W := by rw [← hW]; exact below_all HBc.out (Nat.le_refl _) _ _ _ _ _ _ _ _ _ _ _
            have hok : okP s k = false := by rw [HOK.out, HF1.out, hVb.out, hJb.out]; rfl
            (rw [HQA1.out, HQE1.out, hok]; try rw [HF1.out])
            clear hW z0 z1 z2 z3 z4 z5 z6 z7 z8 z9 z10 y0 y1 y2 y3 y4 y5 y6 y7 y8 y9 y10
            have k0 : W.cell? ⟨w.heap.size, 0, none⟩ = some (.bool false) := hp.cell 0
            have k1 : W.cell? ⟨w.heap.size, 1, none⟩ = some (.bool false) := hp.cell 1
            have k2 : W.cell? ⟨w.heap.size, 2, none⟩ = some (.bool false) := hp.cell 2
            have k3 : W.cell? ⟨w.heap.size, 3, none⟩ = some (.bool false) := hp.cell 3
            have k4 : W.cell? ⟨w.heap.size, 4, none⟩ = some (.bool false) := hp.cell 4
            have k5 : W.cell? ⟨w.heap.size, 5, none⟩ = some (.int .i64 0) := hp.cell 5
            have k6 : W.cell? ⟨w.heap.size, 6, none⟩ = some (.int .i64 0) := hp.cell 6
            have k7 : W.cell? ⟨w.heap.size, 7, none⟩ = some (.int .u8 0) := hp.cell 7
            have k8 : W.cell? ⟨w.heap.size, 8, none⟩ = some (.bool false) := hp.cell 8
            have k9 : W.cell? ⟨w.heap.size, 9, none⟩ = some (.bool false) := hp.cell 9
            have k10 : W.cell? ⟨w.heap.size, 10, none⟩ = some (.int .i64 0) := hp.cell 10
            clear hp
            exact bodyPost_ret (v := .tuple #[.agg #[.bool false, .bool false, .bool false, .bool false, .bool false, .int .i64 0, .int .i64 0, .int .u8 0, .bool false, .bool false, .int .i64 0], .int .i64 50]) (by simp [results, Tryz.results85, go_sem, *]) rfl ⟨rfl, hb⟩
          · have hJb := Lib.hid (show decide (0 ≤ J) = true from by simp; omega)
            have hJn : decide (J < 0) = false := by simp; omega
            clear hJ
            go_wp2_with fail
            generalize hW : World.setCell _ _ _ = W
            have hp : PcAt W w.heap.size #[.bool fm, .bool fp1, .bool fb, .bool fa, .bool fz, .int .i64 n1, .int .i64 (-1), .int .u8 Z, .bool st1, .bool false, .int .i64 ((X : Int) + 1)] := by rw [← hW]; exact PcAt.all (show PcAt _ w.heap.size _ from HQc.out) _ _ _ _ _ _ _ _ _ _ _
            have hb : Below w.heap.size w W := by rw [← hW]; exact below_all HBc.out (Nat.le_refl _) _ _ _ _ _ _ _ _ _ _ _
            have hok : okP s k = true := by rw [HOK.out, HF1.out, hVb.out, hJb.out]; rfl
            (rw [HQA1.out, HQE1.out, hok]; try rw [HF1.out])
            clear hW z0 z1 z2 z3 z4 z5 z6 z7 z8 z9 z10 y0 y1 y2 y3 y4 y5 y6 y7 y8 y9 y10
            have k0 : W.cell? ⟨w.heap.size, 0, none⟩ = some (.bool fm) := hp.cell 0
            have k1 : W.cell? ⟨w.heap.size, 1, none⟩ = some (.bool fp1) := hp.cell 1
            have k2 : W.cell? ⟨w.heap.size, 2, none⟩ = some (.bool fb) := hp.cell 2
            have k3 : W.cell? ⟨w.heap.size, 3, none⟩ = some (.bool fa) := hp.cell 3
            have k4 : W.cell? ⟨w.heap.size, 4, none⟩ = some (.bool fz) := hp.cell 4
            have k5 : W.cell? ⟨w.heap.size, 5, none⟩ = some (.int .i64 n1) := hp.cell 5
            have k6 : W.cell? ⟨w.heap.size, 6, none⟩ = some (.int .i64 (-1)) := hp.cell 6
            have k7 : W.cell? ⟨w.heap.size, 7, none⟩ = some (.int .u8 Z) := hp.cell 7
            have k8 : W.cell? ⟨w.heap.size, 8, none⟩ = some (.bool st1) := hp.cell 8
            have k9 : W.cell? ⟨w.heap.size, 9, none⟩ = some (.bool false) := hp.cell 9
            have k10 : W.cell? ⟨w.heap.size, 10, none⟩ = some (.int .i64 ((X : Int) + 1)) := hp.cell 10
            clear hp
            exact bodyPost_ret (v := .tuple #[.agg #[.bool fm, .bool fp1, .bool fb, .bool fa, .bool fz, .int .i64 n1, .int .i64 (-1), .int .u8 Z, .bool st1, .bool false, .int .i64 ((X : Int) + 1)], .int .i64 0]) (by simp [results, Tryz.results85, go_sem, *]) rfl ⟨rfl, hb⟩
  · rw [if_neg (fun h => h37 h.1)] at HQA HQE
    have hb37 : ((chr s i : Int) == 37) = false := by simp; omega
    generalize chr s i = c at *
    clear h37
    go_enter Tryz.func85, Tryz.ntmps85
    go_wp2_with fail
    have hr0 : RdAt ((w.alloc (.cells #[.bool false, .bool false, .bool false, .bool false, .bool false, .int .i64 0, .int .i64 0, .int .u8 0, .bool false, .bool false, .int .i64 0] 114)).alloc (.cells #[.string s, .int .i64 i] 157)) (w.heap.size + 1) s i := by
      have h := heap_alloc_at (w.alloc (.cells #[.bool false, .bool false, .bool false, .bool false, .bool false, .int .i64 0, .int .i64 0, .int .u8 0, .bool false, .bool false, .int .i64 0] 114)) (.cells #[.string s, .int .i64 i] 157)
      rw [World.size_alloc] at h
      exact h
    have hp0 : PcAt ((w.alloc (.cells #[.bool false, .bool false, .bool false, .bool false, .bool false, .int .i64 0, .int .i64 0, .int .u8 0, .bool false, .bool false, .int .i64 0] 114)).alloc (.cells #[.string s, .int .i64 i] 157)) w.heap.size zeroA :=
      (heap_alloc_lt _ _ _ (by simp)).trans (heap_alloc_at w _)
    have hB0 : Below w.heap.size w ((w.alloc (.cells #[.bool false, .bool false, .bool false, .bool false, .bool false, .int .i64 0, .int .i64 0, .int .u8 0, .bool false, .bool false, .int .i64 0] 114)).alloc (.cells #[.string s, .int .i64 i] 157)) := ((Below.refl _ _).alloc (Nat.le_refl _) _).alloc (by simp) _
    refine (HX.out (w.heap.size + 1) _ hr0).mono ?_
    rintro e w1 ⟨rfl, hb⟩
    have HP1 := Lib.hid (hp0.below hb)
    have HB1 := Lib.hid (hB0.trans (hb.mono hB0.size))
    have k0 : w1.cell? ⟨w.heap.size, 0, none⟩ = some (.bool false) := HP1.out.cell 0
    have k1 : w1.cell? ⟨w.heap.size, 1, none⟩ = some (.bool false) := HP1.out.cell 1
    have k2 : w1.cell? ⟨w.heap.size, 2, none⟩ = some (.bool false) := HP1.out.cell 2
    have k3 : w1.cell? ⟨w.heap.size, 3, none⟩ = some (.bool false) := HP1.out.cell 3
    have k4 : w1.cell? ⟨w.heap.size, 4, none⟩ = some (.bool false) := HP1.out.cell 4
    have k5 : w1.cell? ⟨w.heap.size, 5, none⟩ = some (.int .i64 0) := HP1.out.cell 5
    have k6 : w1.cell? ⟨w.heap.size, 6, none⟩ = some (.int .i64 0) := HP1.out.cell 6
    have k7 : w1.cell? ⟨w.heap.size, 7, none⟩ = some (.int .u8 0) := HP1.out.cell 7
    have k8 : w1.cell? ⟨w.heap.size, 8, none⟩ = some (.bool false) := HP1.out.cell 8
    have k9 : w1.cell? ⟨w.heap.size, 9, none⟩ = some (.bool false) := HP1.out.cell 9
    have k10 : w1.cell? ⟨w.heap.size, 10, none⟩ = some (.int .i64 0) := HP1.out.cell 10
    have kf : ∀ j, w1.frozen? ⟨w.heap.size, j, none⟩ = false := fun j => HP1.out.frozen j
    clear hr0 hp0 hB0 hb
    go_wp2_with fail
    generalize hW : World.setCell _ _ _ = W
    have hp : PcAt W w.heap.size zeroA := by rw [← hW]; exact PcAt.all (show PcAt w1 w.heap.size _ from HP1.out) _ _ _ _ _ _ _ _ _ _ _
    have hb : Below w.heap.size w W := by rw [← hW]; exact below_all HB1.out (Nat.le_refl _) _ _ _ _ _ _ _ _ _ _ _
    clear hW k0 k1 k2 k3 k4 k5 k6 k7 k8 k9 k10 kf
    have k0 : W.cell? ⟨w.heap.size, 0, none⟩ = some (.bool false) := hp.cell 0
    have k1 : W.cell? ⟨w.heap.size, 1, none⟩ = some (.bool false) := hp.cell 1
    have k2 : W.cell? ⟨w.heap.size, 2, none⟩ = some (.bool false) := hp.cell 2
    have k3 : W.cell? ⟨w.heap.size, 3, none⟩ = some (.bool false) := hp.cell 3
    have k4 : W.cell? ⟨w.heap.size, 4, none⟩ = some (.bool false) := hp.cell 4
    have k5 : W.cell? ⟨w.heap.size, 5, none⟩ = some (.int .i64 0) := hp.cell 5
    have k6 : W.cell? ⟨w.heap.size, 6, none⟩ = some (.int .i64 0) := hp.cell 6
    have k7 : W.cell? ⟨w.heap.size, 7, none⟩ = some (.int .u8 0) := hp.cell 7
    have k8 : W.cell? ⟨w.heap.size, 8, none⟩ = some (.bool false) := hp.cell 8
    have k9 : W.cell? ⟨w.heap.size, 9, none⟩ = some (.bool false) := hp.cell 9
    have k10 : W.cell? ⟨w.heap.size, 10, none⟩ = some (.int .i64 0) := hp.cell 10
    clear hp
    rw [HQA.out, HQE.out]
    exact bodyPost_ret (v := .tuple #[.agg #[.bool false, .bool false, .bool false, .bool false, .bool false, .int .i64 0, .int .i64 0, .int .u8 0, .bool false, .bool false, .int .i64 0], .int .i64 50]) (by simp [results, Tryz.results85, go_sem, *]) rfl ⟨rfl, hb⟩
end Go.Proofs.YtcmpdamfeoaapaaGreatDoor
