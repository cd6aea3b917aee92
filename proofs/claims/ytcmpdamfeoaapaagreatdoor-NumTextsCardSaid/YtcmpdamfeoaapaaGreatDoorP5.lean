/- Package format: Check, sign, padded. -/
import Derived.Test.YtcmpdamfeoaapaaGreatDoorP4
import Derived.Test.YtcmpdamfeoaapaaGreatDoorM5
import Derived.Test.YtcmpdamfeoaapaaGreatDoorB1
namespace Go.Proofs.YtcmpdamfeoaapaaGreatDoor
open Go.RowKit
set_option linter.unusedVariables false

/-- a spec as a value -/
def specA (m p b a z : Bool) (wd pr : Int) (vb : Nat) : Array Value := #[.bool m, .bool p, .bool b, .bool a, .bool z, .int .i64 wd, .int .i64 pr, .int .u8 (vb : Int)]
/-- may the spec be -/
def okS (wd pr : Int) (vb : Nat) : Bool := (vb != 0) && decide (0 ≤ ixB verbsB vb) && decide (0 ≤ wd) && decide (wd ≤ 1024) && decide (-1 ≤ pr) && decide (pr ≤ 190)

set_option maxHeartbeats 4000000 in
set_option maxRecDepth 100000 in
theorem Check_ok (m p b a z : Bool) (wd pr : Int) (vb : Nat) (w : World) (h : okS wd pr vb = true) :
    Calls Tryz.prog 57 #[.agg (specA m p b a z wd pr vb)] w fun e w' => e = .returned (.int .i64 0) ∧ Below w.heap.size w w' := by
  unfold okS at h
  simp only [Bool.and_eq_true, decide_eq_true_eq, bne_iff_ne] at h
  obtain ⟨⟨⟨⟨⟨h1, h2⟩, h3⟩, h4⟩, h5⟩, h6⟩ := h
  have HI : Hid (∀ W, Calls Tryz.prog 58 #[.string ⟨#[100, 105, 111, 120, 88, 117, 101, 69, 102, 70, 103, 71, 99, 115, 37]⟩, .int .u8 (vb : Int)] W fun e w' => e = .returned (.int .i64 (ixB verbsB vb)) ∧ w' = W) :=
      fun W => Tryz.strings_IndexByte verbsB (vb : Int) W
  generalize ixB verbsB vb = J at *
  have hv : ((vb : Int) == 0) = false := by simp; omega
  have j2 : decide (J < 0) = false := by simp; omega
  have j3 : decide (wd < 0) = false := by simp; omega
  have j4 : decide (1024 < wd) = false := by simp; omega
  have j5 : decide (pr < -1) = false := by simp; omega
  have j6 : decide (190 < pr) = false := by simp; omega
  unfold specA
  clear h1 h2 h3 h4 h5 h6
  go_enter Tryz.func57, Tryz.ntmps57
  go_wp2_with fail
  refine (HI.out _).mono ?_
  rintro e _ ⟨rfl, rfl⟩
  go_wp2_with fail
  go_ret
  exact ⟨rfl, (Below.refl _ _).alloc (Nat.le_refl _) _⟩

/-- the sign ahead -/
def signL (p b minus : Bool) : List UInt8 := if minus then [45] else if p then [43] else if b then [32] else []
set_option maxRecDepth 100000 in
theorem sign_any (m p b a z minus : Bool) (wd pr : Int) (vb : Nat) (w : World) :
    Calls Tryz.prog 110 #[.agg (specA m p b a z wd pr vb), .bool minus] w fun e w' => e = .returned (.string ⟨(signL p b minus).toArray⟩) ∧ Below w.heap.size w w' := by
  unfold specA
  cases minus
  · cases p
    · cases b
      · go_enter Tryz.func110, Tryz.ntmps110
        go_wp2_with fail
        go_ret
        exact ⟨rfl, (Below.refl _ _).alloc (Nat.le_refl _) _⟩
      · go_enter Tryz.func110, Tryz.ntmps110
        go_wp2_with fail
        go_ret
        exact ⟨rfl, (Below.refl _ _).alloc (Nat.le_refl _) _⟩
    · go_enter Tryz.func110, Tryz.ntmps110
      go_wp2_with fail
      go_ret
      exact ⟨rfl, (Below.refl _ _).alloc (Nat.le_refl _) _⟩
  · go_enter Tryz.func110, Tryz.ntmps110
    go_wp2_with fail
    go_ret
    exact ⟨rfl, (Below.refl _ _).alloc (Nat.le_refl _) _⟩

/-- head and rest, as wide as it should be -/
def padL (m z : Bool) (wd : Int) (h s : List UInt8) : List UInt8 :=
  if m then h ++ s ++ List.replicate (wd - h.length - s.length).toNat 32
  else if z then h ++ List.replicate (wd - h.length - s.length).toNat 48 ++ s
  else List.replicate (wd - h.length - s.length).toNat 32 ++ h ++ s
theorem Repeat_one (c : UInt8) (n : Nat) (w : World) (hn : n ≤ 1000000000) :
    Calls Tryz.prog 109 #[.string ⟨#[c]⟩, .int .i64 (n : Int)] w fun e w' => e = .returned (.string ⟨(List.replicate n c).toArray⟩) ∧ Below w.heap.size w w' := by
  have h := Tryz.strings_Repeat ⟨#[c]⟩ n w (by omega) (by show 1 * n ≤ _; omega)
  rw [show (⟨#[c]⟩ : ByteArray).data.toList = [c] from rfl, repeatL_one] at h
  exact h

set_option maxHeartbeats 4000000 in
set_option maxRecDepth 100000 in
theorem padded_any (m p b a z0 zero : Bool) (wd pr : Int) (vb : Nat) (h s : ByteArray) (w : World) (hw : 0 ≤ wd) (hw2 : wd ≤ 1024) (hh : h.size ≤ 1000000) (hs : s.size ≤ 1000000) :
    Calls Tryz.prog 60 #[.agg (specA m p b a z0 wd pr vb), .string h, .string s, .bool zero] w fun e w' => e = .returned (.string ⟨(padL m zero wd h.data.toList s.data.toList).toArray⟩) ∧ Below w.heap.size w w' := by
  have e1 : h.size = h.data.toList.length := sz_list h
  have e2 : s.size = s.data.toList.length := sz_list s
  have hP : padL m zero wd h.data.toList s.data.toList = (if m then h.data.toList ++ s.data.toList ++ List.replicate (wd - h.size - s.size).toNat 32
      else if zero then h.data.toList ++ List.replicate (wd - h.size - s.size).toNat 48 ++ s.data.toList else List.replicate (wd - h.size - s.size).toNat 32 ++ h.data.toList ++ s.data.toList) := by
    unfold padL
    rw [← e1, ← e2]
  rw [hP]
  clear hP e1 e2
  obtain ⟨n, hn⟩ : ∃ n, n = (wd - h.size - s.size).toNat := ⟨_, rfl⟩
  rw [← hn]
  have HN := Lib.hid (show max 0 (wd - (h.size : Int) - (s.size : Int)) = (n : Int) from by omega)
  have hn2 : n ≤ 1000000000 := by omega
  have HRep := Lib.hid (fun (c : UInt8) (W : World) => Repeat_one c n W hn2)
  clear hn
  unfold specA
  cases m
  · cases zero
    · obtain ⟨R, hR⟩ : ∃ R : ByteArray, R = ⟨(List.replicate n 32).toArray⟩ := ⟨_, rfl⟩
      have hRs : R.size ≤ 1000000000 := by rw [sz_list, hR]; simpa using hn2
      have HRp := Lib.hid (fun (W : World) => HRep.out 32 W)
      rw [← hR] at HRp
      have HPO := Lib.hid (show R ++ h ++ s = ⟨(List.replicate n 32 ++ h.data.toList ++ s.data.toList).toArray⟩ from toBytes (by rw [hR]; simp [ByteArray.data_append]))
      show Calls _ _ _ _ fun e w' => e = .returned (.string ⟨(List.replicate n 32 ++ h.data.toList ++ s.data.toList).toArray⟩) ∧ Below w.heap.size w w'
      rw [← HPO.out]
      clear hR
      go_enter Tryz.func60, Tryz.ntmps60
      go_wp2_with fail
      rw [HN.out]
      refine (HRp.out _).mono ?_
      rintro e w1 ⟨rfl, hb⟩
      have HB := Lib.hid (((Below.refl w.heap.size w).alloc (Nat.le_refl _) (.cells #[.bool false, .bool p, .bool b, .bool a, .bool z0, .int .i64 wd, .int .i64 pr, .int .u8 (vb : Int)] 30)).trans (hb.mono (by simp)))
      clear hb
      go_wp2_with fail
      go_ret
      exact ⟨rfl, HB.out⟩
    · obtain ⟨R, hR⟩ : ∃ R : ByteArray, R = ⟨(List.replicate n 48).toArray⟩ := ⟨_, rfl⟩
      have hRs : R.size ≤ 1000000000 := by rw [sz_list, hR]; simpa using hn2
      have HRp := Lib.hid (fun (W : World) => HRep.out 48 W)
      rw [← hR] at HRp
      have HPO := Lib.hid (show h ++ R ++ s = ⟨(h.data.toList ++ List.replicate n 48 ++ s.data.toList).toArray⟩ from toBytes (by rw [hR]; simp [ByteArray.data_append]))
      show Calls _ _ _ _ fun e w' => e = .returned (.string ⟨(h.data.toList ++ List.replicate n 48 ++ s.data.toList).toArray⟩) ∧ Below w.heap.size w w'
      rw [← HPO.out]
      clear hR
      go_enter Tryz.func60, Tryz.ntmps60
      go_wp2_with fail
      rw [HN.out]
      refine (HRp.out _).mono ?_
      rintro e w1 ⟨rfl, hb⟩
      have HB := Lib.hid (((Below.refl w.heap.size w).alloc (Nat.le_refl _) (.cells #[.bool false, .bool p, .bool b, .bool a, .bool z0, .int .i64 wd, .int .i64 pr, .int .u8 (vb : Int)] 30)).trans (hb.mono (by simp)))
      clear hb
      go_wp2_with fail
      go_ret
      exact ⟨rfl, HB.out⟩
  · obtain ⟨R, hR⟩ : ∃ R : ByteArray, R = ⟨(List.replicate n 32).toArray⟩ := ⟨_, rfl⟩
    have hRs : R.size ≤ 1000000000 := by rw [sz_list, hR]; simpa using hn2
    have HRp := Lib.hid (fun (W : World) => HRep.out 32 W)
    rw [← hR] at HRp
    have HPO := Lib.hid (show h ++ s ++ R = ⟨(h.data.toList ++ s.data.toList ++ List.replicate n 32).toArray⟩ from toBytes (by rw [hR]; simp [ByteArray.data_append]))
    show Calls _ _ _ _ fun e w' => e = .returned (.string ⟨(h.data.toList ++ s.data.toList ++ List.replicate n 32).toArray⟩) ∧ Below w.heap.size w w'
    rw [← HPO.out]
    clear hR
    go_enter Tryz.func60, Tryz.ntmps60
    go_wp2_with fail
    rw [HN.out]
    refine (HRp.out _).mono ?_
    rintro e w1 ⟨rfl, hb⟩
    have HB := Lib.hid (((Below.refl w.heap.size w).alloc (Nat.le_refl _) (.cells #[.bool true, .bool p, .bool b, .bool a, .bool z0, .int .i64 wd, .int .i64 pr, .int .u8 (vb : Int)] 30)).trans (hb.mono (by simp)))
    clear hb
    go_wp2_with fail
    go_ret
    exact ⟨rfl, HB.out⟩
end Go.Proofs.YtcmpdamfeoaapaaGreatDoor
