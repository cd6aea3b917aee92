/- Plain: what is written with a width, and without. -/
import Derived.Test.YtfdnhkjeoeffoaaGreatDoorM12
import Derived.Test.YtfdnhkjeoeffoaaGreatDoorZ1
namespace Go.Proofs.YtfdnhkjeoeffoaaGreatDoor
open Go.RowKit
set_option linter.unusedVariables false

def upI (u : Bool) (l : List UInt8) : List UInt8 := if u then Lib.toUpperA l else l
theorem upI_app (u : Bool) (a b : List UInt8) : upI u (a ++ b) = upI u a ++ upI u b := by
  unfold upI; cases u
  · rfl
  · simp [Lib.toUpperA]
theorem upI_len (u : Bool) (a : List UInt8) : (upI u a).length = a.length := by
  unfold upI; cases u
  · rfl
  · simp [Lib.toUpperA]
theorem upI_blanks (u : Bool) (k : Nat) : upI u (List.replicate k 32) = List.replicate k 32 := by
  unfold upI; cases u
  · rfl
  · have : Lib.toUpperA [32] = [32] := by decide
    unfold Lib.toUpperA at *
    simp at this ⊢
    exact .inr this
theorem padL_wide {m z : Bool} {wd : Int} {h s : List UInt8} (hw : 0 ≤ wd) : ((padL m z wd h s).length : Int) = max ((h.length : Int) + s.length) wd := by
  unfold padL
  split
  · simp; omega
  · split
    · simp; omega
    · simp; omega
theorem padL_zero (m z : Bool) (h s : List UInt8) : padL m z 0 h s = h ++ s := by
  have e : ((0 : Int) - h.length - s.length).toNat = 0 := by omega
  unfold padL
  rw [e]
  split
  · simp
  · split <;> simp
/-- what is written: a head and a body, padded, and perhaps in capitals; the width tells in the padding alone -/
theorem numO_form (m p bl al z : Bool) (pr : Int) {vb b : Nat} (hn : isNum vb = true) : ∃ (u z' : Bool) (hd s : List UInt8), (z = false → z' = false) ∧ ∀ wd, okS wd pr vb = true → numO m p bl al z wd pr vb b = ⟨(upI u (padL m z' wd hd s)).toArray⟩ := by
  cases hf : fin b
  · refine ⟨false, false, [], (oddO b).data.toList, fun _ => rfl, fun wd hk => ?_⟩
    unfold numO
    rw [if_pos ⟨hk, hn⟩, hf, if_pos rfl]
    rfl
  by_cases hv : vb = 101 ∨ vb = 69 ∨ vb = 102 ∨ vb = 70 ∨ vb = 103 ∨ vb = 71
  · refine ⟨decide (vb < 97), z, signL p bl (decide (9223372036854775808 ≤ b)), (bodyF al vb (precF pr) b).data.toList, id, fun wd hk => ?_⟩
    unfold numO
    rw [if_pos ⟨hk, hn⟩, hf, if_neg (by decide), if_pos hv]
    unfold floatO upI padO
    by_cases h : vb < 97
    · rw [if_pos h, if_pos (decide_eq_true h)]
    · rw [if_neg h, if_neg (by rw [decide_eq_false h]; decide)]
  · refine ⟨decide (vb = 88), z && decide (pr < 0), headW p bl al vb (wholeS b) (wholeN b), numW al pr vb (wholeN b), fun h => by rw [h]; rfl, fun wd hk => ?_⟩
    unfold numO
    rw [if_pos ⟨hk, hn⟩, hf, if_neg (by decide), if_neg hv]
    unfold wholeO upI padW
    by_cases h : vb = 88
    · rw [if_pos h, if_pos (decide_eq_true h)]
    · rw [if_neg h, if_neg (by rw [decide_eq_false h]; decide)]
theorem okS_zero {wd pr : Int} {vb : Nat} (h : okS wd pr vb = true) : okS 0 pr vb = true := by
  unfold okS at *
  simp only [Bool.and_eq_true, decide_eq_true_iff] at *
  exact ⟨⟨⟨⟨⟨h.1.1.1.1.1, h.1.1.1.1.2⟩, by decide⟩, by decide⟩, h.1.2⟩, h.2⟩
/-- with a width: as without one, and blanks -/
theorem wide_law {m p bl al z : Bool} {wd pr : Int} {vb b : Nat} (hn : isNum vb = true) (hk : okS wd pr vb = true) :
    ∃ (T S : List UInt8) (k : Nat), numO m p bl al z wd pr vb b = ⟨S.toArray⟩ ∧ numO m p bl al z 0 pr vb b = ⟨T.toArray⟩ ∧ (S.length : Int) = max (T.length : Int) wd ∧ S.length = T.length + k ∧
      (m = true → S = T ++ List.replicate k 32) ∧ (m = false → z = false → S = List.replicate k 32 ++ T) := by
  obtain ⟨u, z', hd, s, hz, hO⟩ := numO_form m p bl al z pr (b := b) hn
  have hw := (okS_facts hk).1
  have hl := padL_wide (m := m) (z := z') (h := hd) (s := s) hw
  refine ⟨upI u (hd ++ s), upI u (padL m z' wd hd s), (wd - hd.length - s.length).toNat, hO wd hk, ?_, ?_, ?_, ?_, ?_⟩
  · rw [hO 0 (okS_zero hk), padL_zero]
  · rw [upI_len, upI_len, List.length_append, hl]; omega
  · rw [upI_len, upI_len, List.length_append]; omega
  · rintro rfl
    unfold padL
    rw [if_pos rfl, upI_app, upI_blanks]
  · rintro rfl hzf
    rw [hz hzf]
    unfold padL
    rw [if_neg Bool.false_ne_true, if_neg Bool.false_ne_true, List.append_assoc, upI_app, upI_blanks]
end Go.Proofs.YtfdnhkjeoeffoaaGreatDoor
