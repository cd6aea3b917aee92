/- Plain: what is written of a whole number by d, x and o. -/
import Derived.Test.YtfdnhkjeoeffoaaGreatDoorW17
import Derived.Test.YtfdnhkjeoeffoaaGreatDoorW21
namespace Go.Proofs.YtfdnhkjeoeffoaaGreatDoor
open Go.RowKit
set_option linter.unusedVariables false

theorem okS_of {wd pr : Int} {vb : Nat} (h : ((vb != 0) && decide (0 ≤ ixB verbsB vb)) = true) (h1 : 0 ≤ wd) (h2 : wd ≤ 1024) (h3 : -1 ≤ pr) (h4 : pr ≤ 190) : okS wd pr vb = true := by
  unfold okS
  rw [h]
  simp only [Bool.true_and, Bool.and_eq_true, decide_eq_true_eq]
  exact ⟨⟨⟨h1, h2⟩, h3⟩, h4⟩
theorem numO_whole {m p bl al z : Bool} {wd pr : Int} {vb b : Nat} (hk : okS wd pr vb = true) (hn : isNum vb = true) (hf : fin b = true) (h : ¬ (vb = 101 ∨ vb = 69 ∨ vb = 102 ∨ vb = 70 ∨ vb = 103 ∨ vb = 71)) (h2 : ¬ vb = 88) :
    numO m p bl al z wd pr vb b = ⟨(padW m p bl al z wd pr vb b).toArray⟩ := by
  unfold numO wholeO
  rw [if_pos ⟨hk, hn⟩, if_neg (by rw [hf]; decide), if_neg h, if_neg h2]
theorem valB_canon {N : Nat} {l : List UInt8} (h : Canon l N) : valB 10 l = N := by rw [valB_digits l.length l rfl h.dig, h.val]
theorem valB_one (B : Nat) : valB B [48] = 0 := by simp [valB, dvC]
/-- what is written of a whole number -/
theorem whole_law5 {N : Nat} (hN : N < 9007199254740992) {wd : Int} (h0 : 0 ≤ wd) (h60 : wd ≤ 60) : ∃ D X O : List UInt8,
    numO false false false false true wd (-1) 100 (ofN N) = ⟨D.toArray⟩ ∧ numO false false false false false 0 (-1) 120 (ofN N) = ⟨X.toArray⟩ ∧
    numO false false false false false 0 wd 111 (ofN N + 9223372036854775808) = ⟨((if 0 < N then [45] else []) ++ O).toArray⟩ ∧
    (valB 10 D = N ∧ valB 16 X = N ∧ valB 8 O = N) ∧ (DigB D ∧ DigB X ∧ DigB O) ∧ wd ≤ D.length ∧ wd ≤ O.length := by
  obtain ⟨f1, t1, w1, s1⟩ := ofN_parts hN
  obtain ⟨f2, w2, s2⟩ := neg_parts hN
  obtain ⟨hb, _⟩ := ofN_fin hN
  obtain ⟨l, hc, _⟩ := fix_ok (ofN N) 0 (by omega) f1 (by decide)
  have hl : Canon l N := by
    have h5 := w1
    unfold wholeN at h5
    rw [t1] at h5
    have h6 : Canon l (scaledN (ofN N) 0) := hc
    rwa [h5] at h6
  have hdl : dl N = l := dl_eq hl
  have z48 : DigB [48] := fun c hc => by rw [List.mem_singleton.1 hc]; decide
  refine ⟨List.replicate (wd - (if N = 0 then [48] else l).length).toNat 48 ++ (if N = 0 then [48] else l), (if N = 0 then [48] else baseD 16 N), (if N = 0 then (if wd = 0 then [] else List.replicate (wd - 1).toNat 48 ++ [48]) else List.replicate (wd - (baseD 8 N).length).toNat 48 ++ baseD 8 N), ?_, ?_, ?_, ⟨?_, ?_, ?_⟩, ⟨?_, ?_, ?_⟩, ?_, ?_⟩
  · rw [numO_whole (okS_of (by decide) h0 (by omega) (by decide) (by decide)) (by decide) f1 (by decide) (by decide)]
    have e1 : headW false false false 100 (wholeS (ofN N)) (wholeN (ofN N)) = [] := by rw [s1]; rfl
    have e2 : numW false (-1) 100 (wholeN (ofN N)) = if N = 0 then [48] else l := by
      rw [w1]
      unfold numW
      by_cases hz : N = 0
      · rw [if_pos hz, if_pos hz]; rfl
      · have hb3 : baseW false 100 N = l := by unfold baseW; rw [if_neg (by decide), if_neg (by decide), hdl]
        rw [if_neg hz, if_neg hz, hb3, show ((-1 : Int) - (l.length : Nat)).toNat = 0 by omega]
        rfl
    unfold padW
    rw [e1, e2]
    unfold padL
    rw [if_neg Bool.false_ne_true, if_pos (by decide)]
    simp
  · rw [numO_whole (okS_of (by decide) (by decide) (by decide) (by decide) (by decide)) (by decide) f1 (by decide) (by decide)]
    have e1 : headW false false false 120 (wholeS (ofN N)) (wholeN (ofN N)) = [] := by
      rw [s1]
      unfold headW
      rw [if_neg (by decide), if_neg (by simp), if_neg (by simp)]
      rfl
    have e2 : numW false (-1) 120 (wholeN (ofN N)) = if N = 0 then [48] else baseD 16 N := by
      rw [w1]
      unfold numW
      by_cases hz : N = 0
      · rw [if_pos hz, if_pos hz]; rfl
      · have hb3 : baseW false 120 N = baseD 16 N := by unfold baseW; rw [if_neg (by decide), if_pos (.inl rfl)]
        rw [if_neg hz, if_neg hz, hb3, show ((-1 : Int) - ((baseD 16 N).length : Nat)).toNat = 0 by omega]
        rfl
    unfold padW
    rw [e1, e2, padL_zero]
    rfl
  · rw [numO_whole (okS_of (by decide) (by decide) (by decide) (by omega) (by omega)) (by decide) f2 (by decide) (by decide)]
    have e1 : headW false false false 111 (wholeS (ofN N + 9223372036854775808)) (wholeN (ofN N + 9223372036854775808)) = if 0 < N then [45] else [] := by
      rw [s2]
      unfold headW
      rw [if_neg (by decide), if_neg (by simp), if_neg (by simp)]
      unfold signL
      by_cases hz : 0 < N
      · rw [decide_eq_true hz, if_pos rfl, if_pos hz]
      · rw [decide_eq_false hz, if_neg hz]; rfl
    have e2 : numW false wd 111 (wholeN (ofN N + 9223372036854775808)) = if N = 0 then (if wd = 0 then [] else List.replicate (wd - 1).toNat 48 ++ [48]) else List.replicate (wd - (baseD 8 N).length).toNat 48 ++ baseD 8 N := by
      rw [w2]
      unfold numW
      by_cases hz : N = 0
      · rw [if_pos hz, if_pos hz, if_neg (by simp)]
      · have hb3 : baseW false 111 N = baseD 8 N := by unfold baseW; rw [if_pos rfl, if_neg Bool.false_ne_true]
        rw [if_neg hz, if_neg hz, hb3]
    unfold padW
    rw [e1, e2, padL_zero]
  · rw [valB_zeros]
    by_cases hz : N = 0
    · rw [if_pos hz, valB_one, hz]
    · rw [if_neg hz, valB_canon hl]
  · by_cases hz : N = 0
    · rw [if_pos hz, valB_one, hz]
    · rw [if_neg hz, valB_base (by decide) (by decide) N N (Nat.le_refl _)]
  · by_cases hz : N = 0
    · rw [if_pos hz]
      split
      · rw [hz]; rfl
      · rw [valB_zeros, valB_one, hz]
    · rw [if_neg hz, valB_zeros, valB_base (by decide) (by decide) N N (Nat.le_refl _)]
  · refine (DigB.zeros _).app ?_
    split
    · exact z48
    · exact DigB.of hl.dig
  · split
    · exact z48
    · exact baseD_dig (by decide) (by decide) N N (Nat.le_refl _)
  · split
    · split
      · exact fun c hc => by cases hc
      · exact (DigB.zeros _).app z48
    · exact (DigB.zeros _).app (baseD_dig (by decide) (by decide) N N (Nat.le_refl _))
  · rw [List.length_append, List.length_replicate]
    omega
  · split
    · split
      · simp; omega
      · rw [List.length_append, List.length_replicate]; simp; omega
    · rw [List.length_append, List.length_replicate]; omega
end Go.Proofs.YtfdnhkjeoeffoaaGreatDoor
