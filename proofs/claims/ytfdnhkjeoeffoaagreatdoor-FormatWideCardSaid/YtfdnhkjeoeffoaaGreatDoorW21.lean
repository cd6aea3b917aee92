/- Plain: what Number writes is short. -/
import Derived.Test.YtfdnhkjeoeffoaaGreatDoorM12
import Derived.Test.YtfdnhkjeoeffoaaGreatDoorZ1
namespace Go.Proofs.YtfdnhkjeoeffoaaGreatDoor
open Go.RowKit
set_option linter.unusedVariables false

theorem wholeO_size (m p bl al z : Bool) (wd pr : Int) (vb b : Nat) (hb : b < 18446744073709551616) (hf : fin b = true) (hp2 : pr ≤ 190) (hw2 : wd ≤ 1024) : (wholeO m p bl al z wd pr vb b).size ≤ 20000 := by
  obtain ⟨l, hc, hl, hfx, hdl⟩ := whole_text hb hf
  have hnb := whole_bits5 b
  have hd8 := baseD_len (B := 8) (by decide) hnb
  have hd16 := baseD_len (B := 16) (by decide) hnb
  have hbw : (baseW al vb (wholeN b)).length ≤ 4002 := by
    unfold baseW
    split
    · split
      · simp; omega
      · omega
    · split
      · omega
      · rw [hdl]; omega
  have hnw : (numW al pr vb (wholeN b)).length ≤ 5000 := by
    unfold numW
    split
    · split
      · simp; omega
      · split
        · simp
        · simp; omega
    · simp; omega
  have hhd : (headW p bl al vb (wholeS b) (wholeN b)).length ≤ 3 := by
    have s1 := signL_size5 p bl (wholeS b)
    have s2 := signL_size5 false false (wholeS b)
    unfold headW
    split
    · omega
    · split
      · simp; omega
      · split
        · simp
        · omega
  have hpl := padL_size5 (m := m) (z := z && decide (pr < 0)) (h := headW p bl al vb (wholeS b) (wholeN b)) (s := numW al pr vb (wholeN b)) hw2
  unfold wholeO
  split
  · show (Lib.toUpperA (padW m p bl al z wd pr vb b)).length ≤ _
    unfold Lib.toUpperA padW
    rw [List.length_map]; omega
  · show (padW m p bl al z wd pr vb b).length ≤ _
    unfold padW; omega
theorem floatO_size9 (m p bl al z : Bool) (wd pr : Int) (vb b : Nat) (w : World) (hb : b < 18446744073709551616) (hf : fin b = true) (hp2 : pr ≤ 190) (hw2 : wd ≤ 1024) (hT : PowOk w) : (floatO m p bl al z wd pr vb b).size ≤ 20000 := by
  have hbo := (bodyF_ok al vb hb hf (precF_le hp2) hT).2
  have hsl := signL_size5 p bl (decide (9223372036854775808 ≤ b))
  have hpl := padL_size5 (m := m) (z := z) (h := signL p bl (decide (9223372036854775808 ≤ b))) (s := (bodyF al vb (precF pr) b).data.toList) hw2
  rw [← sz_list (bodyF al vb (precF pr) b)] at hpl
  unfold floatO
  split
  · show (Lib.toUpperA (padO m p bl al z wd pr vb b)).length ≤ _
    unfold Lib.toUpperA padO
    rw [List.length_map]
    omega
  · show (padO m p bl al z wd pr vb b).length ≤ _
    unfold padO
    omega
theorem numO_size (m p bl al z : Bool) (wd pr : Int) (vb b : Nat) (w : World) (hb : b < 18446744073709551616) (hT : PowOk w) : (numO m p bl al z wd pr vb b).size ≤ 20000 := by
  unfold numO
  split
  · rename_i h
    obtain ⟨o1, o2, o3, o4⟩ := okS_facts h.1
    cases hf : fin b
    · rw [if_pos rfl]
      have h2 := padL_size5 (m := m) (z := false) (h := []) (s := (oddO b).data.toList) o2
      have h3 := odd_size b
      show (padL m false wd [] (oddO b).data.toList).length ≤ _
      simp at h2; omega
    · rw [if_neg (by decide)]
      split
      · exact floatO_size9 m p bl al z wd pr vb b w hb hf o4 o2 hT
      · exact wholeO_size m p bl al z wd pr vb b hb hf o4 o2
  · show 0 ≤ _; omega
end Go.Proofs.YtfdnhkjeoeffoaaGreatDoor
