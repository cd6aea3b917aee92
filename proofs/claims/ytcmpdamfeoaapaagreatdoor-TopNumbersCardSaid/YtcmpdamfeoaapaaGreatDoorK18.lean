/- What NumSigns's code computes: it answers true. -/
import Derived.Test.YtcmpdamfeoaapaaGreatDoorK17
namespace Go.Proofs.YtcmpdamfeoaapaaGreatDoor
open Go.RowKit
set_option linter.unusedVariables false

theorem readN_inf (l : List UInt8) (e : Int) : readN l e ≤ 9218868437227405312 := by
  unfold readN
  split
  · omega
  · split
    · exact readB_le _ _
    · split
      · exact readB_le _ _
      · exact readB_le _ _
theorem negF2 {R : Nat} (h : R < 9223372036854775808) : Op.negFloat .f64 (R + 9223372036854775808) = R := by
  rw [← negF h]
  show (R ^^^ 2 ^ 63) ^^^ 2 ^ 63 = R
  rw [Nat.xor_assoc, Nat.xor_self, Nat.xor_zero]
theorem readN_canon {l : List UInt8} {n : Nat} (h : Canon l n) (hl : l.length ≤ 20) : readN l 0 = near n 1 := by
  unfold readN
  rcases Nat.eq_zero_or_pos n with h0 | h0
  · subst h0
    rw [canon_zero_text h, if_pos (by decide), near_zero (by decide)]
  · have hb : bare l = l := bare_pos_text h h0
    have hl0 := List.length_pos_iff.2 h.ne
    rw [hb, if_neg h.ne, if_pos (by omega), readB_near (by rw [hb]; omega) (by omega) (by omega) (by rw [hb]; omega) (by rw [hb]; omega), hb, h.val]
    simp
theorem looks_canon {l : List UInt8} {n : Nat} (h : Canon l n) : looksL l = true := by
  have h1 := (pref_plain h []).1
  rw [List.append_nil, numeral_plain h] at h1
  have hl0 := List.length_pos_iff.2 h.ne
  unfold looksL
  rw [h1]
  simp only [List.drop_length]
  rw [decide_eq_true hl0]
  rfl

/-- a string's size -/
def sizeV : Value → Nat | .string s => s.size | _ => 0

end Go.Proofs.YtcmpdamfeoaapaaGreatDoor
