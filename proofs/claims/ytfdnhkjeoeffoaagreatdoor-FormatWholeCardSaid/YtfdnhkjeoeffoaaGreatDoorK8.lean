/- Plain: floats by their values with a sign; a whole number as a float. -/
import Derived.Test.YtfdnhkjeoeffoaaGreatDoorK7
namespace Go.Proofs.YtfdnhkjeoeffoaaGreatDoor
open Go.RowKit
set_option linter.unusedVariables false

/-- a float's value over the least step, with its sign -/
def sv (b : Nat) : Int := if b / 9223372036854775808 = 0 then (vl (b % 9223372036854775808) : Int) else -(vl (b % 9223372036854775808) : Int)

theorem read_sv {b : Nat} (hb : b < 18446744073709551616) (hf : b % 9223372036854775808 < 9218868437227405312) :
    ∃ s : Bool, FloatKind.f64.format.read b = .number s (mof (b % 9223372036854775808)) ((jof (b % 9223372036854775808) : Int) - 1074) ∧ sv b = if s then -(vl (b % 9223372036854775808) : Int) else (vl (b % 9223372036854775808) : Int) := by
  rcases Nat.lt_or_ge b 9223372036854775808 with h | h
  · have e := Nat.mod_eq_of_lt h
    refine ⟨false, ?_, ?_⟩
    · rw [e] at hf ⊢; exact read_fin hf
    · unfold sv; rw [if_pos (Nat.div_eq_of_lt h)]; exact (if_neg (by decide)).symm
  · obtain ⟨a, rfl⟩ : ∃ a, b = a + 9223372036854775808 := ⟨b - 9223372036854775808, by omega⟩
    have e : (a + 9223372036854775808) % 9223372036854775808 = a := by omega
    refine ⟨true, ?_, ?_⟩
    · rw [e] at hf ⊢; exact read_neg hf
    · unfold sv; rw [if_neg (by omega)]; exact (if_pos (by decide)).symm
theorem order_sv {a c : Nat} (ha : a < 18446744073709551616) (hc : c < 18446744073709551616) (fa : a % 9223372036854775808 < 9218868437227405312) (fc : c % 9223372036854775808 < 9218868437227405312) :
    FloatKind.f64.format.order a c = some (compare (sv a) (sv c)) := by
  obtain ⟨s, h1, h2⟩ := read_sv ha fa
  obtain ⟨t, h3, h4⟩ := read_sv hc fc
  unfold Ieee.Format.order
  rw [h1, h3, order_num, h2, h4]
/-- what is left of a division of floats -/
def ModR (x y r : Nat) : Prop := ∃ B, B < 9218868437227405312 ∧ r = B + x / 9223372036854775808 * 9223372036854775808 ∧ vl B = vl (x % 9223372036854775808) % vl (y % 9223372036854775808)

end Go.Proofs.YtfdnhkjeoeffoaaGreatDoor
