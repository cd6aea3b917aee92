/- What CellTexts's code computes: it answers true. -/
import Derived.Test.YtcmpdamfeoaapaaGreatDoorP10
namespace Go.Proofs.YtcmpdamfeoaapaaGreatDoor
open Go.RowKit
set_option linter.unusedVariables false

theorem order_self {x : Nat} (h1 : x < 18446744073709551616) (h2 : x % 9223372036854775808 ≤ 9218868437227405312) : FloatKind.f64.format.order x x = some .eq := by
  rcases Nat.lt_or_ge (x % 9223372036854775808) 9218868437227405312 with h | h
  · exact order_same h1 h
  · have h3 : x = 9218868437227405312 ∨ x = 18442240474082181120 := by omega
    rcases h3 with rfl | rfl <;> decide
theorem readN_inf (l : List UInt8) (e : Int) : readN l e ≤ 9218868437227405312 := by
  unfold readN
  split
  · omega
  · split
    · exact readB_le _ _
    · split
      · exact readB_le _ _
      · exact readB_le _ _
theorem pref_self (l : List UInt8) : FloatKind.f64.format.order (prefB l) (prefB l) = some .eq := by
  have h : prefV l ≤ 9218868437227405312 := by
    unfold prefV
    split
    · omega
    · exact readN_inf _ _
  unfold prefB
  split
  · exact order_self (by omega) (by omega)
  · exact order_self (by omega) (by omega)
theorem in_cases (s : ByteArray) : inA s = cellA 2 0 s ∨ ∃ x, inA s = cellA 3 x s ∧ FloatKind.f64.format.order x x = some .eq := by
  unfold inA
  split
  · exact .inr ⟨_, rfl, pref_self _⟩
  · exact .inl rfl

theorem less_cmp : ∀ x y : List UInt8, Lib.compareBytes x y = if Op.bytesLess x y then -1 else if x == y then 0 else 1
  | [], [] => rfl
  | [], _ :: _ => rfl
  | _ :: _, [] => rfl
  | a :: l, b :: m => by
    have ih := less_cmp l m
    show (if a < b then (-1 : Int) else if b < a then 1 else Lib.compareBytes l m) = _
    rw [ih]
    simp only [Op.bytesLess]
    by_cases h1 : a < b
    · simp [h1]
    · by_cases h2 : b < a
      · have h3 : a ≠ b := by rintro rfl; exact h1 h2
        simp [h1, h2, h3]
      · have h3 : a = b := by
          apply UInt8.toNat_inj.1
          have h3 : ¬ a.toNat < b.toNat := fun h => h1 (UInt8.lt_iff_toNat_lt.2 h)
          have h4 : ¬ b.toNat < a.toNat := fun h => h2 (UInt8.lt_iff_toNat_lt.2 h)
          omega
        subst h3
        simp [h1]
theorem cmp_cases (a b : ByteArray) : (Op.bytesLess a.toList b.toList = true ∧ Lib.compareBytes a.data.toList b.data.toList = -1) ∨
    (Op.bytesLess a.toList b.toList = false ∧ (a.toList == b.toList) = false ∧ Lib.compareBytes a.data.toList b.data.toList = 1) ∨
    (Op.bytesLess a.toList b.toList = false ∧ (a.toList == b.toList) = true ∧ Lib.compareBytes a.data.toList b.data.toList = 0) := by
  rw [← ByteArray.toList_eq, ← ByteArray.toList_eq, less_cmp]
  cases Op.bytesLess a.toList b.toList
  · cases (a.toList == b.toList)
    · exact .inr (.inl ⟨rfl, rfl, rfl⟩)
    · exact .inr (.inr ⟨rfl, rfl, rfl⟩)
  · exact .inl ⟨rfl, rfl⟩

end Go.Proofs.YtcmpdamfeoaapaaGreatDoor
