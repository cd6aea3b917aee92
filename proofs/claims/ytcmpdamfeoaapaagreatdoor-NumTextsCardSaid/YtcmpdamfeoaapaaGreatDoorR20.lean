/- Plain: digits of base sixteen, as the document counts them. -/
import Derived.Test.YtcmpdamfeoaapaaGreatDoorR19
import Derived.Test.YtcmpdamfeoaapaaGreatDoorM6
namespace Go.Proofs.YtcmpdamfeoaapaaGreatDoor
open Go
set_option linter.unusedVariables false

/-- the document's digit of base sixteen; less than nought: none -/
def hx (c : Nat) : Int := if 48 ≤ c ∧ c ≤ 57 then (c : Int) - 48 else if 97 ≤ c ∧ c ≤ 102 then (c : Int) - 87 else if 65 ≤ c ∧ c ≤ 70 then (c : Int) - 55 else -1
def hxAll : Bool := (List.range 256).all fun n => (if hexD (UInt8.ofNat n) < 0 ∨ n < 48 then (-1 : Int) else hexD (UInt8.ofNat n)) == hx n
theorem hx_all : hxAll = true := by kernel_rfl
theorem hexD_hx (c : UInt8) : (if hexD c < 0 ∨ c.toNat < 48 then (-1 : Int) else hexD c) = hx c.toNat := by
  have h := List.all_eq_true.1 hx_all c.toNat (List.mem_range.2 c.toNat_lt)
  have h2 := eq_of_beq h
  rwa [UInt8.ofNat_toNat] at h2
theorem hx_ge (c : Nat) : -1 ≤ hx c := by unfold hx; split <;> (try split) <;> (try split) <;> omega
theorem hx_le (c : Nat) : hx c ≤ 15 := by unfold hx; split <;> (try split) <;> (try split) <;> omega
/-- the number that digits of base sixteen write, and how many they are -/
def hexR : List UInt8 → Nat → Nat → Nat × Nat
  | [], m, n => (m, n)
  | c :: l, m, n => if hx c.toNat < 0 then (m, n) else hexR l (16 * m + (hx c.toNat).toNat) (n + 1)
theorem ofN_16 : ofN 16 = 4625196817309499392 := by kernel_rfl
theorem baseO_hexR : ∀ (l : List UInt8) (m n : Nat), (m + 1) * 16 ^ l.length ≤ 4503599627370496 → baseO l (ofN m) n = some (ofN (hexR l m n).1, (hexR l m n).2)
  | [], m, n, _ => rfl
  | c :: l, m, n, h => by
    have hx1 := hexD_hx c
    rw [baseO, hexR]
    by_cases hb : hexD c < 0 ∨ c.toNat < 48
    · rw [if_pos hb] at hx1 ⊢
      rw [if_pos (by omega)]
    · rw [if_neg hb] at hx1 ⊢
      obtain ⟨k, hk⟩ : ∃ k : Nat, hx c.toNat = (k : Int) := ⟨_, (Int.toNat_of_nonneg (by rw [← hx1]; omega)).symm⟩
      have hk2 := hx_le c.toNat
      rw [hx1, hk, if_neg (by omega)]
      rw [List.length_cons, Nat.pow_succ] at h
      have hp : 0 < 16 ^ l.length := Nat.pow_pos (by decide)
      have h2 : (m + 1) * 16 * 16 ^ l.length ≤ 4503599627370496 := by rw [Nat.mul_assoc, Nat.mul_comm 16]; exact h
      have h3 : (m + 1) * 16 ≤ 4503599627370496 := Nat.le_trans (Nat.le_mul_of_pos_right _ hp) h2
      have e1 : FloatKind.f64.format.mul (ofN m) 4625196817309499392 = some (ofN (m * 16)) := by rw [← ofN_16]; exact mul_whole (by omega) (by decide) (by decide)
      have e2 : FloatKind.f64.format.add (ofN (m * 16)) (floatOfInt FloatKind.f64 (k : Int)) = some (ofN (m * 16 + k)) := add_whole (by omega)
      rw [e1, Option.bind_some, e2, Option.bind_some, Int.toNat_natCast, Nat.mul_comm m 16]
      refine baseO_hexR l _ _ (Nat.le_trans (Nat.mul_le_mul_right _ ?_) h2)
      omega
/-- of base sixteen: the digits behind the first two bytes, fourteen at most -/
def hexL (l : List UInt8) : List UInt8 := (l.take 15).drop 2
theorem hexL_len (l : List UInt8) : (hexL l).length ≤ 13 := by unfold hexL; rw [List.length_drop, List.length_take]; omega
theorem base_hex (l : List UInt8) : baseO (hexL l) 0 0 = some (ofN (hexR (hexL l) 0 0).1, (hexR (hexL l) 0 0).2) := by
  have h := baseO_hexR (hexL l) 0 0 (by
    refine Nat.le_trans (Nat.mul_le_mul_left _ (Nat.pow_le_pow_right (by decide) (hexL_len l))) ?_
    decide)
  rwa [ofN_zero] at h
theorem hexR_ge : ∀ (l : List UInt8) (m n : Nat), n ≤ (hexR l m n).2 ∧ (hexR l m n).2 ≤ n + l.length
  | [], m, n => ⟨Nat.le_refl _, Nat.le_refl _⟩
  | c :: l, m, n => by
    rw [hexR]
    split
    · exact ⟨Nat.le_refl _, by omega⟩
    · have := hexR_ge l (16 * m + (hx c.toNat).toNat) (n + 1)
      rw [List.length_cons]; omega
/-- is a numeral of base sixteen there? -/
def isHex (l : List UInt8) : Bool := (Lib.hasPrefix l [48, 120] || Lib.hasPrefix l [48, 88]) && decide (0 < (hexR (hexL l) 0 0).2)
/-- what num.Literal tells -/
def litV (l : List UInt8) : Nat := if isHex l then ofN (hexR (hexL l) 0 0).1 else if (numeralL l).2.2 = 0 then 0 else readN (numeralL l).1 (numeralL l).2.1
def litN (l : List UInt8) : Nat := if isHex l then 2 + (hexR (hexL l) 0 0).2 else (numeralL l).2.2
end Go.Proofs.YtcmpdamfeoaapaaGreatDoor
