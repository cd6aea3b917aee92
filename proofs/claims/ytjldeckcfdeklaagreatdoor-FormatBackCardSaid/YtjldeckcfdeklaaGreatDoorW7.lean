/- Digits that are a float's seventeen, with noughts struck behind, are read as that float: plain. -/
import Derived.Test.YtjldeckcfdeklaaGreatDoorW6
namespace Go.Proofs.YtjldeckcfdeklaaGreatDoor
open Go.RowKit
set_option linter.unusedVariables false

theorem cross_pow (d j : Nat) (k : Int) : d * 10 ^ ((j : Int) - k).toNat * 10 ^ k.toNat = d * 10 ^ j * 10 ^ (-k).toNat * 10 ^ (k - (j : Int)).toNat := by
  rcases Int.lt_or_le k 0 with h | h
  · obtain ⟨n, rfl⟩ : ∃ n : Nat, k = -(n : Int) := ⟨(-k).toNat, by omega⟩
    rw [show ((j : Int) - -(n : Int)).toNat = j + n by omega, show (-(n : Int)).toNat = 0 by omega, show (- -(n : Int)).toNat = n by omega, show (-(n : Int) - (j : Int)).toNat = 0 by omega, Nat.pow_add]
    simp [Nat.mul_assoc]
  · obtain ⟨n, rfl⟩ : ∃ n : Nat, k = (n : Int) := ⟨k.toNat, by omega⟩
    rcases Nat.lt_or_ge j n with h2 | h2
    · obtain ⟨i, rfl⟩ : ∃ i, n = j + i := ⟨n - j, by omega⟩
      rw [show ((j : Int) - ((j + i : Nat) : Int)).toNat = 0 by omega, show (((j + i : Nat) : Int)).toNat = j + i by omega, show (-((j + i : Nat) : Int)).toNat = 0 by omega, show (((j + i : Nat) : Int) - (j : Int)).toNat = i by omega, Nat.pow_add]
      simp [Nat.mul_assoc]
    · obtain ⟨i, rfl⟩ : ∃ i, j = n + i := ⟨j - n, by omega⟩
      rw [show (((n + i : Nat) : Int) - (n : Int)).toNat = i by omega, show ((n : Int)).toNat = n by omega, show (-(n : Int)).toNat = 0 by omega, show ((n : Int) - ((n + i : Nat) : Int)).toNat = 0 by omega, Nat.pow_add]
      simp [Nat.mul_assoc, Nat.mul_comm, Nat.mul_left_comm]
theorem bare_idem (l : List UInt8) : bare (bare l) = bare l := by
  unfold bare
  induction l with
  | nil => rfl
  | cons c l ih =>
    rw [List.dropWhile_cons]
    split
    · exact ih
    · rename_i h
      rw [List.dropWhile_cons, if_neg h]
theorem read_value {a : Nat} {k : Int} {D : List UInt8} {j : Nat} (ha : a < 9218868437227405312) (hN : 10 ^ 16 ≤ scaledN a k) (hv : digVal D * 10 ^ j = scaledN a k) (hl : (bare D).length ≤ 900) (h1 : -4000 ≤ (j : Int) - k) (h2 : (j : Int) - k ≤ 2000) (h3 : -330 ≤ (bare D).length + ((j : Int) - k)) (h4 : (bare D).length + ((j : Int) - k) ≤ 310) : readN D ((j : Int) - k) = a := by
  have hb := near_back ha hN
  have hd0 : digVal D ≠ 0 := by
    intro h
    rw [h, Nat.zero_mul] at hv
    have : 0 < 10 ^ 16 := Nat.pow_pos (by decide)
    omega
  have hbn : bare D ≠ [] := by
    intro h
    have := digVal_bare D
    rw [h] at this
    exact hd0 this.symm
  unfold readN
  rw [if_neg hbn, if_pos hl]
  have hbl : (bare D).length ≠ 0 := fun h => hbn (List.eq_nil_of_length_eq_zero h)
  rw [readB_near (l := bare D) (by rw [bare_idem]; exact hbl) h1 h2 (by rw [bare_idem]; exact h3) (by rw [bare_idem]; exact h4), bare_idem, digVal_bare, ← hb]
  refine near_same (Nat.pow_pos (by decide)) (Nat.pow_pos (by decide)) ?_
  have hc := cross_pow (digVal D) j k
  rw [hv] at hc
  rw [show -((j : Int) - k) = k - (j : Int) by omega]
  exact hc
end Go.Proofs.YtjldeckcfdeklaaGreatDoor
