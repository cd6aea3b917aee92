/- What NumBack's code computes: it answers true. -/
import Derived.Test.YtcmpdamfeoaapaaGreatDoorK19
namespace Go.Proofs.YtcmpdamfeoaapaaGreatDoor
open Go.RowKit
set_option linter.unusedVariables false

theorem order_back {b : Nat} {S : Bool} (hb : b < 18446744073709551616) (hi : b % 9223372036854775808 < 9218868437227405312) (hS : (FloatKind.f64.format.order b 0 == some .lt) = S) :
    FloatKind.f64.format.order (if S = true then b % 9223372036854775808 + 9223372036854775808 else b % 9223372036854775808) b = some .eq := by
  rcases Nat.lt_or_ge b 9223372036854775808 with h5 | h5
  · have e := Nat.mod_eq_of_lt h5
    rw [e] at hi
    have hSf : S = false := by
      rw [← hS, order_pos (Nat.le_of_lt hi) (by decide)]
      rcases Nat.eq_zero_or_pos b with h6 | h6
      · rw [h6]; rfl
      · rw [Nat.compare_eq_gt.2 h6]; rfl
    rw [hSf, if_neg (by decide), e]
    exact order_eq (Nat.le_of_lt hi)
  · obtain ⟨a, rfl⟩ : ∃ a, b = a + 9223372036854775808 := ⟨b - 9223372036854775808, by omega⟩
    have e : (a + 9223372036854775808) % 9223372036854775808 = a := by omega
    rw [e] at hi ⊢
    cases S
    · rw [if_neg (by decide)]
      have hord := order_sv (a := a + 9223372036854775808) (c := 0) hb (by decide) (by rw [e]; exact hi) (by decide)
      have hsv : sv (a + 9223372036854775808) = -(vl a : Int) := by unfold sv; rw [if_neg (by omega), e]
      have hsv0 : sv 0 = 0 := by unfold sv; rw [if_pos (by decide), show vl (0 % 9223372036854775808) = 0 by decide]; rfl
      rw [hord, hsv, hsv0] at hS
      have hv : vl a = 0 := by
        rcases Nat.eq_zero_or_pos (vl a) with h6 | h6
        · exact h6
        · rw [Int.compare_eq_lt.2 (by omega)] at hS; cases hS
      refine order_sv_eq (by omega) hb (by rw [Nat.mod_eq_of_lt (by omega)]; exact hi) (by rw [e]; exact hi) ?_
      rw [hsv, hv]
      unfold sv
      rw [if_pos (by omega), Nat.mod_eq_of_lt (by omega), hv]
      rfl
    · rw [if_pos rfl]
      exact order_same hb (by rw [e]; exact hi)
theorem near_whole {a q : Nat} (ha : a < 9218868437227405312) (hv : vl a = q * kk) : near q 1 = a :=
  near_exact (by decide) (by rw [Nat.mul_one]; exact hv.symm) (Nat.le_of_lt ha)
theorem blanks_ws (i : Nat) : ∀ c ∈ List.replicate i (32 : UInt8), wsL.contains c = true := by
  intro c hc
  rw [(List.mem_replicate.1 hc).2]; decide
theorem ends_ws (i : Nat) : ∀ c ∈ List.replicate i (10 : UInt8), wsL.contains c = true := by
  intro c hc
  rw [(List.mem_replicate.1 hc).2]; decide
theorem ends_stop (i : Nat) (x : List UInt8) (hx : x = [] ∨ x = [120]) : ∀ c r, List.replicate i (10 : UInt8) ++ x = c :: r → digs.contains c = false ∧ c ≠ 46 ∧ c ≠ 101 ∧ c ≠ 69 := by
  intro c r h
  cases i with
  | zero =>
    rcases hx with rfl | rfl
    · cases h
    · injection h with h1 h2
      rw [← h1]; decide
  | succ i =>
    rw [List.replicate_succ, List.cons_append] at h
    injection h with h1 h2
    rw [← h1]; decide
theorem around (i : Nat) (L : List UInt8) : (32 : UInt8) :: ((List.replicate i 32 ++ (L ++ List.replicate i 10)) ++ [10]) = List.replicate (i + 1) 32 ++ (L ++ List.replicate (i + 1) 10) := by
  rw [List.replicate_succ (n := i) (a := (32 : UInt8)), List.replicate_succ' (n := i) (a := (10 : UInt8))]
  simp

end Go.Proofs.YtcmpdamfeoaapaaGreatDoor
