/- Plain: bits of a natural. -/
import Derived.Test.YtcipmfjefmjacaaGreatDoorR0
namespace Go.Proofs.YtcipmfjefmjacaaGreatDoor
theorem nbits_pos {m : Nat} (h : 0 < m) : 2 ^ (nbits m - 1) ≤ m ∧ 0 < nbits m := by
  have h2 : nbits m ≠ 0 := fun h3 => by have := nbits_le.1 (Nat.le_of_eq h3); simp at this; omega
  refine ⟨?_, by omega⟩
  rcases Nat.lt_or_ge m (2 ^ (nbits m - 1)) with h1 | h1
  · have := nbits_le.2 h1; omega
  · exact h1
theorem digVal_from (l : List UInt8) (n : Nat) : l.foldl (fun n c => 10 * n + (c.toNat - 48)) n = n * 10 ^ l.length + digVal l := by
  induction l generalizing n with
  | nil => simp [digVal]
  | cons c l ih =>
    have h1 := ih (10 * n + (c.toNat - 48))
    have h2 := ih (10 * 0 + (c.toNat - 48))
    simp only [digVal, List.foldl_cons, List.length_cons, Nat.pow_succ] at *
    rw [h1, h2, Nat.add_mul]
    simp only [Nat.mul_zero, Nat.zero_add]
    rw [← Nat.add_assoc]; congr 2; ac_rfl
theorem digVal_cons (c : UInt8) (l : List UInt8) : digVal (c :: l) = (c.toNat - 48) * 10 ^ l.length + digVal l := by
  have := digVal_from l (10 * 0 + (c.toNat - 48))
  simpa [digVal] using this
theorem digVal_lt {l : List UInt8} (h : Digits l) : digVal l < 10 ^ l.length := by
  induction l with
  | nil => simp [digVal]
  | cons c l ih =>
    have h1 := h c (by simp)
    have h2 := ih (fun x hx => h x (by simp [hx]))
    rw [digVal_cons, List.length_cons, Nat.pow_succ]
    have h3 : (c.toNat - 48) * 10 ^ l.length ≤ 9 * 10 ^ l.length := Nat.mul_le_mul_right _ (by omega)
    omega
end Go.Proofs.YtcipmfjefmjacaaGreatDoor
