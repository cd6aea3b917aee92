/- Package nat: Div, bit by bit. -/
import Derived.Test.YtcipmfjefmjacaaGreatDoorN8
namespace Go.Proofs.YtcipmfjefmjacaaGreatDoor
open Go.RowKit
set_option linter.unusedVariables false

/-- one limb of a number -/
theorem limb_get {L : List Nat} (hL : ∀ x ∈ L, x < B32) {t : Nat} (h : t < L.length) : L[t] = val L / B32 ^ t % B32 := by
  have e : L = L.take t ++ (L[t] :: L.drop (t + 1)) := by rw [← List.drop_eq_getElem_cons h, List.take_append_drop]
  have hb := val_lt (L.take t) (fun x hx => hL x (List.mem_of_mem_take hx))
  have hl : (L.take t).length = t := by simp; omega
  rw [hl] at hb
  have hx := hL _ (List.getElem_mem h)
  have hv : val L = val (L.take t) + B32 ^ t * (L[t] + B32 * val (L.drop (t + 1))) := by
    conv => lhs; rw [e]
    rw [val_append, hl, val]
  rw [hv, Nat.add_mul_div_left _ _ (Nat.pow_pos (by decide)), Nat.div_eq_of_lt hb, Nat.zero_add, Nat.add_mul_mod_self_left, Nat.mod_eq_of_lt hx]

theorem bit_of {L : List Nat} (hL : ∀ x ∈ L, x < B32) {i : Nat} (h : i / 32 < L.length) : L[i / 32] / 2 ^ (i % 32) % 2 = val L / 2 ^ i % 2 := by
  rw [limb_get hL h]
  have hs : i % 32 < 32 := Nat.mod_lt _ (by decide)
  have hB : B32 = 2 ^ (i % 32) * 2 ^ (32 - i % 32) := by rw [← Nat.pow_add, show i % 32 + (32 - i % 32) = 32 by omega]
  have hi : i = 32 * (i / 32) + i % 32 := (Nat.div_add_mod i 32).symm
  have e1 : val L / 2 ^ i = val L / B32 ^ (i / 32) / 2 ^ (i % 32) := by
    rw [Nat.div_div_eq_div_mul, show B32 ^ (i / 32) * 2 ^ (i % 32) = 2 ^ i by rw [show B32 = 2 ^ 32 from rfl, ← Nat.pow_mul, ← Nat.pow_add, ← hi]]
  rw [e1, hB, Nat.mod_mul_right_div_self]
  obtain ⟨m, hm⟩ : ∃ m, 32 - i % 32 = m + 1 := ⟨31 - i % 32, by omega⟩
  rw [hm, Nat.pow_succ, Nat.mod_mul_left_mod]

theorem set_bit {L : List Nat} (hL : ∀ x ∈ L, x < B32) {i c : Nat} (h : i / 32 < L.length) (hv : val L = c * 2 ^ (i + 1)) :
    L[i / 32] ||| 2 ^ (i % 32) = L[i / 32] + 2 ^ (i % 32) ∧ L[i / 32] + 2 ^ (i % 32) < B32 ∧ val (L.set (i / 32) (L[i / 32] + 2 ^ (i % 32))) = val L + 2 ^ i := by
  have hs : i % 32 < 32 := Nat.mod_lt _ (by decide)
  have hi : i = 32 * (i / 32) + i % 32 := (Nat.div_add_mod i 32).symm
  have hx := hL _ (List.getElem_mem h)
  have hg := limb_get hL h
  have hB : B32 = 2 ^ (i % 32 + 1) * 2 ^ (31 - i % 32) := by rw [← Nat.pow_add, show i % 32 + 1 + (31 - i % 32) = 32 by omega]
  have e1 : val L / B32 ^ (i / 32) = c * 2 ^ (i % 32 + 1) := by
    rw [hv, show (2 : Nat) ^ (i + 1) = B32 ^ (i / 32) * 2 ^ (i % 32 + 1) by rw [show B32 = 2 ^ 32 from rfl, ← Nat.pow_mul, ← Nat.pow_add]; congr 1; omega]
    rw [show c * (B32 ^ (i / 32) * 2 ^ (i % 32 + 1)) = B32 ^ (i / 32) * (c * 2 ^ (i % 32 + 1)) by ac_rfl, Nat.mul_div_cancel_left _ (Nat.pow_pos (by decide))]
  have hmod : L[i / 32] % 2 ^ (i % 32 + 1) = 0 := by
    rw [hg, e1]
    conv => lhs; arg 1; arg 2; rw [hB]
    rw [Nat.mod_mul_right_mod, Nat.mul_mod_left]
  have hor : L[i / 32] ||| 2 ^ (i % 32) = L[i / 32] + 2 ^ (i % 32) := nat_join (i % 32 + 1) _ _ hmod (Nat.pow_lt_pow_right (by decide) (by omega))
  refine ⟨hor, ?_, ?_⟩
  · obtain ⟨m, hm⟩ : ∃ m, L[i / 32] = 2 ^ (i % 32 + 1) * m := ⟨L[i / 32] / 2 ^ (i % 32 + 1), by rw [Nat.mul_div_cancel' (Nat.dvd_of_mod_eq_zero hmod)]⟩
    rw [hm] at hx ⊢
    have hlt : m < 2 ^ (31 - i % 32) := by
      rw [hB] at hx; exact Nat.lt_of_mul_lt_mul_left hx
    have h2 : 2 ^ (i % 32 + 1) * (m + 1) ≤ 2 ^ (i % 32 + 1) * 2 ^ (31 - i % 32) := Nat.mul_le_mul_left _ hlt
    rw [← hB, Nat.mul_add] at h2
    have h3 : 2 ^ (i % 32) < 2 ^ (i % 32 + 1) := Nat.pow_lt_pow_right (by decide) (by omega)
    omega
  · have hvs := val_set L (i / 32) (L[i / 32] + 2 ^ (i % 32)) h
    have e2 : (2 : Nat) ^ i = 2 ^ (i % 32) * B32 ^ (i / 32) := by rw [show B32 = 2 ^ 32 from rfl, ← Nat.pow_mul, ← Nat.pow_add]; congr 1; omega
    rw [Nat.add_mul, ← e2] at hvs
    omega

theorem double_step {R R' : List Nat} {j bt b0 : Nat} (hj : j < R.length) (hl : R'.length = R.length) (hv : val (R'.take j) + bt * B32 ^ j = 2 * val (R.take j) + b0) :
    val ((R'.set j ((R[j] * 2) % 4294967296 + bt)).take (j + 1)) + R[j] / 2147483648 * B32 ^ (j + 1) = 2 * val (R.take (j + 1)) + b0 := by
  rw [val_take_snoc (Y := R'.set j _) (by simp; omega), val_take_snoc hj, List.take_set_of_le (Nat.le_refl j)]
  simp only [List.getElem_set_self, Nat.pow_succ]
  have e : (R[j] * 2) % 4294967296 + R[j] / 2147483648 * B32 = R[j] * 2 := by rw [B32]; omega
  have e2 : ((R[j] * 2) % 4294967296 + R[j] / 2147483648 * B32) * B32 ^ j = R[j] * 2 * B32 ^ j := by rw [e]
  simp only [Nat.add_mul, Nat.mul_add] at e2 ⊢
  rw [show R[j] / 2147483648 * (B32 ^ j * B32) = R[j] / 2147483648 * B32 * B32 ^ j by ac_rfl]
  rw [show 2 * (R[j] * B32 ^ j) = R[j] * 2 * B32 ^ j by ac_rfl]
  omega

theorem div_bit (x y k : Nat) (hy : 0 < y) : x / 2 ^ k / y = 2 * (x / 2 ^ (k + 1) / y) + (2 * (x / 2 ^ (k + 1) % y) + x / 2 ^ k % 2) / y ∧ x / 2 ^ k % y = (2 * (x / 2 ^ (k + 1) % y) + x / 2 ^ k % 2) % y := by
  have e : x / 2 ^ k = 2 * (x / 2 ^ (k + 1)) + x / 2 ^ k % 2 := by
    rw [Nat.pow_succ, ← Nat.div_div_eq_div_mul]; omega
  have e2 : x / 2 ^ k = (2 * (x / 2 ^ (k + 1) % y) + x / 2 ^ k % 2) + y * (2 * (x / 2 ^ (k + 1) / y)) := by
    have h := Nat.div_add_mod (x / 2 ^ (k + 1)) y
    rw [show y * (2 * (x / 2 ^ (k + 1) / y)) = 2 * (y * (x / 2 ^ (k + 1) / y)) by ac_rfl]
    omega
  constructor
  · conv => lhs; rw [e2]
    rw [Nat.add_mul_div_left _ _ hy]; omega
  · conv => lhs; rw [e2]
    rw [Nat.add_mul_mod_self_left]
end Go.Proofs.YtcipmfjefmjacaaGreatDoor
