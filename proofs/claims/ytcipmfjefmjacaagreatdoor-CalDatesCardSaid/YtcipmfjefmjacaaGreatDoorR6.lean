/- Plain: the nearest float, in steps of the least one; greater numbers, greater floats. -/
import Derived.Test.YtcipmfjefmjacaaGreatDoorR5
namespace Go.Proofs.YtcipmfjefmjacaaGreatDoor
/-- the step of the float that is nearest to X/y (in steps of the least float) -/
structure Step (X y j : Nat) : Prop where
  lt : X < 2 ^ 53 * (2 ^ j * y)
  ge : j = 0 ∨ 2 ^ 52 * (2 ^ j * y) ≤ X
/-- its bits -/
def nb (X y j : Nat) : Nat := min (j * 2 ^ 52 + rnd X (2 ^ j * y)) 9218868437227405312

/-- the least float's share of one -/
def bias : Nat := 1074
def kk : Nat := 2 ^ bias
theorem pow2_gen {E : Int} {K : Nat} {k : Int} (hk : (K : Int) = k) (h : -k ≤ E) : 2 ^ (-E).toNat * 2 ^ (E + k).toNat = 2 ^ K * 2 ^ E.toNat := by
  rw [← Nat.pow_add, ← Nat.pow_add]
  exact congrArg (2 ^ ·) (by omega)
theorem pow2_gen1 {E : Int} {K : Nat} {k : Int} (hk : (K : Int) = k) (h : 1 - k ≤ E) : 2 ^ (-(E - 1)).toNat * 2 ^ (E + k).toNat = 2 * (2 ^ K * 2 ^ (E - 1).toNat) := by
  rw [← Nat.pow_add, ← Nat.pow_add, Nat.mul_comm 2, ← Nat.pow_succ]
  exact congrArg (2 ^ ·) (by omega)
theorem pow2_int {E : Int} (h : -1074 ≤ E) : 2 ^ (-E).toNat * 2 ^ (E + 1074).toNat = kk * 2 ^ E.toNat := pow2_gen (K := bias) (k := 1074) rfl h
theorem two53 : (2 : Nat) ^ 53 = 2 ^ 52 * 2 := by decide
theorem pow2_pos (k : Nat) : 0 < 2 ^ k := Nat.pow_pos (by decide)
theorem step_of_least {x y : Nat} {E : Int} (hx : 0 < x) (hy : 0 < y) (h : LeastE x y E) : -1074 ≤ E ∧ Step (x * kk) y (E + 1074).toNat := by
  have hge := h.ge
  have h1074 : -1074 ≤ E := by unfold e0 at hge; omega
  refine ⟨h1074, ?_, ?_⟩
  · have h1 := nbits_le.1 h.bits
    unfold qat at h1
    rw [Nat.div_lt_iff_lt_mul (Nat.mul_pos hy (pow2_pos _))] at h1
    have h2 := pow2_int h1074
    have h3 := Nat.mul_lt_mul_of_pos_right h1 (pow2_pos (E + 1074).toNat)
    have e1 : x * 2 ^ (-E).toNat * 2 ^ (E + 1074).toNat = x * kk * 2 ^ E.toNat := by rw [Nat.mul_assoc, h2, Nat.mul_assoc]
    have e2 : 2 ^ 53 * (y * 2 ^ E.toNat) * 2 ^ (E + 1074).toNat = 2 ^ 53 * (2 ^ (E + 1074).toNat * y) * 2 ^ E.toNat := by ac_rfl
    rw [e1, e2] at h3
    exact Nat.lt_of_mul_lt_mul_right h3
  · rcases Nat.eq_zero_or_pos (E + 1074).toNat with h0 | h0
    · exact .inl h0
    · refine .inr ?_
      -- one step lower there is no room
      have hlow : 2 ^ 53 * (y * 2 ^ (E - 1).toNat) ≤ x * 2 ^ (-(E - 1)).toNat := by
        by_cases hE : e0 x y ≤ E - 1
        · have h1 := h.least (E - 1) hE (by omega)
          have h2 : 2 ^ 53 ≤ qat x y (E - 1) := by
            rcases Nat.lt_or_ge (qat x y (E - 1)) (2 ^ 53) with h3 | h3
            · exact absurd (nbits_le.2 h3) h1
            · exact h3
          unfold qat at h2
          exact (Nat.le_div_iff_mul_le (Nat.mul_pos hy (pow2_pos _))).1 h2
        · exfalso
          have hEe : E = (nbits x : Int) - nbits y - 54 := by unfold e0 at hge hE; omega
          have hxb := (nbits_pos hx)
          have hyb := nbits_le.1 (Nat.le_refl (nbits y))
          have h1 := nbits_le.1 h.bits
          unfold qat at h1
          rw [Nat.div_lt_iff_lt_mul (Nat.mul_pos hy (pow2_pos _))] at h1
          have h2 : 2 ^ (nbits x - 1) * 2 ^ (-E).toNat ≤ x * 2 ^ (-E).toNat := Nat.mul_le_mul_right _ hxb.1
          have h3 : 2 ^ 53 * (y * 2 ^ E.toNat) < 2 ^ 53 * (2 ^ nbits y * 2 ^ E.toNat) := Nat.mul_lt_mul_of_pos_left (Nat.mul_lt_mul_of_pos_right hyb (pow2_pos _)) (pow2_pos _)
          have h4 : 2 ^ 53 * (2 ^ nbits y * 2 ^ E.toNat) ≤ 2 ^ (nbits x - 1) * 2 ^ (-E).toNat := by
            rw [← Nat.pow_add, ← Nat.pow_add, ← Nat.pow_add]
            exact Nat.pow_le_pow_right (by decide) (by omega)
          omega
      have h2 : 2 ^ (-(E - 1)).toNat * 2 ^ (E + 1074).toNat = 2 * (kk * 2 ^ (E - 1).toNat) := by exact pow2_gen1 (K := bias) (k := 1074) rfl (by omega)
      have h3 := Nat.mul_le_mul_right (2 ^ (E + 1074).toNat) hlow
      have e1 : x * 2 ^ (-(E - 1)).toNat * 2 ^ (E + 1074).toNat = x * kk * (2 * 2 ^ (E - 1).toNat) := by rw [Nat.mul_assoc, h2, Nat.mul_left_comm 2 kk, Nat.mul_assoc]
      have e2 : 2 ^ 53 * (y * 2 ^ (E - 1).toNat) * 2 ^ (E + 1074).toNat = 2 ^ 52 * (2 ^ (E + 1074).toNat * y) * (2 * 2 ^ (E - 1).toNat) := by rw [two53]; generalize (2 : Nat) ^ 52 = c; ac_rfl
      rw [e1, e2] at h3
      exact Nat.le_of_mul_le_mul_right h3 (Nat.mul_pos (by decide) (pow2_pos _))
theorem nearBits_nb {x y : Nat} {E : Int} (hy : 0 < y) (h : -1074 ≤ E) : nearBits x y E = nb (x * kk) y (E + 1074).toNat := by
  unfold nearBits nb
  refine congrArg (fun n => min ((E + 1074).toNat * 2 ^ 52 + n) 9218868437227405312) ?_
  refine rnd_same (Nat.mul_pos hy (pow2_pos _)) (Nat.mul_pos (pow2_pos _) hy) ?_
  have h2 := pow2_int h
  calc x * 2 ^ (-E).toNat * (2 ^ (E + 1074).toNat * y) = x * (2 ^ (-E).toNat * 2 ^ (E + 1074).toNat) * y := by ac_rfl
    _ = x * kk * (y * 2 ^ E.toNat) := by rw [h2]; generalize kk = K; ac_rfl

theorem step_le {X y j X' y' j' : Nat} (hy : 0 < y) (_ : 0 < y') (h : Step X y j) (h' : Step X' y' j') (hX : X * y' ≤ X' * y) : j ≤ j' := by
  rcases Nat.lt_or_ge j' j with hlt | hge
  · exfalso
    have h1 : 2 ^ 52 * (2 ^ j * y) ≤ X := by
      rcases h.ge with h0 | h0
      · omega
      · exact h0
    have h2 := h'.lt
    have h3 : 2 ^ 53 * (2 ^ j' * y') ≤ 2 ^ 52 * (2 ^ j * y') := by
      have e1 : 2 ^ 53 * (2 ^ j' * y') = 2 ^ 52 * (2 ^ (j' + 1) * y') := by rw [two53, Nat.pow_succ 2 j']; generalize (2 : Nat) ^ 52 = c; ac_rfl
      rw [e1]
      exact Nat.mul_le_mul_left _ (Nat.mul_le_mul_right _ (Nat.pow_le_pow_right (by decide) hlt))
    have h4 : 2 ^ 52 * (2 ^ j * y) * y' ≤ X * y' := Nat.mul_le_mul_right _ h1
    have h5 : X' * y < 2 ^ 52 * (2 ^ j * y') * y := Nat.mul_lt_mul_of_pos_right (Nat.lt_of_lt_of_le h2 h3) hy
    have e6 : 2 ^ 52 * (2 ^ j * y) * y' = 2 ^ 52 * (2 ^ j * y') * y := by ac_rfl
    omega
  · exact hge
theorem step_rnd_le {X y j : Nat} (hy : 0 < y) (h : Step X y j) : rnd X (2 ^ j * y) ≤ 2 ^ 53 := rnd_le_of (Nat.mul_pos (pow2_pos _) hy) (Nat.le_of_lt h.lt)
/-- a greater number has no lesser float -/
theorem nb_mono {X y j X' y' j' : Nat} (hy : 0 < y) (hy' : 0 < y') (h : Step X y j) (h' : Step X' y' j') (hX : X * y' ≤ X' * y) : nb X y j ≤ nb X' y' j' := by
  have hj := step_le hy hy' h h' hX
  have h1 := step_rnd_le hy h
  unfold nb
  rcases Nat.eq_or_lt_of_le hj with he | hlt
  · subst he
    have h2 := rnd_mono (x := X) (y := 2 ^ j * y) (x' := X') (y' := 2 ^ j * y') (Nat.mul_pos (pow2_pos _) hy) (Nat.mul_pos (pow2_pos _) hy') (by
      have e1 : X * (2 ^ j * y') = 2 ^ j * (X * y') := by ac_rfl
      have e2 : X' * (2 ^ j * y) = 2 ^ j * (X' * y) := by ac_rfl
      rw [e1, e2]; exact Nat.mul_le_mul_left _ hX)
    omega
  · have h3 : 2 ^ 52 ≤ rnd X' (2 ^ j' * y') := by
      rcases h'.ge with h0 | h0
      · omega
      · exact rnd_ge (Nat.mul_pos (pow2_pos _) hy') h0
    have h4 : (j + 1) * 2 ^ 52 ≤ j' * 2 ^ 52 := Nat.mul_le_mul_right _ hlt
    have e5 : (2 : Nat) ^ 53 = 2 ^ 52 + 2 ^ 52 := by decide
    rw [Nat.add_mul] at h4
    omega
theorem step_same {X y j X' y' j' : Nat} (hy : 0 < y) (hy' : 0 < y') (h : Step X y j) (h' : Step X' y' j') (hX : X * y' = X' * y) : nb X y j = nb X' y' j' :=
  Nat.le_antisymm (nb_mono hy hy' h h' (Nat.le_of_eq hX)) (nb_mono hy' hy h' h (Nat.le_of_eq hX.symm))
end Go.Proofs.YtcipmfjefmjacaaGreatDoor
