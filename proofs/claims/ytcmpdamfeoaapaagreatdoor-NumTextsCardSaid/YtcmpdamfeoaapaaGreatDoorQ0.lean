/- Numbers as lists of pieces of four decimal digits: plain facts, no program in sight. -/
import Derived.Test.YtcmpdamfeoaapaaGreatDoorM1
namespace Go.Proofs.YtcmpdamfeoaapaaGreatDoor
set_option linter.unusedVariables false

/-- the base of the reference's numbers -/
abbrev B4 : Nat := 10000

def val4 : List Nat → Nat
  | [] => 0
  | x :: l => x + B4 * val4 l

theorem val4_append : ∀ (xs ys : List Nat), val4 (xs ++ ys) = val4 xs + B4 ^ xs.length * val4 ys
  | [], ys => by simp [val4]
  | x :: l, ys => by
    simp only [List.cons_append, val4, val4_append l ys, List.length_cons, Nat.pow_succ, Nat.mul_add]
    rw [Nat.mul_comm (B4 ^ l.length) B4, Nat.mul_assoc]; omega

theorem val4_lt : ∀ (L : List Nat), (∀ x ∈ L, x < B4) → val4 L < B4 ^ L.length
  | [], _ => by simp [val4]
  | x :: l, h => by
    have h1 := h x (by simp)
    have h2 := val4_lt l (fun y hy => h y (by simp [hy]))
    simp only [val4, List.length_cons, Nat.pow_succ]
    have h3 : B4 * (val4 l + 1) ≤ B4 * B4 ^ l.length := Nat.mul_le_mul_left _ h2
    rw [Nat.mul_comm (B4 ^ l.length)]
    rw [Nat.mul_add] at h3
    omega

theorem val4_set : ∀ (L : List Nat) (i y : Nat) (h : i < L.length), val4 (L.set i y) + L[i] * B4 ^ i = val4 L + y * B4 ^ i
  | x :: l, 0, y, _ => by simp [val4]; omega
  | x :: l, i + 1, y, h => by
    have ih := val4_set l i y (by simpa using h)
    simp only [List.set_cons_succ, val4, List.getElem_cons_succ, Nat.pow_succ]
    have e1 : l[i]'(by simpa using h) * (B4 ^ i * B4) = B4 * (l[i]'(by simpa using h) * B4 ^ i) := by
      rw [Nat.mul_comm (B4 ^ i) B4, ← Nat.mul_assoc, Nat.mul_comm _ B4, Nat.mul_assoc]
    have e2 : y * (B4 ^ i * B4) = B4 * (y * B4 ^ i) := by
      rw [Nat.mul_comm (B4 ^ i) B4, ← Nat.mul_assoc, Nat.mul_comm _ B4, Nat.mul_assoc]
    rw [e1, e2, Nat.add_assoc, ← Nat.mul_add, ih, Nat.mul_add, Nat.add_assoc]

theorem val4_zeros : ∀ (n : Nat), val4 (List.replicate n 0) = 0
  | 0 => rfl
  | n + 1 => by simp [List.replicate_succ, val4, val4_zeros n]

theorem val4_trimL : ∀ (l : List Nat), val4 (trimL l) = val4 l
  | [] => rfl
  | x :: l => by
    unfold trimL
    split
    · rename_i h
      have := val4_trimL l
      rw [h.2] at this
      simp [val4, h.1, ← this]
    · simp [val4, val4_trimL l]

/-- the lim4 of a number, the lowest first -/
def lim4 (n : Nat) : List Nat := if h : n = 0 then [] else n % B4 :: lim4 (n / B4)
termination_by n
decreasing_by exact Nat.div_lt_self (Nat.pos_of_ne_zero h) (by decide)

theorem lim4_zero : lim4 0 = [] := by unfold lim4; simp
theorem lim4_pos {n : Nat} (h : n ≠ 0) : lim4 n = n % B4 :: lim4 (n / B4) := by
  conv => lhs; unfold lim4
  simp [h]
theorem lim4_lt (n : Nat) : ∀ x ∈ lim4 n, x < B4 := by
  induction n using Nat.strongRecOn with
  | _ n ih =>
    by_cases h : n = 0
    · subst h; simp [lim4_zero]
    · rw [lim4_pos h]
      intro x hx
      rcases List.mem_cons.1 hx with rfl | hx
      · exact Nat.mod_lt _ (by decide)
      · exact ih _ (Nat.div_lt_self (Nat.pos_of_ne_zero h) (by decide)) x hx
theorem val4_lim4 (n : Nat) : val4 (lim4 n) = n := by
  induction n using Nat.strongRecOn with
  | _ n ih =>
    by_cases h : n = 0
    · subst h; simp [lim4_zero, val4]
    · rw [lim4_pos h, val4, ih _ (Nat.div_lt_self (Nat.pos_of_ne_zero h) (by decide))]
      exact Nat.mod_add_div n B4
theorem trimL_lim4 : ∀ (l : List Nat), (∀ x ∈ l, x < B4) → trimL l = lim4 (val4 l)
  | [], _ => by simp [trimL, val4, lim4_zero]
  | x :: l, h => by
    have h1 := h x (by simp)
    have ih := trimL_lim4 l (fun y hy => h y (by simp [hy]))
    have e1 : (x + B4 * val4 l) % B4 = x := by rw [Nat.add_mul_mod_self_left, Nat.mod_eq_of_lt h1]
    have e2 : (x + B4 * val4 l) / B4 = val4 l := by
      rw [Nat.add_mul_div_left _ _ (by decide), Nat.div_eq_of_lt h1]; omega
    by_cases hz : x + B4 * val4 l = 0
    · have hx : x = 0 := by omega
      have hv : val4 l = 0 := by
        have : B4 * val4 l = 0 := by omega
        rcases Nat.mul_eq_zero.1 this with h | h; exact absurd h (by decide); exact h
      rw [hv, lim4_zero] at ih
      simp only [trimL, hx, ih, val4, hv]
      simp [lim4_zero]
    · rw [val4, lim4_pos hz, e1, e2]
      unfold trimL
      rw [if_neg, ih]
      intro hh
      rw [ih] at hh
      have : val4 (lim4 (val4 l)) = 0 := by rw [hh.2]; rfl
      rw [val4_lim4] at this
      rw [hh.1, this] at hz
      simp at hz
theorem lim4_length_le {n k : Nat} (h : n < B4 ^ k) : (lim4 n).length ≤ k := by
  induction k generalizing n with
  | zero => have : n = 0 := by simpa using h
            subst this; simp [lim4_zero]
  | succ k ih =>
    by_cases hz : n = 0
    · subst hz; simp [lim4_zero]
    · rw [lim4_pos hz]
      have : n / B4 < B4 ^ k := by
        rw [Nat.div_lt_iff_lt_mul (by decide)]; rw [Nat.pow_succ] at h; exact h
      have := ih this
      simp; omega
theorem lt_of_lim4_length {n k : Nat} (h : (lim4 n).length ≤ k) : n < B4 ^ k := by
  have := val4_lt (lim4 n) (lim4_lt n)
  rw [val4_lim4] at this
  exact Nat.lt_of_lt_of_le this (Nat.pow_le_pow_right (by decide) h)
theorem lim4_last {n : Nat} (h : lim4 n ≠ []) : (lim4 n).getLast h ≠ 0 := by
  induction n using Nat.strongRecOn with
  | _ n ih =>
    have hz : n ≠ 0 := fun e => h (by rw [e, lim4_zero])
    by_cases hq : n / B4 = 0
    · have e : lim4 n = [n % B4] := by rw [lim4_pos hz, hq, lim4_zero]
      have hm : n % B4 = n := Nat.mod_eq_of_lt (by
        rcases Nat.lt_or_ge n B4 with h | h
        · exact h
        · exact absurd hq (Nat.ne_of_gt (Nat.div_pos h (by decide))))
      simp only [e, List.getLast_singleton, hm]; exact hz
    · have hne : lim4 (n / B4) ≠ [] := by rw [lim4_pos hq]; simp
      have e : lim4 n = n % B4 :: lim4 (n / B4) := lim4_pos hz
      simp only [e, List.getLast_cons hne]
      exact ih _ (Nat.div_lt_self (Nat.pos_of_ne_zero hz) (by decide)) hne
theorem lim4_eq_nil {n : Nat} : lim4 n = [] ↔ n = 0 := by
  constructor
  · intro h; have := val4_lim4 n; rw [h] at this; exact this.symm
  · intro h; rw [h, lim4_zero]
theorem lim4_len_lt {x y : Nat} (h : (lim4 x).length < (lim4 y).length) : x < y := by
  rcases Nat.lt_or_ge x y with h1 | h1
  · exact h1
  · have h2 : x < B4 ^ (lim4 x).length := lt_of_lim4_length (Nat.le_refl _)
    have h3 := lim4_length_le (Nat.lt_of_le_of_lt h1 h2)
    omega
theorem lim4_inj {x y : Nat} (h : lim4 x = lim4 y) : x = y := by rw [← val4_lim4 x, h, val4_lim4]
/-- the first limb from the top that parts two lists decides -/
theorem val4_lt_of_top {X Y : List Nat} (hX : ∀ x ∈ X, x < B4) (k : Nat) (h1 : k < X.length) (h2 : k < Y.length) (hd : X.drop (k + 1) = Y.drop (k + 1)) (hlt : X[k] < Y[k]) : val4 X < val4 Y := by
  have eX : X = X.take k ++ X[k] :: X.drop (k + 1) := by rw [← List.drop_eq_getElem_cons h1, List.take_append_drop]
  have eY : Y = Y.take k ++ Y[k] :: Y.drop (k + 1) := by rw [← List.drop_eq_getElem_cons h2, List.take_append_drop]
  have vX := congrArg val4 eX
  have vY := congrArg val4 eY
  rw [val4_append] at vX vY
  simp only [val4, List.length_take, Nat.min_eq_left (Nat.le_of_lt h1), Nat.min_eq_left (Nat.le_of_lt h2)] at vX vY
  have hb := val4_lt (X.take k) (fun x hx => hX x (List.mem_of_mem_take hx))
  simp only [List.length_take, Nat.min_eq_left (Nat.le_of_lt h1)] at hb
  rw [hd] at vX
  have hm : B4 ^ k * (X[k] + 1) ≤ B4 ^ k * Y[k] := Nat.mul_le_mul_left _ hlt
  rw [vX, vY, Nat.mul_add, Nat.mul_add]
  rw [Nat.mul_add] at hm
  omega
theorem lim4_of {L : List Nat} (h : ∀ x ∈ L, x < B4) (hl : ∀ hne : L ≠ [], L.getLast hne ≠ 0) : L = lim4 (val4 L) := by
  rw [← trimL_lim4 L h]
  rcases List.eq_nil_or_concat L with rfl | ⟨m, x, rfl⟩
  · rfl
  · rw [List.concat_eq_append]
    have := hl (by simp)
    rw [trimL_snoc_pos x (by simpa using this)]
theorem b4_pow (k : Nat) : B4 ^ k = 10 ^ (4 * k) := by rw [show B4 = 10 ^ 4 by decide, ← Nat.pow_mul]
end Go.Proofs.YtcmpdamfeoaapaaGreatDoor
