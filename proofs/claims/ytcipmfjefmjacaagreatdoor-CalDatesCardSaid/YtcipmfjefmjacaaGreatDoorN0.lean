/- Numbers as lists of limbs: plain facts, no program in sight. -/
import Init
namespace Go.Proofs.YtcipmfjefmjacaaGreatDoor
set_option linter.unusedVariables false

/-- two to the 32 -/
abbrev B32 : Nat := 4294967296

def val : List Nat → Nat
  | [] => 0
  | x :: l => x + B32 * val l

theorem val_append : ∀ (xs ys : List Nat), val (xs ++ ys) = val xs + B32 ^ xs.length * val ys
  | [], ys => by simp [val]
  | x :: l, ys => by
    simp only [List.cons_append, val, val_append l ys, List.length_cons, Nat.pow_succ, Nat.mul_add]
    rw [Nat.mul_comm (B32 ^ l.length) B32, Nat.mul_assoc]; omega

theorem val_lt : ∀ (L : List Nat), (∀ x ∈ L, x < B32) → val L < B32 ^ L.length
  | [], _ => by simp [val]
  | x :: l, h => by
    have h1 := h x (by simp)
    have h2 := val_lt l (fun y hy => h y (by simp [hy]))
    simp only [val, List.length_cons, Nat.pow_succ]
    have h3 : B32 * (val l + 1) ≤ B32 * B32 ^ l.length := Nat.mul_le_mul_left _ h2
    rw [Nat.mul_comm (B32 ^ l.length)]
    rw [Nat.mul_add] at h3
    omega

theorem val_set : ∀ (L : List Nat) (i y : Nat) (h : i < L.length), val (L.set i y) + L[i] * B32 ^ i = val L + y * B32 ^ i
  | x :: l, 0, y, _ => by simp [val]; omega
  | x :: l, i + 1, y, h => by
    have ih := val_set l i y (by simpa using h)
    simp only [List.set_cons_succ, val, List.getElem_cons_succ, Nat.pow_succ]
    have e1 : l[i]'(by simpa using h) * (B32 ^ i * B32) = B32 * (l[i]'(by simpa using h) * B32 ^ i) := by
      rw [Nat.mul_comm (B32 ^ i) B32, ← Nat.mul_assoc, Nat.mul_comm _ B32, Nat.mul_assoc]
    have e2 : y * (B32 ^ i * B32) = B32 * (y * B32 ^ i) := by
      rw [Nat.mul_comm (B32 ^ i) B32, ← Nat.mul_assoc, Nat.mul_comm _ B32, Nat.mul_assoc]
    rw [e1, e2, Nat.add_assoc, ← Nat.mul_add, ih, Nat.mul_add, Nat.add_assoc]

theorem val_zeros : ∀ (n : Nat), val (List.replicate n 0) = 0
  | 0 => rfl
  | n + 1 => by simp [List.replicate_succ, val, val_zeros n]

/-- without noughts at the top -/
def trimL : List Nat → List Nat
  | [] => []
  | x :: l => if x = 0 ∧ trimL l = [] then [] else x :: trimL l

theorem trimL_snoc_zero : ∀ (l : List Nat), trimL (l ++ [0]) = trimL l
  | [] => by simp [trimL]
  | x :: l => by simp only [List.cons_append, trimL, trimL_snoc_zero l]
theorem trimL_snoc_pos (x : Nat) (hx : x ≠ 0) : ∀ (l : List Nat), trimL (l ++ [x]) = l ++ [x]
  | [] => by simp [trimL, hx]
  | y :: l => by simp [trimL, trimL_snoc_pos x hx l]
theorem trimL_prefix : ∀ (l : List Nat), trimL l = l.take (trimL l).length
  | [] => rfl
  | x :: l => by
    unfold trimL
    split
    · simp
    · simp [← trimL_prefix l]
theorem trimL_length_le (l : List Nat) : (trimL l).length ≤ l.length := by
  have := congrArg List.length (trimL_prefix l)
  simp at this; omega
theorem trimL_mem {l : List Nat} {x : Nat} (h : x ∈ trimL l) : x ∈ l := by
  rw [trimL_prefix] at h; exact List.mem_of_mem_take h
theorem val_trimL : ∀ (l : List Nat), val (trimL l) = val l
  | [] => rfl
  | x :: l => by
    unfold trimL
    split
    · rename_i h
      have := val_trimL l
      rw [h.2] at this
      simp [val, h.1, ← this]
    · simp [val, val_trimL l]

/-- the limbs of a number, the lowest first -/
def limbs (n : Nat) : List Nat := if h : n = 0 then [] else n % B32 :: limbs (n / B32)
termination_by n
decreasing_by exact Nat.div_lt_self (Nat.pos_of_ne_zero h) (by decide)

theorem limbs_zero : limbs 0 = [] := by unfold limbs; simp
theorem limbs_pos {n : Nat} (h : n ≠ 0) : limbs n = n % B32 :: limbs (n / B32) := by
  conv => lhs; unfold limbs
  simp [h]
theorem limbs_lt (n : Nat) : ∀ x ∈ limbs n, x < B32 := by
  induction n using Nat.strongRecOn with
  | _ n ih =>
    by_cases h : n = 0
    · subst h; simp [limbs_zero]
    · rw [limbs_pos h]
      intro x hx
      rcases List.mem_cons.1 hx with rfl | hx
      · exact Nat.mod_lt _ (by decide)
      · exact ih _ (Nat.div_lt_self (Nat.pos_of_ne_zero h) (by decide)) x hx
theorem val_limbs (n : Nat) : val (limbs n) = n := by
  induction n using Nat.strongRecOn with
  | _ n ih =>
    by_cases h : n = 0
    · subst h; simp [limbs_zero, val]
    · rw [limbs_pos h, val, ih _ (Nat.div_lt_self (Nat.pos_of_ne_zero h) (by decide))]
      exact Nat.mod_add_div n B32
theorem trimL_limbs : ∀ (l : List Nat), (∀ x ∈ l, x < B32) → trimL l = limbs (val l)
  | [], _ => by simp [trimL, val, limbs_zero]
  | x :: l, h => by
    have h1 := h x (by simp)
    have ih := trimL_limbs l (fun y hy => h y (by simp [hy]))
    have e1 : (x + B32 * val l) % B32 = x := by rw [Nat.add_mul_mod_self_left, Nat.mod_eq_of_lt h1]
    have e2 : (x + B32 * val l) / B32 = val l := by
      rw [Nat.add_mul_div_left _ _ (by decide), Nat.div_eq_of_lt h1]; omega
    by_cases hz : x + B32 * val l = 0
    · have hx : x = 0 := by omega
      have hv : val l = 0 := by have : B32 * val l = 0 := by omega
                                rcases Nat.mul_eq_zero.1 this with h | h; exact absurd h (by decide); exact h
      rw [hv, limbs_zero] at ih
      simp only [trimL, hx, ih, val, hv]
      simp [limbs_zero]
    · rw [val, limbs_pos hz, e1, e2]
      unfold trimL
      rw [if_neg, ih]
      intro hh
      rw [ih] at hh
      have : val (limbs (val l)) = 0 := by rw [hh.2]; rfl
      rw [val_limbs] at this
      rw [hh.1, this] at hz
      simp at hz
theorem limbs_length_le {n k : Nat} (h : n < B32 ^ k) : (limbs n).length ≤ k := by
  induction k generalizing n with
  | zero => have : n = 0 := by simpa using h
            subst this; simp [limbs_zero]
  | succ k ih =>
    by_cases hz : n = 0
    · subst hz; simp [limbs_zero]
    · rw [limbs_pos hz]
      have : n / B32 < B32 ^ k := by
        rw [Nat.div_lt_iff_lt_mul (by decide)]; rw [Nat.pow_succ] at h; exact h
      have := ih this
      simp; omega
theorem lt_of_limbs_length {n k : Nat} (h : (limbs n).length ≤ k) : n < B32 ^ k := by
  have := val_lt (limbs n) (limbs_lt n)
  rw [val_limbs] at this
  exact Nat.lt_of_lt_of_le this (Nat.pow_le_pow_right (by decide) h)
theorem limbs_last {n : Nat} (h : limbs n ≠ []) : (limbs n).getLast h ≠ 0 := by
  induction n using Nat.strongRecOn with
  | _ n ih =>
    have hz : n ≠ 0 := fun e => h (by rw [e, limbs_zero])
    by_cases hq : n / B32 = 0
    · have e : limbs n = [n % B32] := by rw [limbs_pos hz, hq, limbs_zero]
      have hm : n % B32 = n := Nat.mod_eq_of_lt (by
        rcases Nat.lt_or_ge n B32 with h | h
        · exact h
        · exact absurd hq (Nat.ne_of_gt (Nat.div_pos h (by decide))))
      simp only [e, List.getLast_singleton, hm]; exact hz
    · have hne : limbs (n / B32) ≠ [] := by rw [limbs_pos hq]; simp
      have e : limbs n = n % B32 :: limbs (n / B32) := limbs_pos hz
      simp only [e, List.getLast_cons hne]
      exact ih _ (Nat.div_lt_self (Nat.pos_of_ne_zero hz) (by decide)) hne
theorem limbs_eq_nil {n : Nat} : limbs n = [] ↔ n = 0 := by
  constructor
  · intro h; have := val_limbs n; rw [h] at this; exact this.symm
  · intro h; rw [h, limbs_zero]
theorem limbs_len_lt {x y : Nat} (h : (limbs x).length < (limbs y).length) : x < y := by
  rcases Nat.lt_or_ge x y with h1 | h1
  · exact h1
  · have h2 : x < B32 ^ (limbs x).length := lt_of_limbs_length (Nat.le_refl _)
    have h3 := limbs_length_le (Nat.lt_of_le_of_lt h1 h2)
    omega
theorem limbs_inj {x y : Nat} (h : limbs x = limbs y) : x = y := by rw [← val_limbs x, h, val_limbs]
/-- the first limb from the top that parts two lists decides -/
theorem val_lt_of_top {X Y : List Nat} (hX : ∀ x ∈ X, x < B32) (k : Nat) (h1 : k < X.length) (h2 : k < Y.length) (hd : X.drop (k + 1) = Y.drop (k + 1)) (hlt : X[k] < Y[k]) : val X < val Y := by
  have eX : X = X.take k ++ X[k] :: X.drop (k + 1) := by rw [← List.drop_eq_getElem_cons h1, List.take_append_drop]
  have eY : Y = Y.take k ++ Y[k] :: Y.drop (k + 1) := by rw [← List.drop_eq_getElem_cons h2, List.take_append_drop]
  have vX := congrArg val eX
  have vY := congrArg val eY
  rw [val_append] at vX vY
  simp only [val, List.length_take, Nat.min_eq_left (Nat.le_of_lt h1), Nat.min_eq_left (Nat.le_of_lt h2)] at vX vY
  have hb := val_lt (X.take k) (fun x hx => hX x (List.mem_of_mem_take hx))
  simp only [List.length_take, Nat.min_eq_left (Nat.le_of_lt h1)] at hb
  rw [hd] at vX
  have hm : B32 ^ k * (X[k] + 1) ≤ B32 ^ k * Y[k] := Nat.mul_le_mul_left _ hlt
  rw [vX, vY, Nat.mul_add, Nat.mul_add]
  rw [Nat.mul_add] at hm
  omega
theorem p2_le {a b : Nat} (h : a ≤ b) : (2 : Nat) ^ a ≤ 2 ^ b := Nat.pow_le_pow_right (by decide) h
theorem p2_lt {a b : Nat} (h : a < b) : (2 : Nat) ^ a < 2 ^ b := Nat.pow_lt_pow_right (by decide) h
theorem p10_le {a b : Nat} (h : a ≤ b) : (10 : Nat) ^ a ≤ 10 ^ b := Nat.pow_le_pow_right (by decide) h
theorem two_ten (k : Nat) : (2 : Nat) ^ k ≤ 10 ^ k := Nat.pow_le_pow_left (by decide) k
theorem b32_pow (k : Nat) : B32 ^ k = 2 ^ (32 * k) := by rw [show B32 = 2 ^ 32 by decide, ← Nat.pow_mul]
theorem thousand {i : Nat} (h : 0 < i) : (10 : Nat) ^ (3 * i) < 2 ^ (10 * i) := by
  rw [Nat.pow_mul, Nat.pow_mul]; exact Nat.pow_lt_pow_left (by decide) (by omega)
theorem tens {i : Nat} (h : 0 < i) : (10 : Nat) ^ (31 * i) < 2 ^ (103 * i) := by
  rw [Nat.pow_mul, Nat.pow_mul]; exact Nat.pow_lt_pow_left (by decide) (by omega)
end Go.Proofs.YtcipmfjefmjacaaGreatDoor
