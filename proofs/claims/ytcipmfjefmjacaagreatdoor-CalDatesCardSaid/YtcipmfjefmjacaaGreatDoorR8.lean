/- Plain: the nearest float as a function; the bounds of what is read. -/
import Derived.Test.YtcipmfjefmjacaaGreatDoorR7
import Derived.Lib.SlTrimSet
namespace Go.Proofs.YtcipmfjefmjacaaGreatDoor
open Go
/-- the step, reckoned -/
def stepOf (X y : Nat) : Nat := nbits (X / y) - 53
theorem stepOf_step (X : Nat) {y : Nat} (hy : 0 < y) : Step X y (stepOf X y) := by
  have h1 := nbits_le.1 (Nat.le_refl (nbits (X / y)))
  refine ⟨?_, ?_⟩
  · rw [Nat.div_lt_iff_lt_mul hy] at h1
    refine Nat.lt_of_lt_of_le h1 ?_
    rw [← Nat.mul_assoc, ← Nat.pow_add]
    exact Nat.mul_le_mul_right _ (Nat.pow_le_pow_right (by decide) (by unfold stepOf; omega))
  · rcases Nat.eq_zero_or_pos (stepOf X y) with h | h
    · exact .inl h
    · refine .inr ?_
      unfold stepOf at h
      have hq : 0 < X / y := by
        rcases Nat.eq_zero_or_pos (X / y) with h2 | h2
        · rw [h2] at h; have : nbits 0 = 0 := by decide
          omega
        · exact h2
      have h2 := (nbits_pos hq).1
      rw [Nat.le_div_iff_mul_le hy] at h2
      refine Nat.le_trans ?_ h2
      rw [← Nat.mul_assoc, ← Nat.pow_add]
      exact Nat.mul_le_mul_right _ (Nat.pow_le_pow_right (by decide) (by unfold stepOf; omega))
/-- the bits of the float nearest to x/y -/
def near (x y : Nat) : Nat := nb (x * kk) y (stepOf (x * kk) y)
theorem nearBits_near {x y : Nat} {E : Int} (hx : 0 < x) (hy : 0 < y) (h : LeastE x y E) : nearBits x y E = near x y := by
  obtain ⟨h1, h2⟩ := step_of_least hx hy h
  rw [nearBits_nb hy h1]
  exact step_same hy hy h2 (stepOf_step _ hy) rfl
theorem near_mono {x y x' y' : Nat} (hy : 0 < y) (hy' : 0 < y') (h : x * y' ≤ x' * y) : near x y ≤ near x' y' :=
  nb_mono hy hy' (stepOf_step _ hy) (stepOf_step _ hy') (by rw [Nat.mul_right_comm, Nat.mul_right_comm x']; exact Nat.mul_le_mul_right _ h)
theorem near_same {x y x' y' : Nat} (hy : 0 < y) (hy' : 0 < y') (h : x * y' = x' * y) : near x y = near x' y' :=
  Nat.le_antisymm (near_mono hy hy' (Nat.le_of_eq h)) (near_mono hy' hy (Nat.le_of_eq h.symm))
theorem near_le (x y : Nat) : near x y ≤ 9218868437227405312 := Nat.min_le_right _ _
theorem near_exact {x y b : Nat} (hy : 0 < y) (h : x * kk = mof b * (2 ^ jof b * y)) (hb : b ≤ 9218868437227405312) : near x y = b := by
  obtain ⟨h1, h2⟩ := nb_exact hy h hb
  rw [← h2]
  exact step_same hy hy (stepOf_step _ hy) h1 rfl
theorem near_close {x y b : Nat} (hy : 0 < y) (hb : b ≤ 9218868437227405312)
    (h1 : 20000000000000000 * (x * kk) ≤ 20000000000000000 * (mof b * (2 ^ jof b * y)) + x * kk)
    (h2 : 20000000000000000 * (mof b * (2 ^ jof b * y)) ≤ 20000000000000000 * (x * kk) + x * kk) : near x y = b :=
  nb_close hy hb (stepOf_step _ hy) h1 h2
theorem near_zero {y : Nat} (hy : 0 < y) : near 0 y = 0 := near_exact hy (by simp [mof]) (by omega)

theorem pow10_lt (j : Nat) : (10 : Nat) ^ j < 2 ^ (4 * j + 1) := by
  have h1 : (10 : Nat) ^ j ≤ 16 ^ j := Nat.pow_le_pow_left (by decide) j
  have h2 : (16 : Nat) ^ j = 2 ^ (4 * j) := by rw [show (16 : Nat) = 2 ^ 4 by decide, ← Nat.pow_mul]
  have h3 : (2 : Nat) ^ (4 * j) < 2 ^ (4 * j + 1) := Nat.pow_lt_pow_right (by decide) (by omega)
  omega
theorem read_x {D n : Nat} {e : Int} (hD : D < 10 ^ n) (hn : n ≤ 1024) (h1 : n + e ≤ 310) : nbits (D * 10 ^ e.toNat) ≤ 4100 := by
  have h2 : D * 10 ^ e.toNat < 10 ^ n * 10 ^ e.toNat := Nat.mul_lt_mul_of_pos_right hD (Nat.pow_pos (by decide))
  rw [← Nat.pow_add] at h2
  have h4 : nbits (D * 10 ^ e.toNat) ≤ 4 * (n + e.toNat) + 1 := nbits_le.2 (Nat.lt_trans h2 (pow10_lt _))
  omega
theorem read_pow {j : Nat} (h : j ≤ 1400) : nbits (10 ^ j) ≤ 5700 := by
  have h4 : nbits (10 ^ j) ≤ 4 * j + 1 := nbits_le.2 (pow10_lt j)
  omega
theorem read_d {D n : Nat} (hD : D < 10 ^ n) (hn : n ≤ 1024) : nbits D ≤ 4100 := by
  have h4 : nbits D ≤ 4 * n + 1 := nbits_le.2 (Nat.lt_trans hD (pow10_lt n))
  omega
theorem read_gen {D n u v : Nat} {e : Int} (ht : 10 ^ u < 2 ^ v) (hD : D < 10 ^ n) (h1 : n + e ≤ u) : nbits (D * 10 ^ e.toNat) ≤ v + nbits (10 ^ (-e).toNat) := by
  have h2 : D * 10 ^ e.toNat < 10 ^ n * 10 ^ e.toNat := Nat.mul_lt_mul_of_pos_right hD (Nat.pow_pos (by decide))
  rw [← Nat.pow_add] at h2
  have h3 : (10 : Nat) ^ (n + e.toNat) ≤ 10 ^ (u + (-e).toNat) := p10_le (by omega)
  rw [Nat.pow_add 10 u] at h3
  have h4 := nbits_le.1 (Nat.le_refl (nbits (10 ^ (-e).toNat)))
  have h5 := Nat.mul_lt_mul_of_lt_of_lt ht h4
  rw [← Nat.pow_add 2] at h5
  exact nbits_le.2 (Nat.lt_trans h2 (Nat.lt_of_le_of_lt h3 h5))
theorem read_v {D n : Nat} {e : Int} (hD : D < 10 ^ n) (h1 : n + e ≤ 310) : (nbits (D * 10 ^ e.toNat) : Int) - nbits (10 ^ (-e).toNat) ≤ 1100 := by
  have h := read_gen (u := 31 * 10) (v := 103 * 10) (tens (i := 10) (by decide)) hD (e := e) (by omega)
  omega

/-- the digits without the noughts ahead -/
def bare (l : List UInt8) : List UInt8 := l.dropWhile (· == 48)
/-- what Read answers for digits -/
def readB (l : List UInt8) (e : Int) : Nat :=
  if (bare l).length = 0 ∨ e < -4000 then 0
  else if 2000 < e ∨ 310 < (bare l).length + e then 9218868437227405312
  else if (bare l).length + e < -330 then 0
  else near (digVal (bare l) * 10 ^ e.toNat) (10 ^ (-e).toNat)
theorem bare_digits {l : List UInt8} (h : Digits l) : Digits (bare l) := fun c hc => h c ((List.dropWhile_sublist _).subset hc)
theorem bare_length (l : List UInt8) : (bare l).length ≤ l.length := (List.dropWhile_sublist _).length_le
theorem dw_nil (p : UInt8 → Bool) : ∀ l : List UInt8, l.dropWhile p = [] → ∀ x ∈ l, p x = true
  | [], _, x, hx => by simp at hx
  | c :: r, h, x, hx => by
    rw [List.dropWhile_cons] at h
    by_cases hc : p c = true
    · rw [if_pos hc] at h
      rcases List.mem_cons.1 hx with rfl | h2
      · exact hc
      · exact dw_nil p r h x h2
    · rw [if_neg hc] at h; simp at h
theorem dw_head (p : UInt8 → Bool) : ∀ (l : List UInt8) (x : UInt8) (r : List UInt8), l.dropWhile p = x :: r → p x = false
  | [], x, r, h => by simp at h
  | c :: l, x, r, h => by
    rw [List.dropWhile_cons] at h
    by_cases hc : p c = true
    · rw [if_pos hc] at h; exact dw_head p l x r h
    · rw [if_neg hc] at h
      have : c = x := by injection h
      subst this
      simpa using hc
theorem dw_all (p : UInt8 → Bool) : ∀ l : List UInt8, (∀ x ∈ l, p x = true) → l.dropWhile p = []
  | [], _ => rfl
  | c :: r, h => by rw [List.dropWhile_cons, if_pos (h c (by simp))]; exact dw_all p r fun x hx => h x (by simp [hx])
def digs : List UInt8 := [48, 49, 50, 51, 52, 53, 54, 55, 56, 57]
set_option maxRecDepth 100000 in
theorem digs_iff (c : UInt8) : digs.contains c = true ↔ 48 ≤ c.toNat ∧ c.toNat ≤ 57 := by
  have h : ∀ c : Fin 256, (digs.contains (UInt8.ofNat c.1) = true) ↔ 48 ≤ c.1 ∧ c.1 ≤ 57 := by decide
  have h2 := h ⟨c.toNat, c.toNat_lt⟩
  simpa using h2
theorem trimS_digits {l : List UInt8} (h : Digits l) : Lib.trimS l digs = [] := by
  have h1 : Lib.trimRightS l digs = [] := by
    unfold Lib.trimRightS
    rw [dw_all _ l.reverse (fun x hx => (digs_iff x).2 (h x (by simpa using hx)))]
    rfl
  unfold Lib.trimS
  rw [h1]; rfl
theorem trimS_bad {l : List UInt8} (h : Lib.trimS l digs = []) : Digits l := by
  unfold Lib.trimS Lib.trimLeftS at h
  have h1 := dw_nil _ _ h
  unfold Lib.trimRightS at h1
  have h2 : l.reverse.dropWhile (digs.contains ·) = [] := by
    cases h3 : l.reverse.dropWhile (digs.contains ·) with
    | nil => rfl
    | cons x r =>
      have h4 := dw_head _ _ _ _ h3
      rw [h3] at h1
      have h5 := h1 x (by simp)
      rw [h4] at h5; cases h5
  have h3 := dw_nil _ _ h2
  exact fun c hc => (digs_iff c).1 (h3 c (by simpa using hc))
theorem bare_pos {l : List UInt8} (h : Digits l) (hn : (bare l).length ≠ 0) : 0 < digVal (bare l) := by
  have hd := bare_digits h
  cases h1 : bare l with
  | nil => rw [h1] at hn; simp at hn
  | cons c r =>
    have h2 := dw_head _ _ _ _ h1
    rw [h1] at hd
    have h3 := hd c (by simp)
    have h4 : c.toNat ≠ 48 := fun h5 => by
      have : c = 48 := UInt8.toNat_inj.1 h5
      rw [this] at h2; simp at h2
    rw [digVal_cons]
    have h5 : 1 * 10 ^ r.length ≤ (c.toNat - 48) * 10 ^ r.length := Nat.mul_le_mul_right _ (by omega)
    have h6 : 0 < 10 ^ r.length := Nat.pow_pos (by decide)
    omega
end Go.Proofs.YtcipmfjefmjacaaGreatDoor
