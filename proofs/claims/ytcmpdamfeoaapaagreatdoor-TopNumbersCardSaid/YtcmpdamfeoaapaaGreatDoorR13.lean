/- Plain: the first float whose middle is not below a number is the nearest one. -/
import Derived.Test.YtcmpdamfeoaapaaGreatDoorM4
namespace Go.Proofs.YtcmpdamfeoaapaaGreatDoor
/-- twice the middle between a float and the next one, in steps of the least -/
def gm (b : Nat) : Nat := (2 * mof b + 1) * 2 ^ jof b
theorem parts_of {j r : Nat} (h1 : r < 9007199254740992) (h2 : j = 0 ∨ 4503599627370496 ≤ r) : jof (j * 4503599627370496 + r) = j ∧ mof (j * 4503599627370496 + r) = r := by
  unfold jof mof
  rw [show (2 : Nat) ^ 52 = 4503599627370496 by decide]
  constructor
  · omega
  · split <;> omega
theorem gm_of {j r : Nat} (h1 : r < 9007199254740992) (h2 : j = 0 ∨ 4503599627370496 ≤ r) : gm (j * 4503599627370496 + r) = (2 * r + 1) * 2 ^ j := by
  unfold gm
  rw [(parts_of h1 h2).1, (parts_of h1 h2).2]
theorem bits_form (b : Nat) : ∃ j r, b = j * 4503599627370496 + r ∧ r < 9007199254740992 ∧ (j = 0 ∨ 4503599627370496 ≤ r) := by
  refine ⟨b / 4503599627370496 - 1, b - (b / 4503599627370496 - 1) * 4503599627370496, ?_, ?_, ?_⟩ <;> omega
theorem gm_lt (b : Nat) : gm b < gm (b + 1) := by
  obtain ⟨j, r, rfl, h1, h2⟩ := bits_form b
  rw [gm_of h1 h2]
  have hp := pow2_pos j
  by_cases h : r + 1 < 9007199254740992
  · rw [Nat.add_assoc, gm_of h (by omega)]
    exact Nat.mul_lt_mul_of_pos_right (by omega) hp
  · have hr : r = 9007199254740991 := by omega
    subst hr
    rw [show j * 4503599627370496 + 9007199254740991 + 1 = (j + 1) * 4503599627370496 + 4503599627370496 by omega, gm_of (by decide) (.inr (by decide)), Nat.pow_succ, ← Nat.mul_assoc, Nat.mul_right_comm]
    exact Nat.mul_lt_mul_of_pos_right (by decide) hp
theorem gm_mono {a b : Nat} (h : a < b) : gm a < gm b := by
  induction h with
  | refl => exact gm_lt a
  | step _ ih => exact Nat.lt_trans ih (gm_lt _)
theorem rnd_tie {x y : Nat} (hy : 0 < y) (h : 2 * x = (2 * rnd x y + 1) * y ∨ 2 * rnd x y * y = 2 * x + y) : rnd x y % 2 = 0 := by
  have hd := Nat.div_add_mod x y
  have hm := Nat.mod_lt x hy
  unfold rnd at h ⊢
  generalize x / y = q at *
  generalize x % y = r at *
  have e1 : (2 * (q + 1) + 1) * y = 2 * (y * q) + 3 * y := by rw [Nat.add_mul, Nat.mul_assoc, Nat.add_mul, Nat.mul_comm q y]; omega
  have e2 : 2 * (q + 1) * y = 2 * (y * q) + 2 * y := by rw [Nat.mul_assoc, Nat.add_mul, Nat.mul_comm q y]; omega
  have e3 : (2 * q + 1) * y = 2 * (y * q) + y := by rw [Nat.add_mul, Nat.mul_assoc, Nat.mul_comm q y]; omega
  have e4 : 2 * q * y = 2 * (y * q) := by rw [Nat.mul_assoc, Nat.mul_comm q y]
  by_cases hc : y < 2 * r ∨ 2 * r = y ∧ q % 2 = 1
  · simp only [if_pos hc] at h ⊢
    rw [e1, e2] at h
    omega
  · simp only [if_neg hc] at h ⊢
    rw [e3, e4] at h
    omega
/-- the nearest float's bits, without the bound -/
def nbU (X y j : Nat) : Nat := j * 2 ^ 52 + rnd X (2 ^ j * y)
theorem mid_aux {G X Z K : Nat} (hG : 0 < G) (h2 : K * G ≤ X) (e1 : Z * 2 = (2 * (2 * K - 1) + 1) * G) (hK : 0 < K) : Z < 2 * X := by
  obtain ⟨k, rfl⟩ : ∃ k, K = k + 1 := ⟨K - 1, by omega⟩
  rw [show 2 * (2 * (k + 1) - 1) + 1 = 4 * k + 3 by omega] at e1
  rw [Nat.add_mul] at h2 e1
  rw [Nat.mul_assoc] at e1
  generalize k * G = Y at *
  omega
theorem mid_aux2 {G X K r : Nat} (hG : 0 < G) (hr : r = 2 * K) (hK : 0 < K) (s1 : 2 * X ≤ (2 * r + 1) * G) (s2 : 2 * r * G ≤ 2 * X + G) :
    2 * X < 2 * ((2 * K + 1) * G) ∧ (2 * (2 * K - 1) + 1) * G ≤ 2 * X ∧ ((2 * (2 * K - 1) + 1) * G = 2 * X → 2 * r * G = 2 * X + G) := by
  subst hr
  obtain ⟨k, rfl⟩ : ∃ k, K = k + 1 := ⟨K - 1, by omega⟩
  rw [show 2 * (2 * (k + 1) - 1) + 1 = 4 * k + 3 by omega]
  rw [show 2 * (2 * (k + 1)) = 4 * k + 4 by omega] at s1 s2 ⊢
  simp only [Nat.add_mul, Nat.mul_add, Nat.mul_assoc] at s1 s2 ⊢
  generalize k * G = Y at *
  omega
theorem even_big (j : Nat) : ((j + 1) * 4503599627370496 + 4503599627370496) % 2 = 0 := by omega
theorem nbU_mid {X y j : Nat} (hy : 0 < y) (hs : Step X y j) :
    2 * X ≤ gm (nbU X y j) * y ∧ (2 * X = gm (nbU X y j) * y → nbU X y j % 2 = 0) ∧
    ∀ b, nbU X y j = b + 1 → gm b * y ≤ 2 * X ∧ (gm b * y = 2 * X → nbU X y j % 2 = 0) := by
  have hG : 0 < 2 ^ j * y := Nat.mul_pos (pow2_pos _) hy
  obtain ⟨s1, s2⟩ := rnd_spec (x := X) hG
  have ht := rnd_tie (x := X) hG
  have hle : rnd X (2 ^ j * y) ≤ 9007199254740992 := rnd_le_of hG (by have := Nat.le_of_lt hs.lt; rwa [show (2 : Nat) ^ 53 = 9007199254740992 by decide] at this)
  have hge : j = 0 ∨ 4503599627370496 * (2 ^ j * y) ≤ X := by
    have := hs.ge; rwa [show (2 : Nat) ^ 52 = 4503599627370496 by decide] at this
  have hge2 : j = 0 ∨ 4503599627370496 ≤ rnd X (2 ^ j * y) := hge.imp id (fun h => rnd_ge hG h)
  unfold nbU
  rw [show (2 : Nat) ^ 52 = 4503599627370496 by decide]
  generalize hr : rnd X (2 ^ j * y) = r at *
  have f1 (k : Nat) : k * 2 ^ j * y = k * (2 ^ j * y) := Nat.mul_assoc _ _ _
  have f2 (k : Nat) : k * 2 ^ (j + 1) * y = 2 * (k * (2 ^ j * y)) := by rw [Nat.pow_succ]; ac_rfl
  have f3 (i k : Nat) (h : j = i + 1) : k * 2 ^ i * y * 2 = k * (2 ^ j * y) := by rw [h, Nat.pow_succ]; ac_rfl
  generalize hGG : 2 ^ j * y = G at *
  by_cases h53 : r < 9007199254740992
  · rw [gm_of h53 hge2, f1]
    refine ⟨s1, fun h => by have := ht (.inl h); omega, fun b hb => ?_⟩
    by_cases h52 : j = 0 ∨ 4503599627370496 ≤ r - 1
    · obtain rfl : b = j * 4503599627370496 + (r - 1) := by omega
      have hr1 : 1 ≤ r := by omega
      rw [gm_of (by omega) h52, f1]
      have e : (2 * (r - 1) + 1) * G + G = 2 * r * G := by
        rw [← Nat.succ_mul]; congr 1; omega
      exact ⟨by omega, fun h => by have := ht (.inr (by omega)); omega⟩
    · have hr : r = 4503599627370496 := by omega
      have hb' : b = (j - 1) * 4503599627370496 + 9007199254740991 := by omega
      rw [hb', gm_of (by decide) (.inr (by decide))]
      have h2 : 4503599627370496 * G ≤ X := hge.resolve_left (fun h => h52 (.inl h))
      have e1 := mid_aux hG h2 (f3 (j - 1) (2 * 9007199254740991 + 1) (by omega)) (by decide)
      exact ⟨Nat.le_of_lt e1, fun h => absurd h (Nat.ne_of_lt e1)⟩
  · clear hge
    have hr : r = 9007199254740992 := by omega
    have hj : j * 4503599627370496 + r = (j + 1) * 4503599627370496 + 4503599627370496 := by omega
    rw [hj, gm_of (by decide) (.inr (by decide)), f2]
    obtain ⟨a1, a2, a3⟩ := mid_aux2 (K := 4503599627370496) hG hr (by decide) s1 s2
    refine ⟨Nat.le_of_lt a1, fun h => absurd h (Nat.ne_of_lt a1), fun b hb => ?_⟩
    have hb' : b = j * 4503599627370496 + 9007199254740991 := by omega
    rw [hb', gm_of (by decide) (.inr (by decide)), f1]
    exact ⟨a2, fun _ => even_big j⟩
/-- the first float whose middle is not below the number, and the even one of two at a tie, is the nearest one -/
theorem nb_least {X y j lo : Nat} (hy : 0 < y) (hs : Step X y j) (hlo : lo ≤ 9218868437227405312) (hb : ∀ b, b < lo → gm b * y < 2 * X)
    (ha : lo < 9218868437227405312 → 2 * X ≤ gm lo * y) :
    nb X y j = if lo < 9218868437227405312 ∧ lo % 2 = 1 ∧ 2 * X = gm lo * y then lo + 1 else lo := by
  obtain ⟨m1, m2, m3⟩ := nbU_mid hy hs
  have e : nb X y j = min (nbU X y j) 9218868437227405312 := rfl
  rw [e]
  generalize nbU X y j = u at *
  have h1 : lo ≤ u := by
    rcases Nat.lt_or_ge u lo with h | h
    · have := hb u h; omega
    · exact h
  by_cases hlt : lo < 9218868437227405312
  · have ha := ha hlt
    have h2 : u ≤ lo + 1 := by
      rcases Nat.lt_or_ge (lo + 1) u with h | h
      · have h3 := (m3 (u - 1) (by omega)).1
        have h4 := gm_mono (show lo < u - 1 by omega)
        have h5 := Nat.mul_lt_mul_of_pos_right h4 hy
        omega
      · exact h
    by_cases ht : 2 * X = gm lo * y
    · by_cases ho : lo % 2 = 1
      · rw [if_pos ⟨hlt, ho, ht⟩]
        rcases Nat.lt_or_ge lo u with h | h
        · omega
        · obtain rfl : u = lo := by omega
          have := m2 ht; omega
      · rw [if_neg (by omega)]
        rcases Nat.lt_or_ge lo u with h | h
        · obtain rfl : u = lo + 1 := by omega
          have := (m3 lo rfl).2 ht.symm
          omega
        · omega
    · rw [if_neg (by omega)]
      rcases Nat.lt_or_ge lo u with h | h
      · obtain rfl : u = lo + 1 := by omega
        have := (m3 lo rfl).1
        omega
      · omega
  · rw [if_neg (by omega)]; omega
end Go.Proofs.YtcmpdamfeoaapaaGreatDoor
