/- Several texts in one (R13, D7, D8, D9, L1, L2, R9, L3, R10, R11, L7, P0, R14). -/
import Derived.Test.YtcmpdamfeoaapaaDoorM3
import Derived.Shelf.Strings.SlTrimAscii
import GoSem.Core.Float
section
/- Plain: the first float whose middle is not below a number is the nearest one. -/
namespace Go.Proofs.YtcmpdamfeoaapaaDoor
/-- twice the middle between a float and the next one, in steps of the least -/
def gm (b : Nat) : Nat := (2 * mof b + 1) * 2 ^ jof b
theorem parts_of {j r : Nat} (h1 : r < 9007199254740992) (h2 : j = 0 ∨ 4503599627370496 ≤ r) : jof (j * 4503599627370496 + r) = j ∧ mof (j * 4503599627370496 + r) = r := by
  unfold jof mof
  rw [show (2 : Nat) ^ 52 = 4503599627370496 by decide]
  constructor
  · omega
  · split <;> omega
theorem gm_of {j r : Nat} (h1 : r < 9007199254740992) (h2 : j = 0 ∨ 4503599627370496 ≤ r) : gm (j * 4503599627370496 + r) = (2 * r + 1) * 2 ^ j := by
  unfold gm
  rw [(parts_of h1 h2).1, (parts_of h1 h2).2]
theorem bits_form (b : Nat) : ∃ j r, b = j * 4503599627370496 + r ∧ r < 9007199254740992 ∧ (j = 0 ∨ 4503599627370496 ≤ r) := by
  refine ⟨b / 4503599627370496 - 1, b - (b / 4503599627370496 - 1) * 4503599627370496, ?_, ?_, ?_⟩ <;> omega
theorem gm_lt (b : Nat) : gm b < gm (b + 1) := by
  obtain ⟨j, r, rfl, h1, h2⟩ := bits_form b
  rw [gm_of h1 h2]
  have hp := pow2_pos j
  by_cases h : r + 1 < 9007199254740992
  · rw [Nat.add_assoc, gm_of h (by omega)]
    exact Nat.mul_lt_mul_of_pos_right (by omega) hp
  · have hr : r = 9007199254740991 := by omega
    subst hr
    rw [show j * 4503599627370496 + 9007199254740991 + 1 = (j + 1) * 4503599627370496 + 4503599627370496 by omega, gm_of (by decide) (.inr (by decide)), Nat.pow_succ, ← Nat.mul_assoc, Nat.mul_right_comm]
    exact Nat.mul_lt_mul_of_pos_right (by decide) hp
theorem gm_mono {a b : Nat} (h : a < b) : gm a < gm b := by
  induction h with
  | refl => exact gm_lt a
  | step _ ih => exact Nat.lt_trans ih (gm_lt _)
theorem rnd_tie {x y : Nat} (hy : 0 < y) (h : 2 * x = (2 * rnd x y + 1) * y ∨ 2 * rnd x y * y = 2 * x + y) : rnd x y % 2 = 0 := by
  have hd := Nat.div_add_mod x y
  have hm := Nat.mod_lt x hy
  unfold rnd at h ⊢
  generalize x / y = q at *
  generalize x % y = r at *
  have e1 : (2 * (q + 1) + 1) * y = 2 * (y * q) + 3 * y := by rw [Nat.add_mul, Nat.mul_assoc, Nat.add_mul, Nat.mul_comm q y]; omega
  have e2 : 2 * (q + 1) * y = 2 * (y * q) + 2 * y := by rw [Nat.mul_assoc, Nat.add_mul, Nat.mul_comm q y]; omega
  have e3 : (2 * q + 1) * y = 2 * (y * q) + y := by rw [Nat.add_mul, Nat.mul_assoc, Nat.mul_comm q y]; omega
  have e4 : 2 * q * y = 2 * (y * q) := by rw [Nat.mul_assoc, Nat.mul_comm q y]
  by_cases hc : y < 2 * r ∨ 2 * r = y ∧ q % 2 = 1
  · simp only [if_pos hc] at h ⊢
    rw [e1, e2] at h
    omega
  · simp only [if_neg hc] at h ⊢
    rw [e3, e4] at h
    omega
/-- the nearest float's bits, without the bound -/
def nbU (X y j : Nat) : Nat := j * 2 ^ 52 + rnd X (2 ^ j * y)
theorem mid_aux {G X Z K : Nat} (hG : 0 < G) (h2 : K * G ≤ X) (e1 : Z * 2 = (2 * (2 * K - 1) + 1) * G) (hK : 0 < K) : Z < 2 * X := by
  obtain ⟨k, rfl⟩ : ∃ k, K = k + 1 := ⟨K - 1, by omega⟩
  rw [show 2 * (2 * (k + 1) - 1) + 1 = 4 * k + 3 by omega] at e1
  rw [Nat.add_mul] at h2 e1
  rw [Nat.mul_assoc] at e1
  generalize k * G = Y at *
  omega
theorem mid_aux2 {G X K r : Nat} (hG : 0 < G) (hr : r = 2 * K) (hK : 0 < K) (s1 : 2 * X ≤ (2 * r + 1) * G) (s2 : 2 * r * G ≤ 2 * X + G) :
    2 * X < 2 * ((2 * K + 1) * G) ∧ (2 * (2 * K - 1) + 1) * G ≤ 2 * X ∧ ((2 * (2 * K - 1) + 1) * G = 2 * X → 2 * r * G = 2 * X + G) := by
  subst hr
  obtain ⟨k, rfl⟩ : ∃ k, K = k + 1 := ⟨K - 1, by omega⟩
  rw [show 2 * (2 * (k + 1) - 1) + 1 = 4 * k + 3 by omega]
  rw [show 2 * (2 * (k + 1)) = 4 * k + 4 by omega] at s1 s2 ⊢
  simp only [Nat.add_mul, Nat.mul_add, Nat.mul_assoc] at s1 s2 ⊢
  generalize k * G = Y at *
  omega
theorem even_big (j : Nat) : ((j + 1) * 4503599627370496 + 4503599627370496) % 2 = 0 := by omega
theorem nbU_mid {X y j : Nat} (hy : 0 < y) (hs : Step X y j) :
    2 * X ≤ gm (nbU X y j) * y ∧ (2 * X = gm (nbU X y j) * y → nbU X y j % 2 = 0) ∧
    ∀ b, nbU X y j = b + 1 → gm b * y ≤ 2 * X ∧ (gm b * y = 2 * X → nbU X y j % 2 = 0) := by
  have hG : 0 < 2 ^ j * y := Nat.mul_pos (pow2_pos _) hy
  obtain ⟨s1, s2⟩ := rnd_spec (x := X) hG
  have ht := rnd_tie (x := X) hG
  have hle : rnd X (2 ^ j * y) ≤ 9007199254740992 := rnd_le_of hG (by have := Nat.le_of_lt hs.lt; rwa [show (2 : Nat) ^ 53 = 9007199254740992 by decide] at this)
  have hge : j = 0 ∨ 4503599627370496 * (2 ^ j * y) ≤ X := by
    have := hs.ge; rwa [show (2 : Nat) ^ 52 = 4503599627370496 by decide] at this
  have hge2 : j = 0 ∨ 4503599627370496 ≤ rnd X (2 ^ j * y) := hge.imp id (fun h => rnd_ge hG h)
  unfold nbU
  rw [show (2 : Nat) ^ 52 = 4503599627370496 by decide]
  generalize hr : rnd X (2 ^ j * y) = r at *
  have f1 (k : Nat) : k * 2 ^ j * y = k * (2 ^ j * y) := Nat.mul_assoc _ _ _
  have f2 (k : Nat) : k * 2 ^ (j + 1) * y = 2 * (k * (2 ^ j * y)) := by rw [Nat.pow_succ]; ac_rfl
  have f3 (i k : Nat) (h : j = i + 1) : k * 2 ^ i * y * 2 = k * (2 ^ j * y) := by rw [h, Nat.pow_succ]; ac_rfl
  generalize hGG : 2 ^ j * y = G at *
  by_cases h53 : r < 9007199254740992
  · rw [gm_of h53 hge2, f1]
    refine ⟨s1, fun h => by have := ht (.inl h); omega, fun b hb => ?_⟩
    by_cases h52 : j = 0 ∨ 4503599627370496 ≤ r - 1
    · obtain rfl : b = j * 4503599627370496 + (r - 1) := by omega
      have hr1 : 1 ≤ r := by omega
      rw [gm_of (by omega) h52, f1]
      have e : (2 * (r - 1) + 1) * G + G = 2 * r * G := by
        rw [← Nat.succ_mul]; congr 1; omega
      exact ⟨by omega, fun h => by have := ht (.inr (by omega)); omega⟩
    · have hr : r = 4503599627370496 := by omega
      have hb' : b = (j - 1) * 4503599627370496 + 9007199254740991 := by omega
      rw [hb', gm_of (by decide) (.inr (by decide))]
      have h2 : 4503599627370496 * G ≤ X := hge.resolve_left (fun h => h52 (.inl h))
      have e1 := mid_aux hG h2 (f3 (j - 1) (2 * 9007199254740991 + 1) (by omega)) (by decide)
      exact ⟨Nat.le_of_lt e1, fun h => absurd h (Nat.ne_of_lt e1)⟩
  · clear hge
    have hr : r = 9007199254740992 := by omega
    have hj : j * 4503599627370496 + r = (j + 1) * 4503599627370496 + 4503599627370496 := by omega
    rw [hj, gm_of (by decide) (.inr (by decide)), f2]
    obtain ⟨a1, a2, a3⟩ := mid_aux2 (K := 4503599627370496) hG hr (by decide) s1 s2
    refine ⟨Nat.le_of_lt a1, fun h => absurd h (Nat.ne_of_lt a1), fun b hb => ?_⟩
    have hb' : b = j * 4503599627370496 + 9007199254740991 := by omega
    rw [hb', gm_of (by decide) (.inr (by decide)), f1]
    exact ⟨a2, fun _ => even_big j⟩
/-- the first float whose middle is not below the number, and the even one of two at a tie, is the nearest one -/
theorem nb_least {X y j lo : Nat} (hy : 0 < y) (hs : Step X y j) (hlo : lo ≤ 9218868437227405312) (hb : ∀ b, b < lo → gm b * y < 2 * X)
    (ha : lo < 9218868437227405312 → 2 * X ≤ gm lo * y) :
    nb X y j = if lo < 9218868437227405312 ∧ lo % 2 = 1 ∧ 2 * X = gm lo * y then lo + 1 else lo := by
  obtain ⟨m1, m2, m3⟩ := nbU_mid hy hs
  have e : nb X y j = min (nbU X y j) 9218868437227405312 := rfl
  rw [e]
  generalize nbU X y j = u at *
  have h1 : lo ≤ u := by
    rcases Nat.lt_or_ge u lo with h | h
    · have := hb u h; omega
    · exact h
  by_cases hlt : lo < 9218868437227405312
  · have ha := ha hlt
    have h2 : u ≤ lo + 1 := by
      rcases Nat.lt_or_ge (lo + 1) u with h | h
      · have h3 := (m3 (u - 1) (by omega)).1
        have h4 := gm_mono (show lo < u - 1 by omega)
        have h5 := Nat.mul_lt_mul_of_pos_right h4 hy
        omega
      · exact h
    by_cases ht : 2 * X = gm lo * y
    · by_cases ho : lo % 2 = 1
      · rw [if_pos ⟨hlt, ho, ht⟩]
        rcases Nat.lt_or_ge lo u with h | h
        · omega
        · obtain rfl : u = lo := by omega
          have := m2 ht; omega
      · rw [if_neg (by omega)]
        rcases Nat.lt_or_ge lo u with h | h
        · obtain rfl : u = lo + 1 := by omega
          have := (m3 lo rfl).2 ht.symm
          omega
        · omega
    · rw [if_neg (by omega)]
      rcases Nat.lt_or_ge lo u with h | h
      · obtain rfl : u = lo + 1 := by omega
        have := (m3 lo rfl).1
        omega
      · omega
  · rw [if_neg (by omega)]; omega
end Go.Proofs.YtcmpdamfeoaapaaDoor
end

section
/- Package dec: Sci. -/
namespace Go.Proofs.YtcmpdamfeoaapaaDoor
open Go.RowKit
set_option linter.unusedVariables false

set_option maxRecDepth 100000 in
set_option maxHeartbeats 2000000 in
theorem Sci_bad (b : Nat) (p : Int) (w : World) (hb : b < 18446744073709551616) (h : fin b = false ∨ p < 0 ∨ 200 < p) :
    Calls Tryd.prog 12 #[.float .f64 b, .int .i64 p] w fun e w' => e = .returned (.tuple #[.string ⟨#[]⟩, .int .i64 0, .int .i64 1]) ∧ w = w' := by
  have HP := Lib.hid (Parts_any b w hb)
  generalize mant b = m at *
  generalize expo b = x at *
  clear hb
  go_enter Tryd.func12, Tryd.ntmps12
  go_wp2_with fail
  refine HP.out.mono ?_
  rintro e w1 ⟨rfl, rfl⟩
  clear HP
  by_cases hf : fin b = false
  · rw [hf]
    clear h
    go_wp2_with fail
    go_ret3
    exact ⟨rfl, rfl⟩
  · have hf' : fin b = true := by simpa using hf
    rw [hf']
    by_cases h0 : p < 0
    · clear h
      go_wp2_with fail
      go_ret3
      exact ⟨rfl, rfl⟩
    · have h2 : 200 < p := by
        rcases h with h | h | h
        · exact absurd h hf
        · exact absurd h h0
        · exact h
      clear h hf
      go_wp2_with fail
      go_ret3
      exact ⟨rfl, rfl⟩

set_option maxRecDepth 100000 in
set_option maxHeartbeats 2000000 in
theorem Sci_zero (b : Nat) (p : Nat) (w : World) (hb : b < 18446744073709551616) (hf : fin b = true) (hp : p ≤ 200) (hm : mant b = 0) :
    Calls Tryd.prog 12 #[.float .f64 b, .int .i64 p] w fun e w' => ∃ s : ByteArray, e = .returned (.tuple #[.string s, .int .i64 0, .int .i64 0]) ∧ s.data.toList = List.replicate (p + 1) 48 ∧ Below w.heap.size w w' := by
  have HP := Lib.hid (Parts_any b w hb)
  rw [hf, hm] at HP
  generalize expo b = x at *
  clear hb hf hm
  have hpi : (p : Int) ≤ 200 := by omega
  have HRP := Lib.hid (Tryd.strings_Repeat ⟨#[48]⟩ (p + 1) w (by omega) (by show 1 * (p + 1) ≤ _; omega))
  go_enter Tryd.func12, Tryd.ntmps12
  go_wp2_with fail
  refine HP.out.mono ?_
  rintro e w1 ⟨rfl, rfl⟩
  clear HP
  go_wp2_with fail
  refine HRP.out.mono ?_
  rintro e w3 ⟨rfl, hb3⟩
  have HB3 := Lib.hid hb3
  clear hb3
  have hR : Hid ((ByteArray.mk (Lib.repeatL [48] (p + 1)).toArray).data.toList = List.replicate (p + 1) 48) := repeatL_one 48 (p + 1)
  obtain ⟨R, hR2⟩ : ∃ R : ByteArray, R = ⟨(Lib.repeatL [48] (p + 1)).toArray⟩ := ⟨_, rfl⟩
  rw [← hR2] at hR
  clear HRP
  go_wp2_with fail
  go_ret3
  exact ⟨_, rfl, repeatL_one 48 (p + 1), HB3.out⟩
end Go.Proofs.YtcmpdamfeoaapaaDoor
end

section
/- Package dec: Sci, the loop. -/
namespace Go.Proofs.YtcmpdamfeoaapaaDoor
open Go.RowKit
set_option linter.unusedVariables false

/-- what Sci answers: the digits and the power of ten: the least one from the start on at which p + 1 digits are enough -/
structure SciAt (b p : Nat) (x : Int) : Prop where
  ge : 10 ^ p ≤ scaledN b (p - x)
  lt : scaledN b (p - x) < 10 ^ (p + 1)
  least : ∃ y0, y0 ≤ x ∧ GeT (mant b * 2 ^ (expo b).toNat) (2 ^ (-(expo b)).toNat) (p - y0) (10 ^ p) ∧ ∀ y, y0 ≤ y → y < x → 10 ^ (p + 1) ≤ scaledN b (p - y)

theorem canon_ne_zero {l : List UInt8} {x : Nat} (h : Canon l x) (hx : 0 < x) : l ≠ [48] := by
  intro hl
  have h1 := h.val
  rw [hl] at h1
  have h2 : digVal [48] = 0 := by decide
  omega

set_option maxRecDepth 100000 in
set_option maxHeartbeats 4000000 in
theorem Sci_loop (b : Nat) (p : Nat) (w : World) (hb : b < 18446744073709551616) (hf : fin b = true) (hp : p ≤ 200) (hm : 0 < mant b) :
    Calls Tryd.prog 12 #[.float .f64 b, .int .i64 p] w fun e w' => ∃ (s : ByteArray) (x : Int), e = .returned (.tuple #[.string s, .int .i64 x, .int .i64 0]) ∧ Canon s.data.toList (scaledN b (p - x)) ∧ s.data.toList.length = p + 1 ∧ SciAt b p x ∧ -325 ≤ x ∧ x ≤ 309 ∧ Below w.heap.size w w' := by
  have HP := Lib.hid (Parts_any b w hb)
  rw [hf] at HP
  have hm1 := mant_lt b
  have he := expo_bounds (b := b)
  obtain ⟨hm2, hm3⟩ := nbits_pos hm
  have hm4 : nbits (mant b) ≤ 53 := nbits_le.2 (by rw [show (2 : Nat) ^ 53 = 9007199254740992 by decide]; exact hm1)
  obtain ⟨t, ht⟩ : ∃ t : Int, t = (nbits (mant b) : Int) - 1 + expo b := ⟨_, rfl⟩
  obtain ⟨x0, hx0⟩ : ∃ x0 : Int, x0 = exp0 t := ⟨_, rfl⟩
  have hx0' : (t * 30103).tdiv 100000 - 2 = x0 := hx0.symm
  have hx1 : -325 ≤ x0 := by rw [hx0]; exact (exp0_bounds (by omega) (by omega)).1
  have hx2 : x0 ≤ 306 := by rw [hx0]; exact (exp0_bounds (by omega) (by omega)).2
  have hB : 0 < 2 ^ (-(expo b)).toNat := Nat.pow_pos (by decide)
  have hA := fin_lt (m := mant b) (j := (expo b).toNat) (i := 12) (-(expo b)).toNat (by rw [show (2 : Nat) ^ 53 = 9007199254740992 by decide]; exact hm1) (by omega) (by decide)
  have hst : GeT (mant b * 2 ^ (expo b).toNat) (2 ^ (-(expo b)).toNat) ((p : Int) - x0) (10 ^ p) := by
    have h := sci_start hm2 (e := expo b) (by omega) (by omega) p
    rw [show ((nbits (mant b) - 1 : Nat) : Int) + expo b = t by omega, ← hx0] at h
    exact h
  have HX : Hid (∀ x : Int, x0 ≤ x → (∀ y, x0 ≤ y → y < x → 10 ^ (p + 1) ≤ scaledN b (p - y)) → x ≤ 309) := by
    intro x h1 h2
    rcases Int.lt_or_le x0 x with h | h
    · have h3 := h2 (x - 1) (by omega) (by omega)
      rw [scaledN_rat] at h3
      have := sci_high (H := 25 * 12 + 9) hB hA h3
      omega
    · omega
  have HRD : Hid (∀ (x : Int) (l : List UInt8), x0 ≤ x → (∀ y, x0 ≤ y → y < x → 10 ^ (p + 1) ≤ scaledN b (p - y)) → Canon l (scaledN b (p - x)) →
      (p + 1 < l.length ∧ 10 ^ (p + 1) ≤ scaledN b (p - x)) ∨ (l.length = p + 1 ∧ l ≠ [48] ∧ SciAt b p x)) := by
    intro x l h1 h2 hc
    rcases Nat.lt_or_ge (scaledN b (p - x)) (10 ^ (p + 1)) with h | h
    · have h3 : 10 ^ p ≤ scaledN b (p - x) := by
        rw [scaledN_rat]
        refine sci_down hB ?_
        rcases Int.lt_or_le x0 x with h4 | h4
        · refine .inr ?_
          have h5 := h2 (x - 1) (by omega) (by omega)
          rw [scaledN_rat] at h5
          rwa [show (p : Int) - x + 1 = p - (x - 1) by omega]
        · refine .inl ?_
          rwa [show x = x0 by omega]
      refine .inr ⟨Nat.le_antisymm (canon_len hc h (by omega)) (canon_len_gt hc h3), canon_ne_zero hc (Nat.lt_of_lt_of_le (Nat.pow_pos (by decide)) h3), h3, h, x0, h1, hst, h2⟩
    · exact .inl ⟨canon_len_gt hc h, h⟩
  have HS : Hid (∀ (x : Int) (W : World), x0 ≤ x → x ≤ 309 → Calls Tryd.prog 27 #[.int .u64 (mant b : Nat), .int .i64 (expo b), .int .i64 (p - x)] W fun r w' => ∃ v, r = .returned v ∧ NatV w' v (scaledN b (p - x)) ∧ Below W.heap.size W w') :=
    fun x W h1 h2 => scaled_b b (p - x) W (by omega) (by omega)
  have HT : Hid (∀ (x : Int) (W : World) (v : Value), x0 ≤ x → x ≤ 309 → NatV W v (scaledN b (p - x)) → Calls Tryd.prog 26 #[v] W fun e w' => ∃ s : ByteArray, e = .returned (.tuple #[.string s, .int .i64 0]) ∧ Canon s.data.toList (scaledN b (p - x)) ∧ s.data.toList.length ≤ 4001 ∧ Below W.heap.size W w') :=
    fun x W v h1 h2 h => text_b (by omega) (by omega) h
  have HF := Lib.hid (fun W => FromV (mant b) _ rfl (by omega) W)
  have HBT : Hid (∀ (v : Value) (W : World), NatV W v (mant b) → Calls Tryd.prog 31 #[v] W fun r W' => r = .returned (.int .i64 (nbits (mant b) : Nat)) ∧ W = W') :=
    fun v W h => Bits_V v _ W h (limbs_of_bits (by omega))
  have hm0 : (mant b : Int) ≠ 0 := by omega
  generalize scaledN b = N at *
  generalize nbits (mant b) = nm at *
  generalize mant b = m at *
  generalize expo b = x at *
  clear hb hf hB hA hst hx0 hm hm2
  have hpi : (p : Int) ≤ 200 := by omega
  go_enter Tryd.func12, Tryd.ntmps12
  go_wp2_with fail
  refine HP.out.mono ?_
  rintro e w1 ⟨rfl, rfl⟩
  clear HP
  go_wp2_with fail
  refine (HF.out w).mono ?_
  rintro e w1 ⟨v1, rfl, hn1, hb1⟩
  have HBT1 := Lib.hid (HBT.out v1 w1 hn1)
  have HB1 := Lib.hid hb1
  have hs1 := hb1.size
  clear hn1 hb1 HBT HF
  go_wp2_with fail
  refine HBT1.out.mono ?_
  rintro e w2 ⟨rfl, rfl⟩
  clear HBT1
  have et : (nm : Int) - 1 + x = t := ht.symm
  clear ht
  have het : (t * 30103).tdiv 100000 = x0 + 2 := by omega
  go_wp2_with fail
  go_loopw [10] (fun ev wr => ∃ (y : Int), x0 ≤ y ∧ y ≤ 309 ∧ ev = .int .i64 y ∧ Below w.heap.size w wr ∧ w.heap.size ≤ wr.heap.size ∧ ∀ z, x0 ≤ z → z < y → 10 ^ (p + 1) ≤ N (p - z)) (fun ev _ => (400 - intOf ev).toNat)
  case atStart =>
    refine ⟨x0, Int.le_refl _, by omega, ?_, HB1.out, hs1, fun z h1 h2 => by omega⟩
    first | rfl | (congr 1; omega)
  case round =>
    obtain ⟨y, hy1, hy2, rfl, hbw, hsw, hl⟩ := hrel
    have HB := Lib.hid hbw; have HL := Lib.hid hl
    clear hbw hl HB1 het et
    have hc1 : x0 ≤ y := hy1
    go_wp2_with fail
    refine (HS.out y wr hy1 hy2).mono ?_
    rintro e w3 ⟨v3, rfl, hn3, hb3⟩
    have HT3 := Lib.hid (HT.out y w3 v3 hy1 hy2 hn3)
    have HB3 := Lib.hid (HB.out.trans (hb3.mono hsw))
    have hs3 := hb3.size
    clear hn3 hb3 HB
    go_wp2_with fail
    refine HT3.out.mono ?_
    rintro e w4 ⟨s, rfl, hc, hl4, hb4⟩
    have HB4 := Lib.hid (HB3.out.trans (hb4.mono (by omega)))
    have hs4 := hb4.size
    have HC := Lib.hid hc
    have hR := HRD.out y s.data.toList hy1 HL.out hc
    have hsz : s.size = s.data.toList.length := by simp
    obtain ⟨n, hn⟩ : ∃ n, n = s.size := ⟨_, rfl⟩
    rw [← hsz, ← hn] at hR hl4
    have hn1 : s.size = n := hn.symm
    clear hc hb4 HB3 HT3 hsz hn
    rcases hR with ⟨h1, h2⟩ | ⟨h1, h2, h3⟩
    · have h1' : (p : Int) + 1 < (n : Int) := by omega
      have HG := Lib.hid h2
      clear h2 h1
      have HL2 : Hid (∀ z, x0 ≤ z → z < y + 1 → 10 ^ (p + 1) ≤ N (p - z)) := by
        intro z hz1 hz2
        rcases Int.lt_or_le z y with h | h
        · exact HL.out z hz1 h
        · rw [show z = y by omega]; exact HG.out
      have hy3 : y + 1 ≤ 309 := HX.out (y + 1) (by omega) HL2.out
      go_wp2_with fail
      go_roundw
      case rel => exact ⟨y + 1, by omega, hy3, rfl, HB4.out, by omega, HL2.out⟩
      case measure => show (400 - (y + 1)).toNat < (400 - y).toNat; omega
    · have h1' : (n : Int) = (p : Int) + 1 := by omega
      have hne : (s.toList == [48]) = false := beq_eq_false_iff_ne.2 (by rw [ByteArray.toList_eq]; exact h2)
      have HG := Lib.hid h3
      clear h2 h1 h3
      have HN : Hid (s.data.toList.length = p + 1) := by
        have hsz : s.size = s.data.toList.length := by simp
        show _ = _
        omega
      go_wp2_with fail
      go_ret3
      exact ⟨s, y, rfl, HC.out, HN.out, HG.out, by omega, hy2, HB4.out⟩
end Go.Proofs.YtcmpdamfeoaapaaDoor
end

section
/- Package dec: Read. -/
namespace Go.Proofs.YtcmpdamfeoaapaaDoor
open Go.RowKit
set_option linter.unusedVariables false

theorem Trim_digs (s : ByteArray) (w : World) (hs : s.size ≤ 9223372036854775807) :
    Calls Tryd.prog 16 #[.string s, .string ⟨#[48, 49, 50, 51, 52, 53, 54, 55, 56, 57]⟩] w fun e w' => e = .returned (.string ⟨(Lib.trimS s.data.toList digs).toArray⟩) ∧ Below w.heap.size w w' :=
  Any.strings_Trim_laid Tryd.lays160 (by kernel_rfl) s ⟨#[48, 49, 50, 51, 52, 53, 54, 55, 56, 57]⟩ w hs (by decide) (ascii_of_all (by decide))

theorem Inf_pos (w : World) : Calls Tryd.prog 18 #[.int .i64 1] w fun e w' => e = .returned (.float .f64 9218868437227405312) ∧ w' = w := by
  go_enter Tryd.func18, Tryd.ntmps18
  go_wp2_with fail
  go_ret
  exact ⟨rfl, rfl⟩

set_option maxRecDepth 100000 in
set_option maxHeartbeats 2000000 in
theorem Read_bad (s : ByteArray) (x : Int) (w : World) (hs : s.size ≤ 9223372036854775807) (h : s.data.toList = [] ∨ ¬ Digits s.data.toList) :
    Calls Tryd.prog 6 #[.string s, .int .i64 x] w fun e w' => e = .returned (.tuple #[.float .f64 0, .int .i64 30]) ∧ Below w.heap.size w w' := by
  have HT := Lib.hid (Trim_digs s w hs)
  go_enter Tryd.func6, Tryd.ntmps6
  rcases h with h | h
  · have h0 : s.toList.isEmpty = true := by rw [ByteArray.toList_eq, h]; rfl
    clear h
    go_wp2_with fail
    go_ret2
    exact ⟨rfl, Below.refl _ _⟩
  · by_cases he : s.data.toList = []
    · exact absurd (by rw [he]; intro c hc; simp at hc) h
    have h0 : s.toList.isEmpty = false := by rw [ByteArray.toList_eq]; simpa using he
    clear he
    obtain ⟨T, hT⟩ : ∃ T : ByteArray, T = ⟨(Lib.trimS s.data.toList digs).toArray⟩ := ⟨_, rfl⟩
    have h1 : T.toList.isEmpty = false := by
      rw [ByteArray.toList_eq, hT]
      cases h2 : Lib.trimS s.data.toList digs with
      | nil => exact absurd (trimS_bad h2) h
      | cons _ _ => rfl
    rw [← hT] at HT
    clear hT h
    go_wp2_with fail
    refine HT.out.mono ?_
    rintro e w1 ⟨rfl, hb⟩
    have HB := Lib.hid hb
    clear hb HT
    go_wp2_with fail
    go_ret2
    exact ⟨rfl, HB.out⟩

theorem Trim_ok (s : ByteArray) (w : World) (hs : s.size ≤ 9223372036854775807) (h : Digits s.data.toList) :
    Calls Tryd.prog 16 #[.string s, .string ⟨#[48, 49, 50, 51, 52, 53, 54, 55, 56, 57]⟩] w fun e w' => e = .returned (.string ⟨#[]⟩) ∧ Below w.heap.size w w' := by
  have h1 := Trim_digs s w hs
  rw [trimS_digits h] at h1
  exact h1

set_option maxRecDepth 100000 in
set_option maxHeartbeats 2000000 in
theorem Read_long (s : ByteArray) (x : Int) (w : World) (hs : s.size ≤ 9223372036854775807) (hd : Digits s.data.toList) (hl : 1024 < s.data.toList.length) :
    Calls Tryd.prog 6 #[.string s, .int .i64 x] w fun e w' => e = .returned (.tuple #[.float .f64 0, .int .i64 3]) ∧ Below w.heap.size w w' := by
  have HT := Lib.hid (Trim_ok s w hs hd)
  have h0 : s.toList.isEmpty = false := by
    rw [ByteArray.toList_eq]
    cases h : s.data.toList with
    | nil => rw [h] at hl; simp at hl
    | cons _ _ => rfl
  have hl2 : 1024 < (s.size : Int) := by
    have hsz : s.size = s.data.toList.length := by simp
    omega
  clear hd hl
  go_enter Tryd.func6, Tryd.ntmps6
  go_wp2_with fail
  refine HT.out.mono ?_
  rintro e w1 ⟨rfl, hb⟩
  have HB := Lib.hid hb
  clear hb HT
  go_wp2_with fail
  go_ret2
  exact ⟨rfl, HB.out⟩

set_option maxRecDepth 100000 in
set_option maxHeartbeats 4000000 in
theorem Read_ok (s : ByteArray) (x : Int) (w : World) (hn : s.data.toList ≠ []) (hd : Digits s.data.toList) (hl : s.data.toList.length ≤ 1024) (hx1 : -9223372036854775808 ≤ x) (hx2 : x ≤ 9223372036854775807) :
    Calls Tryd.prog 6 #[.string s, .int .i64 x] w fun e w' => e = .returned (.tuple #[.float .f64 (readB s.data.toList x), .int .i64 0]) ∧ Below w.heap.size w w' := by
  have hsz : s.size = s.data.toList.length := by simp
  have HT := Lib.hid (Trim_ok s w (by omega) hd)
  have h0 : s.toList.isEmpty = false := by
    rw [ByteArray.toList_eq]
    simpa using hn
  have hTL : Hid (∀ W, Calls Tryd.prog 17 #[.string s, .string ⟨#[48]⟩] W fun e w' => e = .returned (.string ⟨(bare s.data.toList).toArray⟩) ∧ w' = W) := fun W => Tryd.strings_TrimLeft_one s 48 (by decide) W
  obtain ⟨t, ht⟩ : ∃ t : ByteArray, t = ⟨(bare s.data.toList).toArray⟩ := ⟨_, rfl⟩
  rw [← ht] at hTL
  have htl : t.data.toList = bare s.data.toList := by rw [ht]
  obtain ⟨n, hn0⟩ : ∃ n, n = t.size := ⟨_, rfl⟩
  have hn1 : t.size = n := hn0.symm
  have hn2 : (bare s.data.toList).length = n := by rw [← htl, hn0]; simp
  have hn3 : n ≤ 1024 := by have := bare_length s.data.toList; omega
  have hdt : Digits t.data.toList := by rw [htl]; exact bare_digits hd
  have hR : Hid (readB s.data.toList x = if n = 0 ∨ x < -4000 then 0 else if 2000 < x ∨ 310 < (n : Int) + x then 9218868437227405312 else if (n : Int) + x < -330 then 0 else near (digVal t.data.toList * 10 ^ x.toNat) (10 ^ (-x).toNat)) := by
    show _ = _
    unfold readB
    rw [hn2, htl]
  have HD0 : Hid (n ≠ 0 → 0 < digVal t.data.toList) := fun h => by rw [htl]; exact bare_pos hd (by rw [hn2]; exact h)
  generalize readB s.data.toList x = R at *
  have HDT := Lib.hid hdt
  have hlt : t.data.toList.length = n := by rw [htl, hn2]
  have HLT := Lib.hid hlt
  generalize hLe : s.data.toList = L at *
  have HLe := Lib.hid hLe
  have HD := Lib.hid hd
  clear hd hn hLe ht htl hn0 hn2 hdt hlt
  go_enter Tryd.func6, Tryd.ntmps6
  go_wp2_with fail
  refine HT.out.mono ?_
  rintro e w1 ⟨rfl, hb⟩
  have HB := Lib.hid hb
  have hs1 := hb.size
  clear hb HT
  have hls : (s.size : Int) ≤ 1024 := by omega
  go_wp2_with (refine wpList_bytes _ rfl _ rfl s rfl ?_; rw [HLe.out, hsz]; intro cap1 w2 hl2 hb2 hs2)
  have HB2 := Lib.hid (HB.out.trans (hb2.mono hs1))
  generalize hg1 : w1.heap.size = g1 at *
  have HL1 := Lib.hid hl2
  clear hg1 hl2 hb2 HB hls
  go_wp2_with fail
  go_loop [28] (fun i => ∃ k : Nat, k ≤ L.length ∧ i = .int .i64 k) (fun i => L.length - (intOf i).toNat)
  case atStart => exact ⟨0, Nat.zero_le _, rfl⟩
  case round =>
    obtain ⟨k, hk, rfl⟩ := hrel
    by_cases hlt : k < L.length
    · have hc := HL1.out k hlt
      rw [Nat.zero_add] at hc
      have hdd := HD.out _ (List.getElem_mem hlt)
      generalize L[k].toNat = c at *
      go_wp2_with fail
      go_round
      case rel => exact ⟨k + 1, by omega, by go_num⟩
      case measure => simp [intOf]; omega
    · obtain rfl : k = L.length := by omega
      clear HL1
      go_wp2_with fail
      refine (hTL.out w2).mono ?_
      rintro e w3 ⟨rfl, rfl⟩
      clear hTL
      have HB3 := Lib.hid (HB2.out)
      have hs3 := hs2
      have hbs := HB2.out.size
      clear HB2 hs2 HLe hsz h0 hk hlt HD hl
      by_cases hc0 : n = 0 ∨ x < -4000
      · obtain rfl : R = 0 := by rw [hR.out, if_pos hc0]
        rcases hc0 with h | h
        · clear hn3
          subst h
          go_wp2_with fail
          go_ret2
          exact ⟨rfl, HB3.out⟩
        · by_cases h2 : n = 0
          · subst h2
            go_wp2_with fail
            go_ret2
            exact ⟨rfl, HB3.out⟩
          · have h3 : (n : Int) ≠ 0 := by omega
            go_wp2_with fail
            go_ret2
            exact ⟨rfl, HB3.out⟩
      · have h3 : (n : Int) ≠ 0 := by omega
        have h4 : -4000 ≤ x := by omega
        have hD0 := HD0.out (by omega)
        have hno : ¬ (((n : Int) == 0) = true ∨ x < -4000) := by rw [beq_iff_eq]; omega
        by_cases hc1 : 2000 < x ∨ 310 < (n : Int) + x
        · obtain rfl : R = 9218868437227405312 := by rw [hR.out, if_neg hc0, if_pos hc1]
          clear hR hc0
          by_cases h5 : 2000 < x
          · clear hc1
            go_wp2_with fail
            refine (Inf_pos w3).mono ?_
            rintro e w4 ⟨rfl, rfl⟩
            go_wp2_with fail
            go_ret2
            exact ⟨rfl, HB3.out⟩
          · have h6 : 310 < (n : Int) + x := by omega
            clear hc1
            go_wp2_with fail
            refine (Inf_pos w3).mono ?_
            rintro e w4 ⟨rfl, rfl⟩
            go_wp2_with fail
            go_ret2
            exact ⟨rfl, HB3.out⟩
        · have h5 : x ≤ 2000 := by omega
          have h6 : (n : Int) + x ≤ 310 := by omega
          by_cases hc2 : (n : Int) + x < -330
          · obtain rfl : R = 0 := by rw [hR.out, if_neg hc0, if_neg hc1, if_pos hc2]
            clear hR hc0
            go_wp2_with fail
            go_ret2
            exact ⟨rfl, HB3.out⟩
          · have hR2 : R = near (digVal t.data.toList * 10 ^ x.toNat) (10 ^ (-x).toNat) := by rw [hR.out, if_neg hc0, if_neg hc1, if_neg hc2]
            have HRR := Lib.hid hR2
            have h7 : -330 ≤ (n : Int) + x := by omega
            clear hR hc0 hc1 hc2 hR2
            have hDl : digVal t.data.toList < 10 ^ n := by rw [← HLT.out]; exact digVal_lt HDT.out
            have hB1 : nbits (digVal t.data.toList) ≤ 4100 := read_d hDl hn3
            have hB2 := read_x hDl hn3 h6
            have hB3 := read_v hDl h6
            have hB4 : nbits (10 ^ x.toNat) ≤ 5700 := read_pow (by omega)
            have hB5 : nbits (10 ^ (-x).toNat) ≤ 5700 := read_pow (by omega)
            have hne : t.data.toList ≠ [] := by intro h; have := HLT.out; rw [h] at this; simp at this; omega
            have HPA := Lib.hid (fun W => Parse_any t W hne HDT.out (limbs_of_bits (by omega)) (by have := HLT.out; omega))
            have hp1 : 0 < (10 : Nat) ^ (-x).toNat := Nat.pow_pos (by decide)
            generalize digVal t.data.toList = D at *
            have P1 := Lib.hid (fun W => pow10_any x.toNat W (limbs_of_bits (by omega)) (by omega))
            have P2 := Lib.hid (fun W => pow10_any (-x).toNat W (limbs_of_bits (by omega)) (by omega))
            have M1 := Lib.hid (fun W va vb h1 h2 => Mul_any va vb D (10 ^ x.toNat) W h1 h2 (limbs_of_bits (by omega)) (limbs_of_bits (by omega)) (limbs_of_bits (by omega)))
            have hNE : Hid (∀ (W : World) (va vb : Value), NatV W va (D * 10 ^ x.toNat) → NatV W vb (10 ^ (-x).toNat) → Calls Tryd.prog 22 #[va, vb] W fun e W' => e = .returned (.float .f64 R) ∧ Below W.heap.size W W') := by
              intro W va vb h1 h2
              refine (nearest_any va vb _ _ W h1 h2 hp1 (by omega) (by omega) hB3).mono ?_
              rintro e W' ⟨E, hE, rfl, hb⟩
              rw [nearBits_near (Nat.mul_pos hD0 (Nat.pow_pos (by decide))) hp1 hE]
              exact ⟨by rw [HRR.out], hb⟩
            obtain ⟨k1, hk1⟩ : ∃ k : Nat, k = x.toNat := ⟨_, rfl⟩
            obtain ⟨k2, hk2⟩ : ∃ k : Nat, k = (-x).toNat := ⟨_, rfl⟩
            have e1 : max x 0 = (k1 : Int) := by omega
            have e2 : max (-x) 0 = (k2 : Int) := by omega
            rw [← hk1] at P1 M1 hNE
            rw [← hk2] at P2 hNE
            generalize 10 ^ k1 = p1 at *
            generalize 10 ^ k2 = p2 at *
            clear hDl hB1 hB2 hB3 hB4 hB5 hne hp1 HRR hk1 hk2
            go_wp2_with fail
            refine (HPA.out w3).mono ?_
            rintro e w4 ⟨v4, rfl, hv4, hb4⟩
            have HV4 := Lib.hid hv4
            have HB4 := Lib.hid (HB3.out.trans (hb4.mono hbs))
            have hs4 := hb4.size
            clear hv4 hb4 HB3 HPA
            go_wp2_with fail
            refine (P1.out w4).mono ?_
            rintro e w5 ⟨v5, rfl, hv5, hb5⟩
            have HM := Lib.hid (M1.out w5 v4 v5 (HV4.out.below hb5) hv5)
            have HB5 := Lib.hid (HB4.out.trans (hb5.mono (by omega)))
            have hs5 := hb5.size
            clear hv5 hb5 HB4 HV4 P1 M1
            go_wp2_with fail
            refine HM.out.mono ?_
            rintro e w6 ⟨v6, rfl, hv6, hb6⟩
            have HV6 := Lib.hid hv6
            have HB6 := Lib.hid (HB5.out.trans (hb6.mono (by omega)))
            have hs6 := hb6.size
            clear hv6 hb6 HB5 HM
            go_wp2_with fail
            refine (P2.out w6).mono ?_
            rintro e w7 ⟨v7, rfl, hv7, hb7⟩
            have HN := Lib.hid (hNE.out w7 v6 v7 (HV6.out.below hb7) hv7)
            have HB7 := Lib.hid (HB6.out.trans (hb7.mono (by omega)))
            have hs7 := hb7.size
            clear hv7 hb7 HB6 HV6 P2 hNE
            go_wp2_with fail
            refine HN.out.mono ?_
            rintro e w8 ⟨rfl, hb8⟩
            have HB8 := Lib.hid (HB7.out.trans (hb8.mono (by omega)))
            clear hb8 HN HB7
            go_wp2_with fail
            go_ret2
            exact ⟨rfl, HB8.out⟩
end Go.Proofs.YtcmpdamfeoaapaaDoor
end

section
/- thresherlaw03: text, same. -/
namespace Go.Proofs.YtcmpdamfeoaapaaDoor
open Go.RowKit
set_option linter.unusedVariables false

theorem same_any (x y : Nat) (w : World) : Calls Tryd.prog 8 #[.float .f64 x, .float .f64 y] w fun e w' => e = .returned (.bool (x == y)) ∧ w' = w := by
  go_enter Tryd.func8, Tryd.ntmps8
  go_wp2_with fail
  go_ret
  refine ⟨?_, rfl⟩
  rw [show ((x : Int) == (y : Int)) = (x == y) by rw [Bool.eq_iff_iff, beq_iff_eq, beq_iff_eq]; omega]
  rfl

/-- the sign of a digit -/
def dig (r : Nat) : UInt8 := UInt8.ofNat (48 + r)
theorem dig_nat (r : Nat) (h : r < 10) : (dig r).toNat = 48 + r := by
  unfold dig; rw [UInt8.toNat_ofNat', Nat.mod_eq_of_lt (by omega)]
theorem cell_one (w : World) (t : TypeId) (n : Nat) (v : Int) (hv : v = (48 + n % 10 : Nat)) : ∀ j (hj : j < [dig (n % 10)].length), (w.alloc (.cells #[.int .u8 v] t)).cell? ⟨w.heap.size, j, none⟩ = some (.int .u8 ([dig (n % 10)][j].toNat : Nat)) := by
  intro j hj
  have h1 : j < 1 := hj
  obtain rfl : j = 0 := by omega
  simp only [List.getElem_cons_zero]
  rw [dig_nat _ (by omega), World.cell?_alloc_new, hv]
  rfl

/-- the digits of n so far: the least of them are r, m is what is left -/
structure Left (n m : Nat) (l r : List UInt8) : Prop where
  eq : l = dig (m % 10) :: r
  val : n = m * 10 ^ r.length + digVal r
  dig : Digits r
  pos : r = [] ∨ 0 < m
theorem Left.start (n : Nat) : Left n n [Go.Proofs.YtcmpdamfeoaapaaDoor.dig (n % 10)] [] := ⟨rfl, by simp [digVal], by intro c hc; simp at hc, .inl rfl⟩
theorem Left.digits {n m : Nat} {l r : List UInt8} (h : Left n m l r) : Digits l := by
  rw [h.eq]
  intro c hc
  rcases List.mem_cons.1 hc with rfl | h2
  · rw [dig_nat _ (by omega)]; omega
  · exact h.dig c h2
theorem Left.digVal {n m : Nat} {l r : List UInt8} (h : Left n m l r) : digVal l = (m % 10) * 10 ^ r.length + Go.Proofs.YtcmpdamfeoaapaaDoor.digVal r := by
  rw [h.eq, digVal_cons, dig_nat _ (by omega)]
  congr 2
  omega
theorem Left.step {n m : Nat} {l r : List UInt8} (h : Left n m l r) (hm : 10 ≤ m) : Left n (m / 10) (Go.Proofs.YtcmpdamfeoaapaaDoor.dig (m / 10 % 10) :: l) l := by
  refine ⟨rfl, ?_, h.digits, .inr (by omega)⟩
  rw [h.digVal]
  have h1 := h.val
  have e : l.length = r.length + 1 := by rw [h.eq]; rfl
  rw [e, Nat.pow_succ]
  generalize 10 ^ r.length = P at *
  have e2 : m = 10 * (m / 10) + m % 10 := by omega
  rw [h1]
  generalize m / 10 = a at *
  generalize m % 10 = b at *
  subst e2
  have e3 : (10 * a + b) * P = a * (P * 10) + b * P := by rw [Nat.add_mul, Nat.mul_comm 10 a, Nat.mul_assoc, Nat.mul_comm 10 P]
  omega
theorem Left.canon {n m : Nat} {l r : List UInt8} (h : Left n m l r) (hm : m < 10) : Canon l n := by
  refine ⟨by rw [h.eq]; simp, h.digits, ?_, ?_⟩
  · rw [h.digVal, h.val, Nat.mod_eq_of_lt hm]
  · intro c t hl hc
    rw [h.eq] at hl
    injection hl with h1 h2
    subst h2
    rw [← h1, dig_nat _ (by omega)] at hc
    rcases h.pos with h3 | h3
    · exact h3
    · omega
theorem Left.short {n m : Nat} {l r : List UInt8} (h : Left n m l r) (hn : n < 18446744073709551616) : l.length ≤ 20 := by
  have e : l.length = r.length + 1 := by rw [h.eq]; rfl
  rcases h.pos with h1 | h1
  · rw [e, h1]; decide
  · have h2 : 10 ^ r.length ≤ n := by
      rw [h.val]
      have : 1 * 10 ^ r.length ≤ m * 10 ^ r.length := Nat.mul_le_mul_right _ h1
      omega
    have h3 : r.length < 20 := (Nat.pow_lt_pow_iff_right (a := 10) (by decide)).1 (Nat.lt_of_le_of_lt h2 (Nat.lt_of_lt_of_le hn (by decide)))
    omega

end Go.Proofs.YtcmpdamfeoaapaaDoor
end

section
/- thresherlaw03: fixed; a number has one text. -/
namespace Go.Proofs.YtcmpdamfeoaapaaDoor
open Go.RowKit
set_option linter.unusedVariables false

theorem digits_unique : ∀ l l' : List UInt8, Digits l → Digits l' → l.length = l'.length → digVal l = digVal l' → l = l'
  | [], [], _, _, _, _ => rfl
  | [], _ :: _, _, _, h, _ => by simp at h
  | _ :: _, [], _, _, h, _ => by simp at h
  | c :: r, c' :: r', hd, hd', hl, hv => by
    have hl2 : r.length = r'.length := by simpa using hl
    have h1 := hd c (by simp)
    have h1' := hd' c' (by simp)
    have hr : Digits r := fun x hx => hd x (by simp [hx])
    have hr' : Digits r' := fun x hx => hd' x (by simp [hx])
    rw [digVal_cons, digVal_cons, hl2] at hv
    have h2 := digVal_lt hr
    have h2' := digVal_lt hr'
    rw [hl2] at h2
    have hP : 0 < 10 ^ r'.length := Nat.pow_pos (by decide)
    generalize 10 ^ r'.length = P at *
    have ha : (digVal r + P * (c.toNat - 48)) / P = (digVal r' + P * (c'.toNat - 48)) / P := by
      rw [Nat.mul_comm P, Nat.mul_comm P, Nat.add_comm, hv, Nat.add_comm]
    rw [Nat.add_mul_div_left _ _ hP, Nat.add_mul_div_left _ _ hP, Nat.div_eq_of_lt h2, Nat.div_eq_of_lt h2'] at ha
    have hc : c = c' := UInt8.toNat_inj.1 (by omega)
    subst hc
    rw [digits_unique r r' hr hr' hl2 (by omega)]
theorem canon_low {l : List UInt8} {x : Nat} (h : Canon l x) (hl : 1 < l.length) : 10 ^ (l.length - 1) ≤ x := by
  cases h1 : l with
  | nil => exact absurd h1 h.ne
  | cons c r =>
    have h2 := h.dig c (by rw [h1]; simp)
    have h3 : c.toNat ≠ 48 := fun h4 => by
      have := h.top c r h1 h4
      rw [h1, this] at hl; simp at hl
    have h5 := h.val
    rw [h1, digVal_cons] at h5
    have h6 : 1 * 10 ^ r.length ≤ (c.toNat - 48) * 10 ^ r.length := Nat.mul_le_mul_right _ (by omega)
    simp only [List.length_cons, Nat.add_sub_cancel]
    omega
theorem canon_length {l l' : List UInt8} {x : Nat} (h : Canon l x) (h' : Canon l' x) : l.length ≤ l'.length := by
  rcases Nat.lt_or_ge l'.length l.length with h1 | h1
  · exfalso
    have h0 : 0 < l'.length := List.length_pos_iff.2 h'.ne
    have h2 := canon_low h (by omega)
    have h3 := digVal_lt h'.dig
    rw [h'.val] at h3
    have h4 : 10 ^ l'.length ≤ 10 ^ (l.length - 1) := Nat.pow_le_pow_right (by decide) (by omega)
    omega
  · exact h1
/-- a number has one text -/
theorem canon_unique {l l' : List UInt8} {x : Nat} (h : Canon l x) (h' : Canon l' x) : l = l' :=
  digits_unique l l' h.dig h'.dig (Nat.le_antisymm (canon_length h h') (canon_length h' h)) (by rw [h.val, h'.val])
theorem digits_mk {l : List UInt8} (h : (l.all fun c => decide (48 ≤ c.toNat) && decide (c.toNat ≤ 57)) = true) : Digits l := by
  intro c hc
  have := List.all_eq_true.1 h c hc
  simpa using this
theorem canon_mk {l : List UInt8} {x : Nat} (h : (l.all fun c => decide (48 ≤ c.toNat) && decide (c.toNat ≤ 57)) = true) (hne : l ≠ []) (hv : digVal l = x) (ht : l.length = 1 ∨ l.head? ≠ some 48) : Canon l x := by
  refine ⟨hne, ?_, hv, ?_⟩
  · intro c hc
    have := List.all_eq_true.1 h c hc
    simpa using this
  · intro c r hl hc
    rcases ht with h1 | h1
    · rw [hl] at h1; simpa using h1
    · rw [hl] at h1
      exact absurd (by simp; exact UInt8.toNat_inj.1 hc) h1

def okAt (i : Nat) : Bool := !(decide (1000 ≤ scaledN 4653144203864309760 (3 - ((i : Int) - 325))) && decide (scaledN 4653144203864309760 (3 - ((i : Int) - 325)) < 10000)) || i == 328
theorem okAll : (List.range 635).all okAt = true := by kernel_rfl
theorem sci_fixed {x : Int} (h1 : -325 ≤ x) (h2 : x ≤ 309) (h : SciAt 4653144203864309760 3 x) : x = 3 := by
  have h3 := List.all_eq_true.1 okAll (x + 325).toNat (List.mem_range.2 (by omega))
  unfold okAt at h3
  rw [show (((x + 325).toNat : Nat) : Int) - 325 = x by omega] at h3
  have h4 := h.ge
  have h5 := h.lt
  rw [show (10 : Nat) ^ 3 = 1000 by decide] at h4
  rw [show (10 : Nat) ^ (3 + 1) = 10000 by decide] at h5
  have e : ((3 : Nat) : Int) = 3 := rfl
  rw [e] at h4 h5
  rw [decide_eq_true h4, decide_eq_true h5] at h3
  have h6 : (x + 325).toNat = 328 := by simpa using h3
  omega

theorem toBytes {s : ByteArray} {l : List UInt8} (h : s.data.toList = l) : s = ⟨l.toArray⟩ := by
  cases s; simp at h; subst h; rfl

theorem Read_fixed (w : World) : Calls Tryd.prog 6 #[.string ⟨#[51, 49, 52, 49, 54]⟩, .int .i64 (-4)] w fun e w' => e = .returned (.tuple #[.float .f64 4614256673094690983, .int .i64 0]) ∧ Below w.heap.size w w' := by
  have h := Read_ok ⟨#[51, 49, 52, 49, 54]⟩ (-4) w (by simp) (digits_mk (by decide)) (by decide) (by decide) (by decide)
  rw [show readB (⟨#[51, 49, 52, 49, 54]⟩ : ByteArray).data.toList (-4) = 4614256673094690983 by kernel_rfl] at h
  exact h
theorem Fixed_fixed (w : World) : Calls Tryd.prog 10 #[.float .f64 4612811918334230528, .int .i64 0] w fun e w' => e = .returned (.tuple #[.string ⟨#[50]⟩, .int .i64 0]) ∧ Below w.heap.size w w' := by
  refine (Fixed_ok 4612811918334230528 0 w (by decide) (by decide) (by decide)).mono ?_
  rintro e w' ⟨s, l, rfl, hc, hs, hb⟩
  rw [show scaledN 4612811918334230528 (0 : Nat) = 2 by kernel_rfl] at hc
  have hl := canon_unique hc (canon_mk (l := [50]) (by decide) (by simp) (by decide) (.inl rfl))
  rw [hl] at hs
  rw [toBytes hs]
  exact ⟨rfl, hb⟩
theorem Sci_fixed (w : World) : Calls Tryd.prog 12 #[.float .f64 4653144203864309760, .int .i64 3] w fun e w' => e = .returned (.tuple #[.string ⟨#[49, 50, 51, 52]⟩, .int .i64 3, .int .i64 0]) ∧ Below w.heap.size w w' := by
  refine (Sci_loop 4653144203864309760 3 w (by decide) (by decide) (by decide) (by decide)).mono ?_
  rintro e w' ⟨s, x, rfl, hc, hl, hsa, hx1, hx2, hb⟩
  obtain rfl := sci_fixed hx1 hx2 hsa
  rw [show scaledN 4653144203864309760 ((3 : Nat) - 3) = 1234 by kernel_rfl] at hc
  have hl := canon_unique hc (canon_mk (l := [49, 50, 51, 52]) (by decide) (by simp) (by decide) (.inr (by decide)))
  rw [toBytes hl]
  exact ⟨rfl, hb⟩

set_option maxRecDepth 100000 in
set_option maxHeartbeats 2000000 in
theorem fixed_any (w : World) : Calls Tryd.prog 5 #[] w fun e w' => e = .returned (.bool true) ∧ Below w.heap.size w w' := by
  go_enter Tryd.func5, Tryd.ntmps5
  go_wp2_with fail
  refine (Read_fixed w).mono ?_
  rintro e w1 ⟨rfl, hb1⟩
  have HB1 := Lib.hid hb1
  have hs1 := hb1.size
  clear hb1
  go_wp2_with fail
  refine (Fixed_fixed w1).mono ?_
  rintro e w2 ⟨rfl, hb2⟩
  have HB2 := Lib.hid (HB1.out.trans (hb2.mono hs1))
  have hs2 := hb2.size
  clear hb2 HB1
  go_wp2_with fail
  refine (Sci_fixed w2).mono ?_
  rintro e w3 ⟨rfl, hb3⟩
  have HB3 := Lib.hid (HB2.out.trans (hb3.mono (by omega)))
  clear hb3 HB2
  go_wp2_with fail
  go_ret
  exact ⟨rfl, HB3.out⟩
end Go.Proofs.YtcmpdamfeoaapaaDoor
end

section
/- Plain: how the model reads a float's bits, and compares them. -/
namespace Go.Proofs.YtcmpdamfeoaapaaDoor
open Go

/-- the float in steps of the least one -/
def vl (b : Nat) : Nat := mof b * 2 ^ jof b
theorem vl_lt {x y : Nat} (h : x < y) : vl x < vl y := by
  unfold vl
  have hx := bits_parts x
  have hy := bits_parts y
  have h1 := mof_lt x
  have h2 := mof_lt y
  have h3 := mof_ge x
  have h4 := mof_ge y
  rcases Nat.lt_trichotomy (jof x) (jof y) with hj | hj | hj
  · have h5 : 2 ^ 52 ≤ mof y := by rcases h4 with h | h; omega; exact h
    calc mof x * 2 ^ jof x < 2 ^ 53 * 2 ^ jof x := Nat.mul_lt_mul_of_pos_right h1 (pow2_pos _)
      _ = 2 ^ 52 * 2 ^ (jof x + 1) := by rw [two53, Nat.pow_succ 2 (jof x), Nat.mul_assoc, Nat.mul_comm 2]
      _ ≤ 2 ^ 52 * 2 ^ jof y := Nat.mul_le_mul_left _ (Nat.pow_le_pow_right (by decide) hj)
      _ ≤ mof y * 2 ^ jof y := Nat.mul_le_mul_right _ h5
  · rw [hj]
    exact Nat.mul_lt_mul_of_pos_right (by rw [hj] at hx; omega) (pow2_pos _)
  · exfalso
    have h5 : (jof y + 1) * 2 ^ 52 ≤ jof x * 2 ^ 52 := Nat.mul_le_mul_right _ hj
    rw [Nat.add_mul] at h5
    have h6 : 2 ^ 52 ≤ mof x := by rcases h3 with h | h; omega; exact h
    have h7 : (2 : Nat) ^ 53 = 2 ^ 52 + 2 ^ 52 := by decide
    omega
theorem vl_le {x y : Nat} (h : x ≤ y) : vl x ≤ vl y := by
  rcases Nat.eq_or_lt_of_le h with rfl | h
  · exact Nat.le_refl _
  · exact Nat.le_of_lt (vl_lt h)
theorem read_inf : FloatKind.f64.format.read 9218868437227405312 = .infinity false := by decide
theorem read_fin {b : Nat} (h : b < 9218868437227405312) : FloatKind.f64.format.read b = .number false (mof b) ((jof b : Int) - 1074) := by
  have e1 : FloatKind.f64.format.signWeight = 9223372036854775808 := by decide
  have e2 : FloatKind.f64.format.binade = 4503599627370496 := by decide
  have e3 : FloatKind.f64.format.infRung = 9218868437227405312 := by decide
  have e4 : FloatKind.f64.format.leastPlace = -1074 := by decide
  have e5 : (b / 9223372036854775808 % 2 == 1) = false := by rw [Nat.div_eq_of_lt (by omega)]; rfl
  have e6 : b % 9223372036854775808 = b := Nat.mod_eq_of_lt (by omega)
  unfold Ieee.Format.read
  simp only [e1, e2, e3, e4, e5, e6]
  have e7 : (2 : Nat) ^ 52 = 4503599627370496 := by decide
  unfold mof jof
  rw [e7]
  by_cases hs : b < 4503599627370496
  · rw [if_pos hs, if_pos (by omega)]
    congr 1
    rw [Nat.div_eq_of_lt hs]
    rfl
  · rw [if_neg hs, if_pos h, if_neg (by omega)]
    congr 1
    all_goals omega
theorem order_fin {x y : Nat} (hx : x < 9218868437227405312) (hy : y < 9218868437227405312) : FloatKind.f64.format.order x y = some (compare x y) := by
  unfold Ieee.Format.order
  rw [read_fin hx, read_fin hy]
  unfold Ieee.Datum.order
  simp only
  congr 1
  obtain ⟨c, hc⟩ : ∃ c, c = min (jof x) (jof y) := ⟨_, rfl⟩
  have e1 : ((jof x : Int) - 1074 - min ((jof x : Int) - 1074) ((jof y : Int) - 1074)).toNat = jof x - c := by omega
  have e2 : ((jof y : Int) - 1074 - min ((jof x : Int) - 1074) ((jof y : Int) - 1074)).toNat = jof y - c := by omega
  rw [e1, e2]
  unfold Ieee.signed
  simp only [Bool.false_eq_true, if_false]
  rw [Nat.shiftLeft_eq, Nat.shiftLeft_eq]
  have h1 : mof x * 2 ^ (jof x - c) * 2 ^ c = vl x := by unfold vl; rw [Nat.mul_assoc, ← Nat.pow_add, Nat.sub_add_cancel (by omega)]
  have h2 : mof y * 2 ^ (jof y - c) * 2 ^ c = vl y := by unfold vl; rw [Nat.mul_assoc, ← Nat.pow_add, Nat.sub_add_cancel (by omega)]
  have hp := pow2_pos c
  generalize mof x * 2 ^ (jof x - c) = a at *
  generalize mof y * 2 ^ (jof y - c) = b at *
  rcases Nat.lt_trichotomy x y with h | h | h
  · have h3 := vl_lt h
    rw [← h1, ← h2] at h3
    have h4 := Nat.lt_of_mul_lt_mul_right h3
    rw [Int.compare_eq_lt.2 (by omega), Nat.compare_eq_lt.2 h]
  · subst h
    have h4 : a = b := Nat.eq_of_mul_eq_mul_right hp (h1.trans h2.symm)
    subst h4
    rw [Int.compare_eq_eq.2 rfl, Nat.compare_eq_eq.2 rfl]
  · have h3 := vl_lt h
    rw [← h1, ← h2] at h3
    have h4 := Nat.lt_of_mul_lt_mul_right h3
    rw [Int.compare_eq_gt.2 (by omega), Nat.compare_eq_gt.2 h]
/-- floats that are not negative, and no NaN, are compared as their bits -/
theorem order_pos {x y : Nat} (hx : x ≤ 9218868437227405312) (hy : y ≤ 9218868437227405312) : FloatKind.f64.format.order x y = some (compare x y) := by
  rcases Nat.eq_or_lt_of_le hx with h1 | h1 <;> rcases Nat.eq_or_lt_of_le hy with h2 | h2
  · subst h1 h2; decide
  · subst h1
    unfold Ieee.Format.order
    rw [read_inf, read_fin h2, Nat.compare_eq_gt.2 h2]
    rfl
  · subst h2
    unfold Ieee.Format.order
    rw [read_inf, read_fin h1, Nat.compare_eq_lt.2 h1]
    rfl
  · exact order_fin h1 h2
theorem order_lt {x y : Nat} (hx : x ≤ 9218868437227405312) (hy : y ≤ 9218868437227405312) (h : x < y) : FloatKind.f64.format.order x y = some .lt := by rw [order_pos hx hy, Nat.compare_eq_lt.2 h]
theorem order_gt {x y : Nat} (hx : x ≤ 9218868437227405312) (hy : y ≤ 9218868437227405312) (h : y < x) : FloatKind.f64.format.order x y = some .gt := by rw [order_pos hx hy, Nat.compare_eq_gt.2 h]
theorem order_eq {x : Nat} (hx : x ≤ 9218868437227405312) : FloatKind.f64.format.order x x = some .eq := by rw [order_pos hx hx, Nat.compare_eq_eq.2 rfl]
end Go.Proofs.YtcmpdamfeoaapaaDoor
end

section
/- thresherlaw03: DecRises. -/
namespace Go.Proofs.YtcmpdamfeoaapaaDoor
open Go.RowKit
set_option linter.unusedVariables false

theorem bare_self {c : UInt8} {r : List UInt8} (h : c ≠ 48) : bare (c :: r) = c :: r := by
  unfold bare
  rw [List.dropWhile_cons, if_neg (by simpa using h)]
theorem bare_nought (l : List UInt8) : bare (48 :: l) = bare l := by
  unfold bare
  rw [List.dropWhile_cons, if_pos (by decide)]
theorem canon_zero_text {l : List UInt8} (h : Canon l 0) : l = [48] :=
  canon_unique h (canon_mk (by decide) (by simp) (by decide) (.inl rfl))
theorem canon_pos_text {l : List UInt8} {n : Nat} (h : Canon l n) (hn : 0 < n) : ∃ c r, l = c :: r ∧ c ≠ 48 := by
  cases h1 : l with
  | nil => exact absurd h1 h.ne
  | cons c r =>
    refine ⟨c, r, rfl, fun hc => ?_⟩
    have h2 := h.top c r h1 (by rw [hc]; decide)
    rw [h1, h2, hc] at h
    have h3 := h.val
    have h4 : digVal [48] = 0 := by decide
    omega
theorem readB_nil {l : List UInt8} (h : bare l = []) (e : Int) : readB l e = 0 := by
  unfold readB
  rw [h, if_pos (.inl rfl)]
theorem readB_le (l : List UInt8) (e : Int) : readB l e ≤ 9218868437227405312 := by
  unfold readB
  split
  · omega
  · split
    · omega
    · split
      · omega
      · exact near_le _ _
theorem readB_inf {l : List UInt8} {e : Int} (h0 : (bare l).length ≠ 0) (h1 : -4000 ≤ e) (h : 310 < (bare l).length + e) : readB l e = 9218868437227405312 := by
  unfold readB
  rw [if_neg (by omega), if_pos (.inr h)]
theorem readB_low {l : List UInt8} {e : Int} (h2 : e ≤ 2000) (h : (bare l).length + e < -330) : readB l e = 0 := by
  unfold readB
  by_cases h3 : (bare l).length = 0 ∨ e < -4000
  · rw [if_pos h3]
  · rw [if_neg h3, if_neg (by omega), if_pos h]
theorem readB_near {l : List UInt8} {e : Int} (h0 : (bare l).length ≠ 0) (h1 : -4000 ≤ e) (h2 : e ≤ 2000) (h3 : -330 ≤ (bare l).length + e) (h4 : (bare l).length + e ≤ 310) : readB l e = near (digVal (bare l) * 10 ^ e.toNat) (10 ^ (-e).toNat) := by
  unfold readB
  rw [if_neg (by omega), if_neg (by omega), if_neg (by omega)]
theorem bare_pos_text {l : List UInt8} {n : Nat} (h : Canon l n) (hn : 0 < n) : bare l = l := by
  obtain ⟨c, r, rfl, hc⟩ := canon_pos_text h hn
  exact bare_self hc
theorem readB_append {l : List UInt8} {n : Nat} {e : Int} (h : Canon l n) (h1 : -700 ≤ e) (h2 : e ≤ 700) : readB (l ++ [48]) (e - 1) = readB l e := by
  rcases Nat.eq_zero_or_pos n with hn | hn
  · subst hn
    rw [canon_zero_text h, readB_nil (by decide), readB_nil (by decide)]
  · have hb0 := bare_pos_text h hn
    have hb : bare (l ++ [48]) = l ++ [48] := by
      obtain ⟨c, r, rfl, hc⟩ := canon_pos_text h hn
      exact bare_self hc
    have hk : (bare (l ++ [48])).length = l.length + 1 := by rw [hb]; simp
    have hk0 : (bare l).length = l.length := by rw [hb0]
    have hk1 : l.length ≠ 0 := by have := List.length_pos_iff.2 h.ne; omega
    rcases Int.lt_or_le 310 (l.length + e) with c2 | c2
    · rw [readB_inf (by omega) (by omega) (by omega), readB_inf (by omega) (by omega) (by omega)]
    · rcases Int.lt_or_le (l.length + e) (-330) with c3 | c3
      · rw [readB_low (by omega) (by omega), readB_low (by omega) (by omega)]
      · rw [readB_near (by omega) (by omega) (by omega) (by omega) (by omega), readB_near (by omega) (by omega) (by omega) (by omega) (by omega), hb, hb0, digVal_snoc, h.val]
        have e0 : (UInt8.toNat 48 - 48 : Nat) = 0 := by decide
        rw [e0, Nat.add_zero]
        refine near_same (Nat.pow_pos (by decide)) (Nat.pow_pos (by decide)) ?_
        rcases Int.lt_or_le 0 e with he | he
        · rw [show e.toNat = (e - 1).toNat + 1 by omega, show (-e).toNat = (-(e - 1)).toNat by omega, Nat.pow_succ]
          generalize 10 ^ (-(e - 1)).toNat = P
          generalize 10 ^ (e - 1).toNat = Q
          ac_rfl
        · rw [show (-(e - 1)).toNat = (-e).toNat + 1 by omega, show (e - 1).toNat = e.toNat by omega, Nat.pow_succ]
          generalize 10 ^ (-e).toNat = P
          generalize 10 ^ e.toNat = Q
          ac_rfl
theorem readB_noughts (l : List UInt8) (e : Int) : readB (48 :: 48 :: l) e = readB l e := by
  unfold readB
  rw [bare_nought, bare_nought]
theorem canon_rise {l l' : List UInt8} {n m : Nat} (h : Canon l n) (h' : Canon l' m) (hn : 0 < n) (hnm : n ≤ m) : l.length ≤ l'.length := by
  have h3 := digVal_lt h'.dig
  rw [h'.val] at h3
  have h0 : 0 < l'.length := List.length_pos_iff.2 h'.ne
  rcases Nat.lt_or_ge l'.length l.length with h1 | h1
  · have h2 := canon_low h (by omega)
    have h4 : 10 ^ l'.length ≤ 10 ^ (l.length - 1) := Nat.pow_le_pow_right (by decide) (by omega)
    omega
  · exact h1
theorem readB_mono {l l' : List UInt8} {n m : Nat} {e : Int} (h : Canon l n) (h' : Canon l' m) (hnm : n ≤ m) (h1 : -700 ≤ e) (h2 : e ≤ 700) : readB l e ≤ readB l' e := by
  rcases Nat.eq_zero_or_pos n with hn | hn
  · subst hn
    rw [canon_zero_text h, readB_nil (by decide)]
    exact Nat.zero_le _
  · have hl := canon_rise h h' hn hnm
    have hk : (bare l).length = l.length := by rw [bare_pos_text h hn]
    have hk' : (bare l').length = l'.length := by rw [bare_pos_text h' (by omega)]
    have hk1 : l.length ≠ 0 := by have := List.length_pos_iff.2 h.ne; omega
    rcases Int.lt_or_le 310 (l'.length + e) with c2 | c2
    · rw [readB_inf (l := l') (by omega) (by omega) (by omega)]
      exact readB_le _ _
    · rcases Int.lt_or_le (l.length + e) (-330) with c3 | c3
      · rw [readB_low (l := l) (by omega) (by omega)]
        exact Nat.zero_le _
      · rw [readB_near (l := l) (by omega) (by omega) (by omega) (by omega) (by omega), readB_near (l := l') (by omega) (by omega) (by omega) (by omega) (by omega), bare_pos_text h hn, bare_pos_text h' (by omega), h.val, h'.val]
        exact near_mono (Nat.pow_pos (by decide)) (Nat.pow_pos (by decide)) (Nat.mul_le_mul_right _ (Nat.mul_le_mul_right _ hnm))

end Go.Proofs.YtcmpdamfeoaapaaDoor
end

section
/- Plain: seventeen digits tell a float; digits of a float near it. -/
namespace Go.Proofs.YtcmpdamfeoaapaaDoor
open Go

theorem mant_mof {b : Nat} (h : b < 9218868437227405312) : mant b = mof b ∧ (expo b + 1074).toNat = jof b ∧ -1074 ≤ expo b := by
  have e6 : b % 9223372036854775808 = b := Nat.mod_eq_of_lt (by omega)
  have e7 : (2 : Nat) ^ 52 = 4503599627370496 := by decide
  have hx := expo_bounds (b := b)
  refine ⟨?_, ?_, hx.1⟩
  · unfold mant mof
    rw [e6, e7, if_neg (by omega)]
    by_cases h1 : b / 4503599627370496 = 0
    · rw [if_pos h1, if_pos h1]; omega
    · rw [if_neg h1, if_neg h1]
  · unfold expo jof
    rw [e6, e7, if_neg (by omega)]
    by_cases h1 : b / 4503599627370496 = 0
    · rw [if_pos h1, h1]; rfl
    · rw [if_neg h1]; omega
theorem fin_lt_inf {b : Nat} (hb : b < 9223372036854775808) : fin b = true ↔ b < 9218868437227405312 := by
  unfold fin
  rw [Nat.mod_eq_of_lt hb]
  simp
  omega
/-- the float as the fraction that the digits are rounded from -/
def numP (b : Nat) (k : Int) : Nat := mant b * 10 ^ k.toNat * 2 ^ (expo b).toNat
def denQ (b : Nat) (k : Int) : Nat := 10 ^ (-k).toNat * 2 ^ (-(expo b)).toNat
theorem denQ_pos (b : Nat) (k : Int) : 0 < denQ b k := Nat.mul_pos (Nat.pow_pos (by decide)) (pow2_pos _)
theorem scaledN_spec (b : Nat) (k : Int) : 2 * numP b k ≤ (2 * scaledN b k + 1) * denQ b k ∧ 2 * scaledN b k * denQ b k ≤ 2 * numP b k + denQ b k := rnd_spec (denQ_pos b k)
/-- the float's value, and the digits' value, over one denominator -/
theorem value_P {b : Nat} (h : b < 9218868437227405312) (k : Int) : mof b * (2 ^ jof b * 10 ^ k.toNat) * 2 ^ (-(expo b)).toNat = numP b k * kk := by
  obtain ⟨h1, h2, h3⟩ := mant_mof h
  have h4 := pow2_int h3
  rw [h2] at h4
  unfold numP
  rw [h1]
  calc mof b * (2 ^ jof b * 10 ^ k.toNat) * 2 ^ (-(expo b)).toNat = mof b * 10 ^ k.toNat * (2 ^ (-(expo b)).toNat * 2 ^ jof b) := by ac_rfl
    _ = mof b * 10 ^ k.toNat * 2 ^ (expo b).toNat * kk := by rw [h4]; generalize kk = K; ac_rfl
theorem value_Q (b N : Nat) (k : Int) : N * 10 ^ (-k).toNat * kk * 2 ^ (-(expo b)).toNat = N * denQ b k * kk := by
  unfold denQ
  generalize kk = K
  ac_rfl
theorem lin_back {N P Q : Nat} (hN : 10000000000000000 * Q ≤ N * Q) (h1 : 2 * P ≤ 2 * (N * Q) + Q) (h2 : 2 * (N * Q) ≤ 2 * P + Q) :
    20000000000000000 * (N * Q) ≤ 20000000000000000 * P + N * Q ∧ 20000000000000000 * P ≤ 20000000000000000 * (N * Q) + N * Q := by omega
theorem near_back {b : Nat} {k : Int} (h : b < 9218868437227405312) (hN : 10 ^ 16 ≤ scaledN b k) : near (scaledN b k * 10 ^ (-k).toNat) (10 ^ k.toNat) = b := by
  obtain ⟨s1, s2⟩ := scaledN_spec b k
  have hQ := denQ_pos b k
  have hNQ : 10 ^ 16 * denQ b k ≤ scaledN b k * denQ b k := Nat.mul_le_mul_right _ hN
  rw [show (10 : Nat) ^ 16 = 10000000000000000 by decide] at hNQ
  have e1 : (2 * scaledN b k + 1) * denQ b k = 2 * (scaledN b k * denQ b k) + denQ b k := by rw [Nat.succ_mul, Nat.mul_assoc]
  have e2 : 2 * scaledN b k * denQ b k = 2 * (scaledN b k * denQ b k) := Nat.mul_assoc _ _ _
  rw [e1] at s1
  rw [e2] at s2
  obtain ⟨l1, l2⟩ := lin_back hNQ s1 s2
  have hT : 0 < 2 ^ (-(expo b)).toNat := pow2_pos _
  have v1 := value_P h k
  have v2 := value_Q b (scaledN b k) k
  refine near_close (Nat.pow_pos (by decide)) (Nat.le_of_lt h) ?_ ?_
  · refine Nat.le_of_mul_le_mul_right ?_ hT
    have m1 := Nat.mul_le_mul_right kk l1
    rw [Nat.add_mul, Nat.mul_assoc 20000000000000000, Nat.mul_assoc 20000000000000000] at m1
    rw [Nat.add_mul, Nat.mul_assoc, v2, Nat.mul_assoc 20000000000000000 (mof b * _), v1]
    generalize kk = K at *
    exact m1
  · refine Nat.le_of_mul_le_mul_right ?_ hT
    have m2 := Nat.mul_le_mul_right kk l2
    rw [Nat.add_mul, Nat.mul_assoc, Nat.mul_assoc] at m2
    rw [Nat.add_mul, Nat.mul_assoc 20000000000000000 (mof b * _), v1, Nat.mul_assoc 20000000000000000, v2]
    generalize kk = K at *
    exact m2
theorem readB_back {b : Nat} {x : Int} {l : List UInt8} (h : b < 9218868437227405312) (hs : SciAt b 16 x) (hx1 : -325 ≤ x) (hx2 : x ≤ 309) (hc : Canon l (scaledN b ((16 : Nat) - x))) (hl : l.length = 17) : readB l (x - 16) = b := by
  have hN := hs.ge
  have hpos : 0 < scaledN b ((16 : Nat) - x) := Nat.lt_of_lt_of_le (Nat.pow_pos (by decide)) hN
  have hb := bare_pos_text hc hpos
  have hbl : (bare l).length = 17 := by rw [hb, hl]
  rw [readB_near (by omega) (by omega) (by omega) (by omega) (by omega), hb, hc.val]
  have e1 : (x - 16).toNat = (-((16 : Nat) - x : Int)).toNat := by omega
  have e2 : (-(x - 16)).toNat = ((16 : Nat) - x : Int).toNat := by omega
  rw [e1, e2]
  exact near_back h hN
end Go.Proofs.YtcmpdamfeoaapaaDoor
end

section
/- Plain: half a digit below and above what is written. -/
namespace Go.Proofs.YtcmpdamfeoaapaaDoor
open Go

theorem digVal_bare : ∀ l : List UInt8, digVal (bare l) = digVal l
  | [] => rfl
  | c :: r => by
    by_cases h : c = 48
    · subst h
      rw [bare_nought, digVal_bare r, digVal_cons]
      have e : (UInt8.toNat 48 - 48 : Nat) = 0 := by decide
      rw [e, Nat.zero_mul, Nat.zero_add]
    · rw [bare_self h]
theorem near_self {b : Nat} (h : b < 9218868437227405312) : near (mant b * 2 ^ (expo b).toNat) (2 ^ (-(expo b)).toNat) = b := by
  obtain ⟨h1, h2, h3⟩ := mant_mof h
  have h4 := pow2_int h3
  rw [h2] at h4
  refine near_exact (pow2_pos _) ?_ (Nat.le_of_lt h)
  rw [h1, Nat.mul_comm (2 ^ jof b), h4, Nat.mul_assoc, Nat.mul_comm kk]
theorem cross_lo {A B c : Nat} {k : Int} (h : c * (10 ^ (-k).toNat * B) ≤ 10 * (A * 10 ^ k.toNat)) : c * 10 ^ (-(k + 1)).toNat * B ≤ A * 10 ^ (k + 1).toNat := by
  rcases Int.lt_or_le k 0 with hk | hk
  · rw [show (-k).toNat = (-(k + 1)).toNat + 1 by omega, show k.toNat = 0 by omega, Nat.pow_succ, Nat.pow_zero, Nat.mul_one] at h
    rw [show (k + 1).toNat = 0 by omega, Nat.pow_zero, Nat.mul_one]
    generalize 10 ^ (-(k + 1)).toNat = D at *
    have e : c * (D * 10 * B) = 10 * (c * D * B) := by ac_rfl
    rw [e] at h
    omega
  · rw [show (-k).toNat = 0 by omega, Nat.pow_zero, Nat.one_mul] at h
    rw [show (k + 1).toNat = k.toNat + 1 by omega, show (-(k + 1)).toNat = 0 by omega, Nat.pow_succ, Nat.pow_zero, Nat.mul_one]
    generalize 10 ^ k.toNat = D at *
    have e : A * (D * 10) = 10 * (A * D) := by ac_rfl
    rw [e]
    exact h
theorem cross_hi {A B c : Nat} {k : Int} (h : 10 * (A * 10 ^ k.toNat) ≤ c * (10 ^ (-k).toNat * B)) : A * 10 ^ (k + 1).toNat ≤ c * 10 ^ (-(k + 1)).toNat * B := by
  rcases Int.lt_or_le k 0 with hk | hk
  · rw [show (-k).toNat = (-(k + 1)).toNat + 1 by omega, show k.toNat = 0 by omega, Nat.pow_succ, Nat.pow_zero, Nat.mul_one] at h
    rw [show (k + 1).toNat = 0 by omega, Nat.pow_zero, Nat.mul_one]
    generalize 10 ^ (-(k + 1)).toNat = D at *
    have e : c * (D * 10 * B) = 10 * (c * D * B) := by ac_rfl
    rw [e] at h
    omega
  · rw [show (-k).toNat = 0 by omega, Nat.pow_zero, Nat.one_mul] at h
    rw [show (k + 1).toNat = k.toNat + 1 by omega, show (-(k + 1)).toNat = 0 by omega, Nat.pow_succ, Nat.pow_zero, Nat.mul_one]
    generalize 10 ^ k.toNat = D at *
    have e : A * (D * 10) = 10 * (A * D) := by ac_rfl
    rw [e]
    exact h
theorem numP_eq (b : Nat) (k : Int) : numP b k = mant b * 2 ^ (expo b).toNat * 10 ^ k.toNat := by unfold numP; ac_rfl
theorem lo_le {b p : Nat} {x : Int} {t : List UInt8} (h : b < 9218868437227405312) (hx1 : -325 ≤ x) (hx2 : x ≤ 309) (hp : p ≤ 200) (hN : 0 < scaledN b (p - x)) (hl : t.length ≤ p + 1) (hv : digVal t = scaledN b (p - x) - 1) : readB (t ++ [53]) (x - p - 1) ≤ b := by
  by_cases h0 : (bare (t ++ [53])).length = 0
  · rw [readB_nil (List.eq_nil_of_length_eq_zero h0)]
    exact Nat.zero_le _
  · have hbl : (bare (t ++ [53])).length ≤ p + 2 := by
      have := bare_length (t ++ [53])
      rw [List.length_append] at this
      simp at this
      omega
    rcases Int.lt_or_le ((bare (t ++ [53])).length + (x - p - 1)) (-330) with c3 | c3
    · rw [readB_low (by omega) (by omega)]
      exact Nat.zero_le _
    · rw [readB_near h0 (by omega) (by omega) (by omega) (by omega), digVal_bare, digVal_snoc, hv]
      have e5 : (UInt8.toNat 53 - 48 : Nat) = 5 := by decide
      rw [e5]
      have hs := (scaledN_spec b (p - x)).2
      have hs2 : (10 * (scaledN b (p - x) - 1) + 5) * denQ b (p - x) ≤ 10 * numP b (p - x) := by
        obtain ⟨N, hNe⟩ : ∃ N, scaledN b (p - x) = N + 1 := ⟨scaledN b (p - x) - 1, by omega⟩
        rw [hNe] at hs ⊢
        generalize denQ b (p - x) = Q at *
        generalize numP b (p - x) = P at *
        have e1 : 2 * (N + 1) * Q = 2 * (N * Q) + 2 * Q := by rw [Nat.mul_assoc, Nat.succ_mul N, Nat.mul_add]
        have e2 : (10 * (N + 1 - 1) + 5) * Q = 10 * (N * Q) + 5 * Q := by rw [Nat.add_sub_cancel, Nat.add_mul, Nat.mul_assoc]
        rw [e1] at hs
        rw [e2]
        omega
      generalize 10 * (scaledN b (p - x) - 1) + 5 = c at *
      rw [numP_eq] at hs2
      have h4 := cross_lo hs2
      have h5 : near (c * 10 ^ (x - p - 1).toNat) (10 ^ (-(x - p - 1)).toNat) ≤ near (mant b * 2 ^ (expo b).toNat) (2 ^ (-(expo b)).toNat) := by
        refine near_mono (Nat.pow_pos (by decide)) (pow2_pos _) ?_
        rw [show x - p - 1 = -((p : Int) - x + 1) by omega, Int.neg_neg]
        exact h4
      rw [near_self h] at h5
      exact h5
theorem hi_ge {b p : Nat} {x : Int} {l : List UInt8} (h : b < 9218868437227405312) (hx1 : -325 ≤ x) (hx2 : x ≤ 309) (hp : p ≤ 200) (hN : 0 < scaledN b (p - x)) (hl : l.length = p + 1) (hc : Canon l (scaledN b (p - x))) : b ≤ readB (l ++ [53]) (x - p - 1) := by
  have hb : bare (l ++ [53]) = l ++ [53] := by
    obtain ⟨c, r, rfl, hcc⟩ := canon_pos_text hc hN
    exact bare_self hcc
  have hbl : (bare (l ++ [53])).length = p + 2 := by rw [hb, List.length_append, hl]; rfl
  rw [readB_near (by omega) (by omega) (by omega) (by omega) (by omega), hb, digVal_snoc, hc.val]
  have e5 : (UInt8.toNat 53 - 48 : Nat) = 5 := by decide
  rw [e5]
  have hs := (scaledN_spec b (p - x)).1
  have hs2 : 10 * numP b (p - x) ≤ (10 * scaledN b (p - x) + 5) * denQ b (p - x) := by
    generalize scaledN b (p - x) = N at *
    generalize denQ b (p - x) = Q at *
    generalize numP b (p - x) = P at *
    have e1 : (2 * N + 1) * Q = 2 * (N * Q) + Q := by rw [Nat.succ_mul, Nat.mul_assoc]
    have e2 : (10 * N + 5) * Q = 10 * (N * Q) + 5 * Q := by rw [Nat.add_mul, Nat.mul_assoc]
    rw [e1] at hs
    rw [e2]
    omega
  generalize 10 * scaledN b (p - x) + 5 = c at *
  rw [numP_eq] at hs2
  have h4 := cross_hi hs2
  have h5 : near (mant b * 2 ^ (expo b).toNat) (2 ^ (-(expo b)).toNat) ≤ near (c * 10 ^ (x - p - 1).toNat) (10 ^ (-(x - p - 1)).toNat) := by
    refine near_mono (pow2_pos _) (Nat.pow_pos (by decide)) ?_
    rw [show x - p - 1 = -((p : Int) - x + 1) by omega, Int.neg_neg]
    exact h4
  rw [near_self h] at h5
  exact h5
end Go.Proofs.YtcmpdamfeoaapaaDoor
end

section
/- thresherlaw03: below. -/
namespace Go.Proofs.YtcmpdamfeoaapaaDoor
open Go.RowKit
set_option linter.unusedVariables false

/-- the block of a string's bytes -/
structure RowM (w : World) (g : Nat) (L : List UInt8) : Prop where
  row : ∃ cur, w.heap[g]? = some (.cells cur 5 (cur.size, cur.size + 1)) ∧ ∀ i (h : i < L.length), cur[i]? = some (.int .u8 (L[i].toNat : Nat))
theorem RowM.ltg {w : World} {g : Nat} {L : List UInt8} (h : RowM w g L) : g < w.heap.size := by
  obtain ⟨cur, hg, ht⟩ := h.row
  exact lt_of_heap hg
theorem RowM.cell {w : World} {g : Nat} {L : List UInt8} (h : RowM w g L) (i : Nat) (hi : i < L.length) : w.cell? ⟨g, i, none⟩ = some (.int .u8 (L[i].toNat : Nat)) := by
  obtain ⟨cur, hg, ht⟩ := h.row
  simp [World.cell?, hg, ht i hi]
theorem RowM.frozen {w : World} {g : Nat} {L : List UInt8} (h : RowM w g L) (i : Nat) (hi : i < L.length) : w.frozen? ⟨g, i, none⟩ = false := by
  obtain ⟨cur, hg, ht⟩ := h.row
  have h1 : i < cur.size := by
    rcases Nat.lt_or_ge i cur.size with h | h
    · exact h
    · have := ht i hi
      rw [Array.getElem?_eq_none (by omega)] at this; cases this
  simp [World.frozen?, hg]
  omega
theorem RowM.set {w : World} {g : Nat} {L : List UInt8} (h : RowM w g L) (i y : Nat) (hi : i < L.length) (hy : y < 256) : RowM (w.setCell ⟨g, i, none⟩ (.int .u8 (y : Nat))) g (L.set i (UInt8.ofNat y)) := by
  obtain ⟨cur, hg, ht⟩ := h.row
  refine ⟨cur.setIfInBounds i (.int .u8 (y : Nat)), by rw [setCell_heap_same hg i _]; simp, fun j hj => ?_⟩
  rw [List.length_set] at hj
  rw [List.getElem_set, Array.getElem?_setIfInBounds]
  have h1 : i < cur.size := by
    rcases Nat.lt_or_ge i cur.size with h | h
    · exact h
    · have := ht i hi
      rw [Array.getElem?_eq_none (by omega)] at this; cases this
  by_cases hij : i = j
  · subst hij
    rw [if_pos rfl, if_pos h1, if_pos rfl, UInt8.toNat_ofNat', Nat.mod_eq_of_lt hy]
  · rw [if_neg hij, if_neg hij]
    exact ht j hj

theorem wpList_bytesM (w : World) {ops : Array Oper} {rest : List Oper} {o : Oper} {a : Act} {Q : Exit → Act → World → Prop} (hg : o.guard = none) (x : Operand) (ho : o.op = .convert 9 45 x) (s : ByteArray) (hx : a.eval x = .string s)
    (hK : ∀ cap w', RowM w' w.heap.size s.data.toList → Below w.heap.size w w' → w'.heap.size = w.heap.size + 1 → wpList Tryd.prog ops Q rest (a.put o.dst (.slice (some ⟨w.heap.size, 0, none⟩) s.size cap)) w') : wpList Tryd.prog ops Q (o :: rest) a w := by
  have hr := Lib.run_convert_string_bytes (P := Tryd.prog) w 9 45 5 s undStr undBytes undByte
  refine wpList_plain hg fun K' hK' => ?_
  unfold Oper.wp
  simp [execOp, ho, hx, hr, Result.andThen]
  refine hK' _ _ (hK _ _ ?_ (Go.Joins.below_bytesWorld _ _ _ _ (Nat.le_refl _)) (Lib.bytesWorld_size _ _ _))
  refine ⟨_, Lib.bytesWorld_at_new w 5 s, fun i hi => ?_⟩
  have h1 := Lib.bytesWorld_cell w 5 s i (by simpa using hi)
  have h2 := Lib.bytesWorld_at_new w 5 s
  have h3 : (Lib.bytesCells w 5 s)[i]? = some (.int .u8 (s.data.toList.getD i 0).toNat) := by
    unfold World.cell? at h1
    rw [h2] at h1
    simpa using h1
  rw [h3]
  have h4 : i < s.data.size := by simpa using hi
  simp [List.getD, Array.getElem?_eq_getElem h4]

theorem digVal_app (a b : List UInt8) : digVal (a ++ b) = digVal a * 10 ^ b.length + digVal b := by
  unfold digVal
  rw [List.foldl_append]
  exact digVal_from b _
theorem digVal_nines : ∀ m : Nat, digVal (List.replicate m 57) + 1 = 10 ^ m
  | 0 => rfl
  | m + 1 => by
    rw [List.replicate_succ, digVal_cons, List.length_replicate]
    have h := digVal_nines m
    have e : (UInt8.toNat 57 - 48 : Nat) = 9 := by decide
    rw [e, Nat.pow_succ]
    omega
theorem digVal_noughts : ∀ m : Nat, digVal (List.replicate m 48) = 0
  | 0 => rfl
  | m + 1 => by
    rw [List.replicate_succ, digVal_cons, digVal_noughts m]
    have e : (UInt8.toNat 48 - 48 : Nat) = 0 := by decide
    rw [e, Nat.zero_mul]

/-- the row while the noughts at its end are made nines -/
def bel (l : List UInt8) (k : Nat) : List UInt8 := l.take k ++ List.replicate (l.length - k) 57
theorem bel_length (l : List UInt8) (k : Nat) (h : k ≤ l.length) : (bel l k).length = l.length := by simp [bel]; omega
theorem bel_full (l : List UInt8) : bel l l.length = l := by simp [bel]
theorem bel_at (l : List UInt8) (k : Nat) (h : k < l.length) : (bel l (k + 1))[k]'(by rw [bel_length _ _ h]; exact h) = l[k] := by
  unfold bel
  rw [List.getElem_append_left (by simp; omega)]
  simp
theorem bel_set (l : List UInt8) (k : Nat) (y : UInt8) (h : k < l.length) : (bel l (k + 1)).set k y = l.take k ++ y :: List.replicate (l.length - (k + 1)) 57 := by
  unfold bel
  rw [List.take_succ_eq_append_getElem h, List.append_assoc, List.set_append_right _ _ (by simp; omega)]
  congr 1
  simp [Nat.min_eq_left (Nat.le_of_lt h)]
theorem bel_nine (l : List UInt8) (k : Nat) (h : k < l.length) : (bel l (k + 1)).set k 57 = bel l k := by
  rw [bel_set l k 57 h]
  unfold bel
  rw [show l.length - k = l.length - (k + 1) + 1 by omega, List.replicate_succ]
theorem noughts_at {l : List UInt8} {k : Nat} (h : ∀ c ∈ l.drop k, c = 48) : l.drop k = List.replicate (l.length - k) 48 := by
  rw [List.eq_replicate_iff]
  exact ⟨by simp, h⟩
theorem bel_value (l : List UInt8) (k c : Nat) (h : k < l.length) (hc : l[k].toNat = c + 1) (h48 : 48 ≤ c) (hd : ∀ x ∈ l.drop (k + 1), x = 48) : digVal ((bel l (k + 1)).set k (UInt8.ofNat c)) + 1 = digVal l := by
  have hlt := l[k].toNat_lt
  have e1 : l = l.take k ++ l[k] :: l.drop (k + 1) := by rw [← List.drop_eq_getElem_cons h, List.take_append_drop]
  have e2 : digVal l = digVal (l.take k ++ l[k] :: l.drop (k + 1)) := by rw [← e1]
  rw [bel_set l k _ h, e2, digVal_app, digVal_app, digVal_cons, digVal_cons, noughts_at hd, digVal_noughts, hc, UInt8.toNat_ofNat', Nat.mod_eq_of_lt (by omega)]
  simp only [List.length_cons, List.length_replicate]
  have h9 := digVal_nines (l.length - (k + 1))
  obtain ⟨q, hq⟩ : ∃ q, c = 48 + q := ⟨c - 48, by omega⟩
  subst hq
  rw [show 48 + q - 48 = q by omega, show 48 + q + 1 - 48 = q + 1 by omega, Nat.add_mul]
  omega
theorem bel_digits {l : List UInt8} (h : Digits l) (k c : Nat) (hk : k < l.length) (hc : 48 ≤ c ∧ c ≤ 57) : Digits ((bel l (k + 1)).set k (UInt8.ofNat c)) := by
  rw [bel_set l k _ hk]
  intro x hx
  rcases List.mem_append.1 hx with h1 | h1
  · exact h x (List.mem_of_mem_take h1)
  · rcases List.mem_cons.1 h1 with rfl | h2
    · rw [UInt8.toNat_ofNat', Nat.mod_eq_of_lt (by omega)]; exact hc
    · rw [(List.mem_replicate.1 h2).2]; decide

end Go.Proofs.YtcmpdamfeoaapaaDoor
end

section
/- Plain: what Fixed and Sci write, as functions of the float and the number of digits alone. -/
namespace Go.Proofs.YtcmpdamfeoaapaaDoor
open Go.RowKit
set_option linter.unusedVariables false

theorem GeT_more (A B : Nat) (k : Int) (n : Nat) (h : GeT A B k n) : ∀ d : Nat, GeT A B (k + d) (10 ^ d * n)
  | 0 => by
    have e : k + ((0 : Nat) : Int) = k := by omega
    rw [e, Nat.pow_zero, Nat.one_mul]
    exact h
  | d + 1 => by
    have h1 := (GeT_step A B (k + d) (10 ^ d * n)).2 (GeT_more A B k n h d)
    rw [show k + ((d + 1 : Nat) : Int) = k + d + 1 by omega, show 10 ^ (d + 1) * n = 10 * (10 ^ d * n) by rw [Nat.pow_succ]; ac_rfl]
    exact h1
theorem scaled_rat (b : Nat) (k : Int) : scaledN b k = ratN (mant b * 2 ^ (expo b).toNat) (2 ^ (-(expo b)).toNat) k := by
  unfold scaledN ratN
  rw [show mant b * 10 ^ k.toNat * 2 ^ (expo b).toNat = mant b * 2 ^ (expo b).toNat * 10 ^ k.toNat by ac_rfl]
theorem sci_not_less {b p : Nat} {x y : Int} (hx : SciAt b p x) (hy : SciAt b p y) : ¬ x < y := by
  intro hxy
  have h1 := hx.lt
  obtain ⟨y0, h2, h3, h4⟩ := hy.least
  rcases Int.lt_or_le x y0 with h | h
  · obtain ⟨d, hd⟩ : ∃ d : Nat, y0 - x = ((d + 1 : Nat) : Int) := ⟨(y0 - x - 1).toNat, by omega⟩
    have h5 := GeT_more _ _ _ _ h3 (d + 1)
    rw [show (p : Int) - y0 + ((d + 1 : Nat) : Int) = (p : Int) - x by omega] at h5
    have h6 := ratN_ge (pow2_pos _) h5
    rw [← scaled_rat] at h6
    have h7 : 10 ^ (p + 1) ≤ 10 ^ (d + 1) * 10 ^ p := by
      rw [← Nat.pow_add]
      exact Nat.pow_le_pow_right (by decide) (by omega)
    omega
  · have := h4 x h hxy
    omega
theorem sci_unique {b p : Nat} {x y : Int} (hx : SciAt b p x) (hy : SciAt b p y) : x = y := by
  have h1 := sci_not_less hx hy
  have h2 := sci_not_less hy hx
  omega

open Classical in
/-- a natural's digits -/
noncomputable def dl (n : Nat) : List UInt8 := if h : ∃ l, Canon l n then Classical.choose h else []
theorem dl_eq {l : List UInt8} {n : Nat} (h : Canon l n) : dl n = l := by
  unfold dl
  have hex : ∃ l, Canon l n := ⟨l, h⟩
  rw [dif_pos hex]
  exact canon_unique (Classical.choose_spec hex) h
open Classical in
/-- the power of a float's first digit, rounded to p + 1 digits -/
noncomputable def sciX (b p : Nat) : Int := if h : ∃ x, SciAt b p x then Classical.choose h else 0
theorem sciX_eq {b p : Nat} {x : Int} (h : SciAt b p x) : sciX b p = x := by
  unfold sciX
  have hex : ∃ x, SciAt b p x := ⟨x, h⟩
  rw [dif_pos hex]
  exact sci_unique (Classical.choose_spec hex) h
noncomputable def sciE (b p : Nat) : Int := if mant b = 0 then 0 else sciX b p
noncomputable def sciD (b p : Nat) : List UInt8 := if mant b = 0 then List.replicate (p + 1) 48 else dl (scaledN b (p - sciX b p))
noncomputable def fixT (b p : Nat) : List UInt8 := fixedL (dl (scaledN b p)) p

end Go.Proofs.YtcmpdamfeoaapaaDoor
end

section
/- Plain: the document's way to write a float (all digits, then cut) comes to what Fixed and Sci write. -/
namespace Go.Proofs.YtcmpdamfeoaapaaDoor
open Go.RowKit
set_option linter.unusedVariables false

theorem digits_append {a b : List UInt8} (ha : Digits a) (hb : Digits b) : Digits (a ++ b) := fun c hc => (List.mem_append.1 hc).elim (ha c) (hb c)
theorem digits_take {l : List UInt8} (h : Digits l) (k : Nat) : Digits (l.take k) := fun c hc => h c (List.mem_of_mem_take hc)
theorem digits_drop {l : List UInt8} (h : Digits l) (k : Nat) : Digits (l.drop k) := fun c hc => h c (List.mem_of_mem_drop hc)
theorem digits_zeros (k : Nat) : Digits (List.replicate k 48) := fun c hc => by rw [List.eq_of_mem_replicate hc]; decide
/-- the digits' parts are the number's -/
theorem digVal_split (l : List UInt8) (h : Digits l) (k : Nat) : digVal (l.take k) = digVal l / 10 ^ (l.drop k).length ∧ digVal (l.drop k) = digVal l % 10 ^ (l.drop k).length := by
  have e := digVal_app (l.take k) (l.drop k)
  rw [List.take_append_drop] at e
  have h2 := digVal_lt (digits_drop h k)
  generalize 10 ^ (l.drop k).length = P at *
  rw [e]
  constructor
  · rw [Nat.add_comm, Nat.add_mul_div_right _ _ (by omega), Nat.div_eq_of_lt h2]; omega
  · rw [Nat.add_comm, Nat.add_mul_mod_self_right, Nat.mod_eq_of_lt h2]
theorem digVal_zeros' (k : Nat) (l : List UInt8) : digVal (List.replicate k 48 ++ l) = digVal l := by rw [digVal_app, digVal_noughts]; omega
/-- without the noughts ahead, but for the last place -/
def stripL : List UInt8 → List UInt8
  | [] => []
  | [c] => [c]
  | c :: d :: l => if c = 48 then stripL (d :: l) else c :: d :: l
theorem strip_canon {l : List UInt8} (h : Digits l) (hne : l ≠ []) : Canon (stripL l) (digVal l) := by
  induction l with
  | nil => exact absurd rfl hne
  | cons c l ih =>
    cases l with
    | nil => exact ⟨by simp [stripL], by simpa [stripL] using h, by simp [stripL], by intro a r e _; simp [stripL] at e; exact e.2⟩
    | cons d l =>
      unfold stripL
      by_cases hc : c = 48
      · rw [if_pos hc]
        have h1 := ih (fun x hx => h x (by simp at hx ⊢; right; exact hx)) (by simp)
        have e : digVal (c :: d :: l) = digVal (d :: l) := by rw [digVal_cons, hc]; simp
        rw [e]; exact h1
      · rw [if_neg hc]
        refine ⟨by simp, h, rfl, fun a r e ha => ?_⟩
        injection e with e1 e2
        exact absurd (UInt8.toNat_inj.1 (by rw [e1, ha]; rfl)) hc
/-- what Fixed writes, by its two parts -/
theorem fixedL_char {l W F : List UInt8} {N p : Nat} (hl : Canon l N) (hW : Canon W (N / 10 ^ p)) (hF : Digits F) (hFl : F.length = p) (hFv : digVal F = N % 10 ^ p) :
    fixedL l p = if 0 < p then W ++ 46 :: F else W := by
  obtain ⟨q, hq⟩ : ∃ q, q = if l.length ≤ p then List.replicate (p + 1 - l.length) 48 ++ l else l := ⟨_, rfl⟩
  have e : fixedL l p = if 0 < p then q.take (q.length - p) ++ 46 :: q.drop (q.length - p) else q := by rw [hq]; rfl
  have hqd : Digits q := by rw [hq]; split; exact digits_append (digits_zeros _) hl.dig; exact hl.dig
  have hqv : digVal q = N := by rw [hq]; split; rw [digVal_zeros', hl.val]; exact hl.val
  have hqlen : p < q.length := by
    rw [hq]; split
    · rw [List.length_append, List.length_replicate]; omega
    · omega
  have hdl : (q.drop (q.length - p)).length = p := by simp; omega
  obtain ⟨s1, s2⟩ := digVal_split q hqd (q.length - p)
  rw [hdl, hqv] at s1 s2
  have e2 : q.drop (q.length - p) = F := digits_unique _ _ (digits_drop hqd _) hF (by rw [hdl, hFl]) (by rw [s2, hFv])
  have hc : Canon (q.take (q.length - p)) (N / 10 ^ p) := by
    refine ⟨?_, digits_take hqd _, s1, ?_⟩
    · intro h0; have := congrArg List.length h0; simp at this; omega
    · intro c r hcr hc48
      by_cases h : l.length ≤ p
      · have hz : q.length - p = 1 := by rw [hq, if_pos h, List.length_append, List.length_replicate]; omega
        rw [hz] at hcr
        have := congrArg List.length hcr
        simp at this
        exact List.eq_nil_of_length_eq_zero (by omega)
      · rw [if_neg h] at hq
        have hh : ∃ r', q = c :: r' := by
          cases hqq : q with
          | nil => rw [hqq] at hqlen; simp at hqlen
          | cons a t =>
            rw [hqq] at hcr
            obtain ⟨k, hk⟩ : ∃ k, (a :: t).length - p = k + 1 := ⟨(a :: t).length - p - 1, by rw [hqq] at hqlen; omega⟩
            rw [hk, List.take_succ_cons] at hcr
            injection hcr with h1 h2
            exact ⟨t, by rw [h1]⟩
        obtain ⟨r', hr'⟩ := hh
        have := hl.top c r' (by rw [← hq]; exact hr') hc48
        subst this
        rw [hr'] at hqlen hcr
        have hp : p = 0 := by simp at hqlen; omega
        subst hp
        simp at hcr
        exact hcr
  have e1 : q.take (q.length - p) = W := canon_unique hc hW
  rw [e]
  by_cases hp : 0 < p
  · rw [if_pos hp, if_pos hp, e1, e2]
  · rw [if_neg hp, if_neg hp]
    rw [← e1]
    rw [show q.length - p = q.length by omega, List.take_length]
/-- the number of digits behind the point that a float has in all -/
def exD (b : Nat) : Nat := (-(expo b)).toNat
/-- the float as a whole number of units of its last digit -/
def exN (b : Nat) : Nat := mant b * 2 ^ (expo b).toNat * 5 ^ exD b
/-- the float's digits, all of them -/
structure Exact (b : Nat) (W F : List UInt8) : Prop where
  whole : Canon W (exN b / 10 ^ exD b)
  dig : Digits F
  len : F.length = exD b
  val : digVal F = exN b % 10 ^ exD b
theorem Exact.all {b : Nat} {W F : List UInt8} (h : Exact b W F) : digVal (W ++ F) = exN b := by
  rw [digVal_app, h.whole.val, h.len, h.val, Nat.mul_comm]
  exact Nat.div_add_mod _ _
/-- what Cut answers -/
structure CutOk (s : List UInt8) (n : Nat) (out : List UInt8) : Prop where
  dig : Digits out
  val : digVal out = rnd (digVal s * 10 ^ (n - s.length)) (10 ^ (s.length - n))
  len : out.length = n ∨ (out.length = n + 1 ∧ 10 ^ n ≤ digVal out)
theorem p10_pos (k : Nat) : 0 < 10 ^ k := Nat.pow_pos (by decide)
/-- the rounded number is the float's -/
theorem cut_scaled (b L n : Nat) (p : Int) (h : (n : Int) - L = p - exD b) : rnd (exN b * 10 ^ (n - L)) (10 ^ (L - n)) = scaledN b p := by
  unfold scaledN
  refine rnd_same (p10_pos _) (Nat.mul_pos (p10_pos _) (pow2_pos _)) ?_
  unfold exN
  have e1 : (10 : Nat) ^ (n - L) * 10 ^ (-p).toNat * 10 ^ exD b = 10 ^ p.toNat * 10 ^ (L - n) := by
    rw [← Nat.pow_add, ← Nat.pow_add, ← Nat.pow_add]; congr 1; omega
  have e2 : (10 : Nat) ^ exD b = 5 ^ exD b * 2 ^ exD b := by rw [← Nat.mul_pow]
  rw [e2] at e1
  show mant b * 2 ^ (expo b).toNat * 5 ^ exD b * 10 ^ (n - L) * (10 ^ (-p).toNat * 2 ^ exD b) = _
  calc mant b * 2 ^ (expo b).toNat * 5 ^ exD b * 10 ^ (n - L) * (10 ^ (-p).toNat * 2 ^ exD b)
      = mant b * 2 ^ (expo b).toNat * (10 ^ (n - L) * 10 ^ (-p).toNat * (5 ^ exD b * 2 ^ exD b)) := by ac_rfl
    _ = mant b * 10 ^ p.toNat * 2 ^ (expo b).toNat * 10 ^ (L - n) := by rw [e1]; ac_rfl
/-- Fixed, by the document's way -/
theorem ref_fixed {b p : Nat} {W F s l : List UInt8} (h : Exact b W F) (hs : CutOk (48 :: (W ++ F)) (1 + W.length + p) s) (hl : Canon l (scaledN b p)) :
    s.length = 1 + W.length + p ∧ fixedL l p = if 0 < p then stripL (s.take (1 + W.length)) ++ 46 :: s.drop (1 + W.length) else stripL (s.take (1 + W.length)) := by
  have hv0 : digVal (48 :: (W ++ F)) = exN b := by rw [digVal_cons, h.all]; simp
  have hv := hs.val
  rw [hv0, cut_scaled b _ _ p (by simp [h.len]; omega)] at hv
  have hlen : s.length = 1 + W.length + p := by
    rcases hs.len with h1 | ⟨_, h1⟩
    · exact h1
    · exfalso
      have h2 : exN b < 10 ^ W.length * 10 ^ exD b := by
        have := digVal_lt h.whole.dig
        rw [h.whole.val, Nat.div_lt_iff_lt_mul (p10_pos _)] at this
        exact this
      have h3 : rnd (exN b * 10 ^ (1 + W.length + p - (1 + W.length + exD b))) (10 ^ (1 + W.length + exD b - (1 + W.length + p))) ≤ 10 ^ (W.length + p) := by
        refine rnd_le_of (p10_pos _) ?_
        refine Nat.le_trans (Nat.mul_le_mul_right _ (Nat.le_of_lt h2)) (Nat.le_of_eq ?_)
        rw [← Nat.pow_add, ← Nat.pow_add, ← Nat.pow_add]; congr 1; omega
      rw [cut_scaled b _ _ p (by omega)] at h3
      rw [hv] at h1
      have h4 : (10 : Nat) ^ (W.length + p) < 10 ^ (1 + W.length + p) := Nat.pow_lt_pow_right (by decide) (by omega)
      omega
  refine ⟨hlen, ?_⟩
  have hdl : (s.drop (1 + W.length)).length = p := by simp; omega
  obtain ⟨s1, s2⟩ := digVal_split s hs.dig (1 + W.length)
  rw [hdl, hv] at s1 s2
  refine fixedL_char hl ?_ (digits_drop hs.dig _) hdl s2
  rw [← s1]
  refine strip_canon (digits_take hs.dig _) ?_
  intro h0
  have h5 : (s.take (1 + W.length)).length = 0 := by rw [h0]; rfl
  rw [List.length_take] at h5
  omega
/-- nought, by the document's way -/
theorem ref_zero {p : Nat} {out : List UInt8} (h : CutOk [48] (p + 1) out) : out = List.replicate (p + 1) 48 := by
  have hv : digVal out = 0 := by
    rw [h.val, show digVal [48] = 0 by decide, Nat.zero_mul]
    have := rnd_le_of (p10_pos ([48].length - (p + 1))) (show 0 ≤ 0 * 10 ^ ([48].length - (p + 1)) by omega)
    simpa using this
  refine digits_unique _ _ h.dig (digits_zeros _) ?_ (by rw [hv, digVal_noughts])
  rcases h.len with h1 | ⟨_, h1⟩
  · simpa using h1
  · rw [hv] at h1; have := p10_pos (p + 1); omega
theorem digVal_low {l : List UInt8} (h : Digits l) (hh : ∃ c r, l = c :: r ∧ c ≠ 48) : 10 ^ (l.length - 1) ≤ digVal l := by
  obtain ⟨c, r, rfl, hc⟩ := hh
  rw [digVal_cons]
  have h1 := h c (by simp)
  have h2 : c.toNat ≠ 48 := fun e => hc (UInt8.toNat_inj.1 e)
  have h3 : 1 * 10 ^ r.length ≤ (c.toNat - 48) * 10 ^ r.length := Nat.mul_le_mul_right _ (by omega)
  simp at h3 ⊢
  omega
theorem canon_of_low {l : List UInt8} {k N : Nat} (h : Digits l) (hl : l.length = k + 1) (hv : digVal l = N) (hN : 10 ^ k ≤ N) : Canon l N := by
  refine ⟨by intro h0; rw [h0] at hl; simp at hl, h, hv, fun c r e hc => ?_⟩
  rw [e, digVal_cons, hc] at hv
  have h2 := digVal_lt (l := r) (fun x hx => h x (by rw [e]; simp [hx]))
  rw [e] at hl
  simp at hl hv
  rw [hl] at h2
  omega
/-- Sci, by the document's way -/
theorem ref_sci {b p : Nat} {s out : List UInt8} {x : Int} (hm : mant b ≠ 0) (hd : Digits s) (hh : ∃ c r, s = c :: r ∧ c ≠ 48) (hv : digVal s = exN b) (hx : (s.length : Int) = x + 1 + exD b) (hs : CutOk s (p + 1) out) :
    (out.length = p + 1 → sciD b p = out ∧ sciE b p = x) ∧ (out.length ≠ p + 1 → out.length = p + 2 ∧ sciD b p = out.take (p + 1) ∧ sciE b p = x + 1) := by
  have hlo := digVal_low hd hh
  have hhi := digVal_lt hd
  rw [hv] at hlo hhi
  have hN := hs.val
  rw [hv, cut_scaled b _ _ ((p : Int) - x) (by omega)] at hN
  have hge : GeT (mant b * 2 ^ (expo b).toNat) (2 ^ (-(expo b)).toNat) ((p : Int) - x) (10 ^ p) := by
    have h1 : (10 : Nat) ^ (s.length - 1) * 10 ^ ((p : Int) - x).toNat ≤ exN b * 10 ^ ((p : Int) - x).toNat := Nat.mul_le_mul_right _ hlo
    have hL : 1 ≤ s.length := by obtain ⟨c, r, e, _⟩ := hh; rw [e]; simp
    rw [← Nat.pow_add] at h1
    have e1 : s.length - 1 + ((p : Int) - x).toNat = p + (-((p : Int) - x)).toNat + exD b := by omega
    rw [e1, Nat.pow_add, Nat.pow_add] at h1
    have e2 : (10 : Nat) ^ exD b = 5 ^ exD b * 2 ^ exD b := by rw [← Nat.mul_pow]
    unfold exN at h1
    rw [e2] at h1
    have h5 : 0 < 5 ^ exD b := Nat.pow_pos (by decide)
    unfold GeT
    refine Nat.le_of_mul_le_mul_right (c := 5 ^ exD b) ?_ h5
    calc 10 ^ p * (10 ^ (-((p : Int) - x)).toNat * 2 ^ exD b) * 5 ^ exD b = 10 ^ p * 10 ^ (-((p : Int) - x)).toNat * (5 ^ exD b * 2 ^ exD b) := by ac_rfl
      _ ≤ mant b * 2 ^ (expo b).toNat * 5 ^ exD b * 10 ^ ((p : Int) - x).toNat := h1
      _ = mant b * 2 ^ (expo b).toNat * 10 ^ ((p : Int) - x).toNat * 5 ^ exD b := by ac_rfl
  have hlt : ∀ (k : Int) (j : Nat), (s.length : Int) + k ≤ j + exD b → scaledN b k ≤ 10 ^ j := by
    intro k j hk
    have e3 := cut_scaled b (k.toNat + exD b - k.toNat + (-k).toNat) (k.toNat) k (by omega)
    rw [← e3]
    refine rnd_le_of (p10_pos _) (Nat.le_trans (Nat.mul_le_mul_right _ (Nat.le_of_lt hhi)) ?_)
    rw [← Nat.pow_add, ← Nat.pow_add]
    exact Nat.pow_le_pow_right (by decide) (by omega)
  refine ⟨fun hl => ?_, fun hl => ?_⟩
  · have h1 : SciAt b p x := by
      refine ⟨?_, ?_, x, Int.le_refl _, hge, fun y h1 h2 => by omega⟩
      · rw [scaled_rat]; exact ratN_ge (pow2_pos _) hge
      · rw [← hN, ← hl]; exact digVal_lt hs.dig
    have e1 : sciE b p = x := by unfold sciE; rw [if_neg hm, sciX_eq h1]
    have e2 : sciD b p = out := by
      unfold sciD
      rw [if_neg hm, sciX_eq h1]
      exact dl_eq (canon_of_low hs.dig hl hN h1.ge)
    exact ⟨e2, e1⟩
  · obtain ⟨hl2, hbig⟩ := hs.len.resolve_left hl
    rw [hN] at hbig
    have hup := hlt ((p : Int) - x) (p + 1) (by omega)
    have heq : scaledN b ((p : Int) - x) = 10 ^ (p + 1) := by omega
    have hup2 := hlt ((p : Int) - (x + 1)) p (by omega)
    have hdn : 10 ^ p ≤ scaledN b ((p : Int) - (x + 1)) := by
      rw [scaled_rat]
      refine sci_down (pow2_pos _) (.inr ?_)
      rw [← scaled_rat, show (p : Int) - (x + 1) + 1 = p - x by omega]
      omega
    have heq2 : scaledN b ((p : Int) - (x + 1)) = 10 ^ p := by omega
    have h1 : SciAt b p (x + 1) := by
      refine ⟨by omega, ?_, x, by omega, hge, fun y h1 h2 => ?_⟩
      · rw [heq2]; exact Nat.pow_lt_pow_right (by decide) (by omega)
      · rw [show y = x by omega]; omega
    have e1 : sciE b p = x + 1 := by unfold sciE; rw [if_neg hm, sciX_eq h1]
    refine ⟨hl2, ?_, e1⟩
    unfold sciD
    rw [if_neg hm, sciX_eq h1, heq2]
    obtain ⟨s1, s2⟩ := digVal_split out hs.dig (p + 1)
    have hdl : (out.drop (p + 1)).length = 1 := by simp; omega
    rw [hdl, hN, heq, Nat.pow_succ, Nat.pow_one, Nat.mul_div_cancel _ (by decide)] at s1
    exact dl_eq (canon_of_low (digits_take hs.dig _) (by simp; omega) s1 (Nat.le_refl _))
end Go.Proofs.YtcmpdamfeoaapaaDoor
end
