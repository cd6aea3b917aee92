/- Several texts in one (R8, D8, D9, L1, L2, R9, L3, R10, L7, P0, P14, P1, P2). -/
import Derived.Test.YtcmpdamfeoaapaaGreatDoorM3
import Derived.Lib.SlTrimSet
import Derived.Shelf.Strings.SlTrimAscii
import GoSem.Core.Float
import Derived.Test.YtcmpdamfeoaapaaGreatDoorM1
import Derived.StillTailTactics
import Derived.Deep.RegionHeld3
import Derived.BigRegion
section
/- Plain: the nearest float as a function; the bounds of what is read. -/
namespace Go.Proofs.YtcmpdamfeoaapaaGreatDoor
open Go
/-- the step, reckoned -/
def stepOf (X y : Nat) : Nat := nbits (X / y) - 53
theorem stepOf_step (X : Nat) {y : Nat} (hy : 0 < y) : Step X y (stepOf X y) := by
  have h1 := nbits_le.1 (Nat.le_refl (nbits (X / y)))
  refine ⟨?_, ?_⟩
  · rw [Nat.div_lt_iff_lt_mul hy] at h1
    refine Nat.lt_of_lt_of_le h1 ?_
    rw [← Nat.mul_assoc, ← Nat.pow_add]
    exact Nat.mul_le_mul_right _ (Nat.pow_le_pow_right (by decide) (by unfold stepOf; omega))
  · rcases Nat.eq_zero_or_pos (stepOf X y) with h | h
    · exact .inl h
    · refine .inr ?_
      unfold stepOf at h
      have hq : 0 < X / y := by
        rcases Nat.eq_zero_or_pos (X / y) with h2 | h2
        · rw [h2] at h; have : nbits 0 = 0 := by decide
          omega
        · exact h2
      have h2 := (nbits_pos hq).1
      rw [Nat.le_div_iff_mul_le hy] at h2
      refine Nat.le_trans ?_ h2
      rw [← Nat.mul_assoc, ← Nat.pow_add]
      exact Nat.mul_le_mul_right _ (Nat.pow_le_pow_right (by decide) (by unfold stepOf; omega))
/-- the bits of the float nearest to x/y -/
def near (x y : Nat) : Nat := nb (x * kk) y (stepOf (x * kk) y)
theorem nearBits_near {x y : Nat} {E : Int} (hx : 0 < x) (hy : 0 < y) (h : LeastE x y E) : nearBits x y E = near x y := by
  obtain ⟨h1, h2⟩ := step_of_least hx hy h
  rw [nearBits_nb hy h1]
  exact step_same hy hy h2 (stepOf_step _ hy) rfl
theorem near_mono {x y x' y' : Nat} (hy : 0 < y) (hy' : 0 < y') (h : x * y' ≤ x' * y) : near x y ≤ near x' y' :=
  nb_mono hy hy' (stepOf_step _ hy) (stepOf_step _ hy') (by rw [Nat.mul_right_comm, Nat.mul_right_comm x']; exact Nat.mul_le_mul_right _ h)
theorem near_same {x y x' y' : Nat} (hy : 0 < y) (hy' : 0 < y') (h : x * y' = x' * y) : near x y = near x' y' :=
  Nat.le_antisymm (near_mono hy hy' (Nat.le_of_eq h)) (near_mono hy' hy (Nat.le_of_eq h.symm))
theorem near_le (x y : Nat) : near x y ≤ 9218868437227405312 := Nat.min_le_right _ _
theorem near_exact {x y b : Nat} (hy : 0 < y) (h : x * kk = mof b * (2 ^ jof b * y)) (hb : b ≤ 9218868437227405312) : near x y = b := by
  obtain ⟨h1, h2⟩ := nb_exact hy h hb
  rw [← h2]
  exact step_same hy hy (stepOf_step _ hy) h1 rfl
theorem near_close {x y b : Nat} (hy : 0 < y) (hb : b ≤ 9218868437227405312)
    (h1 : 20000000000000000 * (x * kk) ≤ 20000000000000000 * (mof b * (2 ^ jof b * y)) + x * kk)
    (h2 : 20000000000000000 * (mof b * (2 ^ jof b * y)) ≤ 20000000000000000 * (x * kk) + x * kk) : near x y = b :=
  nb_close hy hb (stepOf_step _ hy) h1 h2
theorem near_zero {y : Nat} (hy : 0 < y) : near 0 y = 0 := near_exact hy (by simp [mof]) (by omega)

theorem pow10_lt (j : Nat) : (10 : Nat) ^ j < 2 ^ (4 * j + 1) := by
  have h1 : (10 : Nat) ^ j ≤ 16 ^ j := Nat.pow_le_pow_left (by decide) j
  have h2 : (16 : Nat) ^ j = 2 ^ (4 * j) := by rw [show (16 : Nat) = 2 ^ 4 by decide, ← Nat.pow_mul]
  have h3 : (2 : Nat) ^ (4 * j) < 2 ^ (4 * j + 1) := Nat.pow_lt_pow_right (by decide) (by omega)
  omega
theorem read_x {D n : Nat} {e : Int} (hD : D < 10 ^ n) (hn : n ≤ 1024) (h1 : n + e ≤ 310) : nbits (D * 10 ^ e.toNat) ≤ 4100 := by
  have h2 : D * 10 ^ e.toNat < 10 ^ n * 10 ^ e.toNat := Nat.mul_lt_mul_of_pos_right hD (Nat.pow_pos (by decide))
  rw [← Nat.pow_add] at h2
  have h4 : nbits (D * 10 ^ e.toNat) ≤ 4 * (n + e.toNat) + 1 := nbits_le.2 (Nat.lt_trans h2 (pow10_lt _))
  omega
theorem read_pow {j : Nat} (h : j ≤ 1400) : nbits (10 ^ j) ≤ 5700 := by
  have h4 : nbits (10 ^ j) ≤ 4 * j + 1 := nbits_le.2 (pow10_lt j)
  omega
theorem read_d {D n : Nat} (hD : D < 10 ^ n) (hn : n ≤ 1024) : nbits D ≤ 4100 := by
  have h4 : nbits D ≤ 4 * n + 1 := nbits_le.2 (Nat.lt_trans hD (pow10_lt n))
  omega
theorem read_gen {D n u v : Nat} {e : Int} (ht : 10 ^ u < 2 ^ v) (hD : D < 10 ^ n) (h1 : n + e ≤ u) : nbits (D * 10 ^ e.toNat) ≤ v + nbits (10 ^ (-e).toNat) := by
  have h2 : D * 10 ^ e.toNat < 10 ^ n * 10 ^ e.toNat := Nat.mul_lt_mul_of_pos_right hD (Nat.pow_pos (by decide))
  rw [← Nat.pow_add] at h2
  have h3 : (10 : Nat) ^ (n + e.toNat) ≤ 10 ^ (u + (-e).toNat) := p10_le (by omega)
  rw [Nat.pow_add 10 u] at h3
  have h4 := nbits_le.1 (Nat.le_refl (nbits (10 ^ (-e).toNat)))
  have h5 := Nat.mul_lt_mul_of_lt_of_lt ht h4
  rw [← Nat.pow_add 2] at h5
  exact nbits_le.2 (Nat.lt_trans h2 (Nat.lt_of_le_of_lt h3 h5))
theorem read_v {D n : Nat} {e : Int} (hD : D < 10 ^ n) (h1 : n + e ≤ 310) : (nbits (D * 10 ^ e.toNat) : Int) - nbits (10 ^ (-e).toNat) ≤ 1100 := by
  have h := read_gen (u := 31 * 10) (v := 103 * 10) (tens (i := 10) (by decide)) hD (e := e) (by omega)
  omega

/-- the digits without the noughts ahead -/
def bare (l : List UInt8) : List UInt8 := l.dropWhile (· == 48)
/-- what Read answers for digits -/
def readB (l : List UInt8) (e : Int) : Nat :=
  if (bare l).length = 0 ∨ e < -4000 then 0
  else if 2000 < e ∨ 310 < (bare l).length + e then 9218868437227405312
  else if (bare l).length + e < -330 then 0
  else near (digVal (bare l) * 10 ^ e.toNat) (10 ^ (-e).toNat)
theorem bare_digits {l : List UInt8} (h : Digits l) : Digits (bare l) := fun c hc => h c ((List.dropWhile_sublist _).subset hc)
theorem bare_length (l : List UInt8) : (bare l).length ≤ l.length := (List.dropWhile_sublist _).length_le
theorem dw_nil (p : UInt8 → Bool) : ∀ l : List UInt8, l.dropWhile p = [] → ∀ x ∈ l, p x = true
  | [], _, x, hx => by simp at hx
  | c :: r, h, x, hx => by
    rw [List.dropWhile_cons] at h
    by_cases hc : p c = true
    · rw [if_pos hc] at h
      rcases List.mem_cons.1 hx with rfl | h2
      · exact hc
      · exact dw_nil p r h x h2
    · rw [if_neg hc] at h; simp at h
theorem dw_head (p : UInt8 → Bool) : ∀ (l : List UInt8) (x : UInt8) (r : List UInt8), l.dropWhile p = x :: r → p x = false
  | [], x, r, h => by simp at h
  | c :: l, x, r, h => by
    rw [List.dropWhile_cons] at h
    by_cases hc : p c = true
    · rw [if_pos hc] at h; exact dw_head p l x r h
    · rw [if_neg hc] at h
      have : c = x := by injection h
      subst this
      simpa using hc
theorem dw_all (p : UInt8 → Bool) : ∀ l : List UInt8, (∀ x ∈ l, p x = true) → l.dropWhile p = []
  | [], _ => rfl
  | c :: r, h => by rw [List.dropWhile_cons, if_pos (h c (by simp))]; exact dw_all p r fun x hx => h x (by simp [hx])
def digs : List UInt8 := [48, 49, 50, 51, 52, 53, 54, 55, 56, 57]
set_option maxRecDepth 100000 in
theorem digs_iff (c : UInt8) : digs.contains c = true ↔ 48 ≤ c.toNat ∧ c.toNat ≤ 57 := by
  have h : ∀ c : Fin 256, (digs.contains (UInt8.ofNat c.1) = true) ↔ 48 ≤ c.1 ∧ c.1 ≤ 57 := by decide
  have h2 := h ⟨c.toNat, c.toNat_lt⟩
  simpa using h2
theorem trimS_digits {l : List UInt8} (h : Digits l) : Lib.trimS l digs = [] := by
  have h1 : Lib.trimRightS l digs = [] := by
    unfold Lib.trimRightS
    rw [dw_all _ l.reverse (fun x hx => (digs_iff x).2 (h x (by simpa using hx)))]
    rfl
  unfold Lib.trimS
  rw [h1]; rfl
theorem trimS_bad {l : List UInt8} (h : Lib.trimS l digs = []) : Digits l := by
  unfold Lib.trimS Lib.trimLeftS at h
  have h1 := dw_nil _ _ h
  unfold Lib.trimRightS at h1
  have h2 : l.reverse.dropWhile (digs.contains ·) = [] := by
    cases h3 : l.reverse.dropWhile (digs.contains ·) with
    | nil => rfl
    | cons x r =>
      have h4 := dw_head _ _ _ _ h3
      rw [h3] at h1
      have h5 := h1 x (by simp)
      rw [h4] at h5; cases h5
  have h3 := dw_nil _ _ h2
  exact fun c hc => (digs_iff c).1 (h3 c (by simpa using hc))
theorem bare_pos {l : List UInt8} (h : Digits l) (hn : (bare l).length ≠ 0) : 0 < digVal (bare l) := by
  have hd := bare_digits h
  cases h1 : bare l with
  | nil => rw [h1] at hn; simp at hn
  | cons c r =>
    have h2 := dw_head _ _ _ _ h1
    rw [h1] at hd
    have h3 := hd c (by simp)
    have h4 : c.toNat ≠ 48 := fun h5 => by
      have : c = 48 := UInt8.toNat_inj.1 h5
      rw [this] at h2; simp at h2
    rw [digVal_cons]
    have h5 : 1 * 10 ^ r.length ≤ (c.toNat - 48) * 10 ^ r.length := Nat.mul_le_mul_right _ (by omega)
    have h6 : 0 < 10 ^ r.length := Nat.pow_pos (by decide)
    omega
end Go.Proofs.YtcmpdamfeoaapaaGreatDoor
end

section
/- Package dec: Sci, the loop. -/
namespace Go.Proofs.YtcmpdamfeoaapaaGreatDoor
open Go.RowKit
set_option linter.unusedVariables false

/-- what Sci answers: the digits and the power of ten: the least one from the start on at which p + 1 digits are enough -/
structure SciAt (b p : Nat) (x : Int) : Prop where
  ge : 10 ^ p ≤ scaledN b (p - x)
  lt : scaledN b (p - x) < 10 ^ (p + 1)
  least : ∃ y0, y0 ≤ x ∧ GeT (mant b * 2 ^ (expo b).toNat) (2 ^ (-(expo b)).toNat) (p - y0) (10 ^ p) ∧ ∀ y, y0 ≤ y → y < x → 10 ^ (p + 1) ≤ scaledN b (p - y)

theorem canon_ne_zero {l : List UInt8} {x : Nat} (h : Canon l x) (hx : 0 < x) : l ≠ [48] := by
  intro hl
  have h1 := h.val
  rw [hl] at h1
  have h2 : digVal [48] = 0 := by decide
  omega

set_option maxRecDepth 100000 in
set_option maxHeartbeats 4000000 in
theorem Sci_loop (b : Nat) (p : Nat) (w : World) (hb : b < 18446744073709551616) (hf : fin b = true) (hp : p ≤ 200) (hm : 0 < mant b) :
    Calls Tryz.prog 164 #[.float .f64 b, .int .i64 p] w fun e w' => ∃ (s : ByteArray) (x : Int), e = .returned (.tuple #[.string s, .int .i64 x, .int .i64 0]) ∧ Canon s.data.toList (scaledN b (p - x)) ∧ s.data.toList.length = p + 1 ∧ SciAt b p x ∧ -325 ≤ x ∧ x ≤ 309 ∧ Below w.heap.size w w' := by
  have HP := Lib.hid (Parts_any b w hb)
  rw [hf] at HP
  have hm1 := mant_lt b
  have he := expo_bounds (b := b)
  obtain ⟨hm2, hm3⟩ := nbits_pos hm
  have hm4 : nbits (mant b) ≤ 53 := nbits_le.2 (by rw [show (2 : Nat) ^ 53 = 9007199254740992 by decide]; exact hm1)
  obtain ⟨t, ht⟩ : ∃ t : Int, t = (nbits (mant b) : Int) - 1 + expo b := ⟨_, rfl⟩
  obtain ⟨x0, hx0⟩ : ∃ x0 : Int, x0 = exp0 t := ⟨_, rfl⟩
  have hx0' : (t * 30103).tdiv 100000 - 2 = x0 := hx0.symm
  have hx1 : -325 ≤ x0 := by rw [hx0]; exact (exp0_bounds (by omega) (by omega)).1
  have hx2 : x0 ≤ 306 := by rw [hx0]; exact (exp0_bounds (by omega) (by omega)).2
  have hB : 0 < 2 ^ (-(expo b)).toNat := Nat.pow_pos (by decide)
  have hA := fin_lt (m := mant b) (j := (expo b).toNat) (i := 12) (-(expo b)).toNat (by rw [show (2 : Nat) ^ 53 = 9007199254740992 by decide]; exact hm1) (by omega) (by decide)
  have hst : GeT (mant b * 2 ^ (expo b).toNat) (2 ^ (-(expo b)).toNat) ((p : Int) - x0) (10 ^ p) := by
    have h := sci_start hm2 (e := expo b) (by omega) (by omega) p
    rw [show ((nbits (mant b) - 1 : Nat) : Int) + expo b = t by omega, ← hx0] at h
    exact h
  have HX : Hid (∀ x : Int, x0 ≤ x → (∀ y, x0 ≤ y → y < x → 10 ^ (p + 1) ≤ scaledN b (p - y)) → x ≤ 309) := by
    intro x h1 h2
    rcases Int.lt_or_le x0 x with h | h
    · have h3 := h2 (x - 1) (by omega) (by omega)
      rw [scaledN_rat] at h3
      have := sci_high (H := 25 * 12 + 9) hB hA h3
      omega
    · omega
  have HRD : Hid (∀ (x : Int) (l : List UInt8), x0 ≤ x → (∀ y, x0 ≤ y → y < x → 10 ^ (p + 1) ≤ scaledN b (p - y)) → Canon l (scaledN b (p - x)) →
      (p + 1 < l.length ∧ 10 ^ (p + 1) ≤ scaledN b (p - x)) ∨ (l.length = p + 1 ∧ l ≠ [48] ∧ SciAt b p x)) := by
    intro x l h1 h2 hc
    rcases Nat.lt_or_ge (scaledN b (p - x)) (10 ^ (p + 1)) with h | h
    · have h3 : 10 ^ p ≤ scaledN b (p - x) := by
        rw [scaledN_rat]
        refine sci_down hB ?_
        rcases Int.lt_or_le x0 x with h4 | h4
        · refine .inr ?_
          have h5 := h2 (x - 1) (by omega) (by omega)
          rw [scaledN_rat] at h5
          rwa [show (p : Int) - x + 1 = p - (x - 1) by omega]
        · refine .inl ?_
          rwa [show x = x0 by omega]
      refine .inr ⟨Nat.le_antisymm (canon_len hc h (by omega)) (canon_len_gt hc h3), canon_ne_zero hc (Nat.lt_of_lt_of_le (Nat.pow_pos (by decide)) h3), h3, h, x0, h1, hst, h2⟩
    · exact .inl ⟨canon_len_gt hc h, h⟩
  have HS : Hid (∀ (x : Int) (W : World), x0 ≤ x → x ≤ 309 → Calls Tryz.prog 119 #[.int .u64 (mant b : Nat), .int .i64 (expo b), .int .i64 (p - x)] W fun r w' => ∃ v, r = .returned v ∧ NatV w' v (scaledN b (p - x)) ∧ Below W.heap.size W w') :=
    fun x W h1 h2 => scaled_b b (p - x) W (by omega) (by omega)
  have HT : Hid (∀ (x : Int) (W : World) (v : Value), x0 ≤ x → x ≤ 309 → NatV W v (scaledN b (p - x)) → Calls Tryz.prog 118 #[v] W fun e w' => ∃ s : ByteArray, e = .returned (.tuple #[.string s, .int .i64 0]) ∧ Canon s.data.toList (scaledN b (p - x)) ∧ s.data.toList.length ≤ 4001 ∧ Below W.heap.size W w') :=
    fun x W v h1 h2 h => text_b (by omega) (by omega) h
  have HF := Lib.hid (fun W => FromV (mant b) _ rfl (by omega) W)
  have HBT : Hid (∀ (v : Value) (W : World), NatV W v (mant b) → Calls Tryz.prog 197 #[v] W fun r W' => r = .returned (.int .i64 (nbits (mant b) : Nat)) ∧ W = W') :=
    fun v W h => Bits_V v _ W h (limbs_of_bits (by omega))
  have hm0 : (mant b : Int) ≠ 0 := by omega
  generalize scaledN b = N at *
  generalize nbits (mant b) = nm at *
  generalize mant b = m at *
  generalize expo b = x at *
  clear hb hf hB hA hst hx0 hm hm2
  have hpi : (p : Int) ≤ 200 := by omega
  go_enter Tryz.func164, Tryz.ntmps164
  go_wp2_with fail
  refine HP.out.mono ?_
  rintro e w1 ⟨rfl, rfl⟩
  clear HP
  go_wp2_with fail
  refine (HF.out w).mono ?_
  rintro e w1 ⟨v1, rfl, hn1, hb1⟩
  have HBT1 := Lib.hid (HBT.out v1 w1 hn1)
  have HB1 := Lib.hid hb1
  have hs1 := hb1.size
  clear hn1 hb1 HBT HF
  go_wp2_with fail
  refine HBT1.out.mono ?_
  rintro e w2 ⟨rfl, rfl⟩
  clear HBT1
  have et : (nm : Int) - 1 + x = t := ht.symm
  clear ht
  have het : (t * 30103).tdiv 100000 = x0 + 2 := by omega
  go_wp2_with fail
  go_loopw [10] (fun ev wr => ∃ (y : Int), x0 ≤ y ∧ y ≤ 309 ∧ ev = .int .i64 y ∧ Below w.heap.size w wr ∧ w.heap.size ≤ wr.heap.size ∧ ∀ z, x0 ≤ z → z < y → 10 ^ (p + 1) ≤ N (p - z)) (fun ev _ => (400 - intOf ev).toNat)
  case atStart =>
    refine ⟨x0, Int.le_refl _, by omega, ?_, HB1.out, hs1, fun z h1 h2 => by omega⟩
    first | rfl | (congr 1; omega)
  case round =>
    obtain ⟨y, hy1, hy2, rfl, hbw, hsw, hl⟩ := hrel
    have HB := Lib.hid hbw; have HL := Lib.hid hl
    clear hbw hl HB1 het et
    have hc1 : x0 ≤ y := hy1
    go_wp2_with fail
    refine (HS.out y wr hy1 hy2).mono ?_
    rintro e w3 ⟨v3, rfl, hn3, hb3⟩
    have HT3 := Lib.hid (HT.out y w3 v3 hy1 hy2 hn3)
    have HB3 := Lib.hid (HB.out.trans (hb3.mono hsw))
    have hs3 := hb3.size
    clear hn3 hb3 HB
    go_wp2_with fail
    refine HT3.out.mono ?_
    rintro e w4 ⟨s, rfl, hc, hl4, hb4⟩
    have HB4 := Lib.hid (HB3.out.trans (hb4.mono (by omega)))
    have hs4 := hb4.size
    have HC := Lib.hid hc
    have hR := HRD.out y s.data.toList hy1 HL.out hc
    have hsz : s.size = s.data.toList.length := by simp
    obtain ⟨n, hn⟩ : ∃ n, n = s.size := ⟨_, rfl⟩
    rw [← hsz, ← hn] at hR hl4
    have hn1 : s.size = n := hn.symm
    clear hc hb4 HB3 HT3 hsz hn
    rcases hR with ⟨h1, h2⟩ | ⟨h1, h2, h3⟩
    · have h1' : (p : Int) + 1 < (n : Int) := by omega
      have HG := Lib.hid h2
      clear h2 h1
      have HL2 : Hid (∀ z, x0 ≤ z → z < y + 1 → 10 ^ (p + 1) ≤ N (p - z)) := by
        intro z hz1 hz2
        rcases Int.lt_or_le z y with h | h
        · exact HL.out z hz1 h
        · rw [show z = y by omega]; exact HG.out
      have hy3 : y + 1 ≤ 309 := HX.out (y + 1) (by omega) HL2.out
      go_wp2_with fail
      go_roundw
      case rel => exact ⟨y + 1, by omega, hy3, rfl, HB4.out, by omega, HL2.out⟩
      case measure => show (400 - (y + 1)).toNat < (400 - y).toNat; omega
    · have h1' : (n : Int) = (p : Int) + 1 := by omega
      have hne : (s.toList == [48]) = false := beq_eq_false_iff_ne.2 (by rw [ByteArray.toList_eq]; exact h2)
      have HG := Lib.hid h3
      clear h2 h1 h3
      have HN : Hid (s.data.toList.length = p + 1) := by
        have hsz : s.size = s.data.toList.length := by simp
        show _ = _
        omega
      go_wp2_with fail
      go_ret3
      exact ⟨s, y, rfl, HC.out, HN.out, HG.out, by omega, hy2, HB4.out⟩
end Go.Proofs.YtcmpdamfeoaapaaGreatDoor
end

section
/- Package dec: Read. -/
namespace Go.Proofs.YtcmpdamfeoaapaaGreatDoor
open Go.RowKit
set_option linter.unusedVariables false

theorem Trim_digs (s : ByteArray) (w : World) (hs : s.size ≤ 9223372036854775807) :
    Calls Tryz.prog 54 #[.string s, .string ⟨#[48, 49, 50, 51, 52, 53, 54, 55, 56, 57]⟩] w fun e w' => e = .returned (.string ⟨(Lib.trimS s.data.toList digs).toArray⟩) ∧ Below w.heap.size w w' :=
  Any.strings_Trim_laid Tryz.lays160 (by kernel_rfl) s ⟨#[48, 49, 50, 51, 52, 53, 54, 55, 56, 57]⟩ w hs (by decide) (ascii_of_all (by decide))

theorem Inf_pos (w : World) : Calls Tryz.prog 151 #[.int .i64 1] w fun e w' => e = .returned (.float .f64 9218868437227405312) ∧ w' = w := by
  go_enter Tryz.func151, Tryz.ntmps151
  go_wp2_with fail
  go_ret
  exact ⟨rfl, rfl⟩

set_option maxRecDepth 100000 in
set_option maxHeartbeats 2000000 in
theorem Read_bad (s : ByteArray) (x : Int) (w : World) (hs : s.size ≤ 9223372036854775807) (h : s.data.toList = [] ∨ ¬ Digits s.data.toList) :
    Calls Tryz.prog 102 #[.string s, .int .i64 x] w fun e w' => e = .returned (.tuple #[.float .f64 0, .int .i64 30]) ∧ Below w.heap.size w w' := by
  have HT := Lib.hid (Trim_digs s w hs)
  go_enter Tryz.func102, Tryz.ntmps102
  rcases h with h | h
  · have h0 : s.toList.isEmpty = true := by rw [ByteArray.toList_eq, h]; rfl
    clear h
    go_wp2_with fail
    go_ret2
    exact ⟨rfl, Below.refl _ _⟩
  · by_cases he : s.data.toList = []
    · exact absurd (by rw [he]; intro c hc; simp at hc) h
    have h0 : s.toList.isEmpty = false := by rw [ByteArray.toList_eq]; simpa using he
    clear he
    obtain ⟨T, hT⟩ : ∃ T : ByteArray, T = ⟨(Lib.trimS s.data.toList digs).toArray⟩ := ⟨_, rfl⟩
    have h1 : T.toList.isEmpty = false := by
      rw [ByteArray.toList_eq, hT]
      cases h2 : Lib.trimS s.data.toList digs with
      | nil => exact absurd (trimS_bad h2) h
      | cons _ _ => rfl
    rw [← hT] at HT
    clear hT h
    go_wp2_with fail
    refine HT.out.mono ?_
    rintro e w1 ⟨rfl, hb⟩
    have HB := Lib.hid hb
    clear hb HT
    go_wp2_with fail
    go_ret2
    exact ⟨rfl, HB.out⟩

theorem Trim_ok (s : ByteArray) (w : World) (hs : s.size ≤ 9223372036854775807) (h : Digits s.data.toList) :
    Calls Tryz.prog 54 #[.string s, .string ⟨#[48, 49, 50, 51, 52, 53, 54, 55, 56, 57]⟩] w fun e w' => e = .returned (.string ⟨#[]⟩) ∧ Below w.heap.size w w' := by
  have h1 := Trim_digs s w hs
  rw [trimS_digits h] at h1
  exact h1

set_option maxRecDepth 100000 in
set_option maxHeartbeats 2000000 in
theorem Read_long (s : ByteArray) (x : Int) (w : World) (hs : s.size ≤ 9223372036854775807) (hd : Digits s.data.toList) (hl : 1024 < s.data.toList.length) :
    Calls Tryz.prog 102 #[.string s, .int .i64 x] w fun e w' => e = .returned (.tuple #[.float .f64 0, .int .i64 3]) ∧ Below w.heap.size w w' := by
  have HT := Lib.hid (Trim_ok s w hs hd)
  have h0 : s.toList.isEmpty = false := by
    rw [ByteArray.toList_eq]
    cases h : s.data.toList with
    | nil => rw [h] at hl; simp at hl
    | cons _ _ => rfl
  have hl2 : 1024 < (s.size : Int) := by
    have hsz : s.size = s.data.toList.length := by simp
    omega
  clear hd hl
  go_enter Tryz.func102, Tryz.ntmps102
  go_wp2_with fail
  refine HT.out.mono ?_
  rintro e w1 ⟨rfl, hb⟩
  have HB := Lib.hid hb
  clear hb HT
  go_wp2_with fail
  go_ret2
  exact ⟨rfl, HB.out⟩

set_option maxRecDepth 100000 in
set_option maxHeartbeats 4000000 in
theorem Read_ok (s : ByteArray) (x : Int) (w : World) (hn : s.data.toList ≠ []) (hd : Digits s.data.toList) (hl : s.data.toList.length ≤ 1024) (hx1 : -9223372036854775808 ≤ x) (hx2 : x ≤ 9223372036854775807) :
    Calls Tryz.prog 102 #[.string s, .int .i64 x] w fun e w' => e = .returned (.tuple #[.float .f64 (readB s.data.toList x), .int .i64 0]) ∧ Below w.heap.size w w' := by
  have hsz : s.size = s.data.toList.length := by simp
  have HT := Lib.hid (Trim_ok s w (by omega) hd)
  have h0 : s.toList.isEmpty = false := by
    rw [ByteArray.toList_eq]
    simpa using hn
  have hTL : Hid (∀ W, Calls Tryz.prog 46 #[.string s, .string ⟨#[48]⟩] W fun e w' => e = .returned (.string ⟨(bare s.data.toList).toArray⟩) ∧ w' = W) := fun W => Tryz.strings_TrimLeft_one s 48 (by decide) W
  obtain ⟨t, ht⟩ : ∃ t : ByteArray, t = ⟨(bare s.data.toList).toArray⟩ := ⟨_, rfl⟩
  rw [← ht] at hTL
  have htl : t.data.toList = bare s.data.toList := by rw [ht]
  obtain ⟨n, hn0⟩ : ∃ n, n = t.size := ⟨_, rfl⟩
  have hn1 : t.size = n := hn0.symm
  have hn2 : (bare s.data.toList).length = n := by rw [← htl, hn0]; simp
  have hn3 : n ≤ 1024 := by have := bare_length s.data.toList; omega
  have hdt : Digits t.data.toList := by rw [htl]; exact bare_digits hd
  have hR : Hid (readB s.data.toList x = if n = 0 ∨ x < -4000 then 0 else if 2000 < x ∨ 310 < (n : Int) + x then 9218868437227405312 else if (n : Int) + x < -330 then 0 else near (digVal t.data.toList * 10 ^ x.toNat) (10 ^ (-x).toNat)) := by
    show _ = _
    unfold readB
    rw [hn2, htl]
  have HD0 : Hid (n ≠ 0 → 0 < digVal t.data.toList) := fun h => by rw [htl]; exact bare_pos hd (by rw [hn2]; exact h)
  generalize readB s.data.toList x = R at *
  have HDT := Lib.hid hdt
  have hlt : t.data.toList.length = n := by rw [htl, hn2]
  have HLT := Lib.hid hlt
  generalize hLe : s.data.toList = L at *
  have HLe := Lib.hid hLe
  have HD := Lib.hid hd
  clear hd hn hLe ht htl hn0 hn2 hdt hlt
  go_enter Tryz.func102, Tryz.ntmps102
  go_wp2_with fail
  refine HT.out.mono ?_
  rintro e w1 ⟨rfl, hb⟩
  have HB := Lib.hid hb
  have hs1 := hb.size
  clear hb HT
  have hls : (s.size : Int) ≤ 1024 := by omega
  go_wp2_with (refine wpList_bytes _ rfl _ rfl s rfl ?_; rw [HLe.out, hsz]; intro cap1 w2 hl2 hb2 hs2)
  have HB2 := Lib.hid (HB.out.trans (hb2.mono hs1))
  generalize hg1 : w1.heap.size = g1 at *
  have HL1 := Lib.hid hl2
  clear hg1 hl2 hb2 HB hls
  go_wp2_with fail
  go_loop [28] (fun i => ∃ k : Nat, k ≤ L.length ∧ i = .int .i64 k) (fun i => L.length - (intOf i).toNat)
  case atStart => exact ⟨0, Nat.zero_le _, rfl⟩
  case round =>
    obtain ⟨k, hk, rfl⟩ := hrel
    by_cases hlt : k < L.length
    · have hc := HL1.out k hlt
      rw [Nat.zero_add] at hc
      have hdd := HD.out _ (List.getElem_mem hlt)
      generalize L[k].toNat = c at *
      go_wp2_with fail
      go_round
      case rel => exact ⟨k + 1, by omega, by go_num⟩
      case measure => simp [intOf]; omega
    · obtain rfl : k = L.length := by omega
      clear HL1
      go_wp2_with fail
      refine (hTL.out w2).mono ?_
      rintro e w3 ⟨rfl, rfl⟩
      clear hTL
      have HB3 := Lib.hid (HB2.out)
      have hs3 := hs2
      have hbs := HB2.out.size
      clear HB2 hs2 HLe hsz h0 hk hlt HD hl
      by_cases hc0 : n = 0 ∨ x < -4000
      · obtain rfl : R = 0 := by rw [hR.out, if_pos hc0]
        rcases hc0 with h | h
        · clear hn3
          subst h
          go_wp2_with fail
          go_ret2
          exact ⟨rfl, HB3.out⟩
        · by_cases h2 : n = 0
          · subst h2
            go_wp2_with fail
            go_ret2
            exact ⟨rfl, HB3.out⟩
          · have h3 : (n : Int) ≠ 0 := by omega
            go_wp2_with fail
            go_ret2
            exact ⟨rfl, HB3.out⟩
      · have h3 : (n : Int) ≠ 0 := by omega
        have h4 : -4000 ≤ x := by omega
        have hD0 := HD0.out (by omega)
        have hno : ¬ (((n : Int) == 0) = true ∨ x < -4000) := by rw [beq_iff_eq]; omega
        by_cases hc1 : 2000 < x ∨ 310 < (n : Int) + x
        · obtain rfl : R = 9218868437227405312 := by rw [hR.out, if_neg hc0, if_pos hc1]
          clear hR hc0
          by_cases h5 : 2000 < x
          · clear hc1
            go_wp2_with fail
            refine (Inf_pos w3).mono ?_
            rintro e w4 ⟨rfl, rfl⟩
            go_wp2_with fail
            go_ret2
            exact ⟨rfl, HB3.out⟩
          · have h6 : 310 < (n : Int) + x := by omega
            clear hc1
            go_wp2_with fail
            refine (Inf_pos w3).mono ?_
            rintro e w4 ⟨rfl, rfl⟩
            go_wp2_with fail
            go_ret2
            exact ⟨rfl, HB3.out⟩
        · have h5 : x ≤ 2000 := by omega
          have h6 : (n : Int) + x ≤ 310 := by omega
          by_cases hc2 : (n : Int) + x < -330
          · obtain rfl : R = 0 := by rw [hR.out, if_neg hc0, if_neg hc1, if_pos hc2]
            clear hR hc0
            go_wp2_with fail
            go_ret2
            exact ⟨rfl, HB3.out⟩
          · have hR2 : R = near (digVal t.data.toList * 10 ^ x.toNat) (10 ^ (-x).toNat) := by rw [hR.out, if_neg hc0, if_neg hc1, if_neg hc2]
            have HRR := Lib.hid hR2
            have h7 : -330 ≤ (n : Int) + x := by omega
            clear hR hc0 hc1 hc2 hR2
            have hDl : digVal t.data.toList < 10 ^ n := by rw [← HLT.out]; exact digVal_lt HDT.out
            have hB1 : nbits (digVal t.data.toList) ≤ 4100 := read_d hDl hn3
            have hB2 := read_x hDl hn3 h6
            have hB3 := read_v hDl h6
            have hB4 : nbits (10 ^ x.toNat) ≤ 5700 := read_pow (by omega)
            have hB5 : nbits (10 ^ (-x).toNat) ≤ 5700 := read_pow (by omega)
            have hne : t.data.toList ≠ [] := by intro h; have := HLT.out; rw [h] at this; simp at this; omega
            have HPA := Lib.hid (fun W => Parse_any t W hne HDT.out (limbs_of_bits (by omega)) (by have := HLT.out; omega))
            have hp1 : 0 < (10 : Nat) ^ (-x).toNat := Nat.pow_pos (by decide)
            generalize digVal t.data.toList = D at *
            have P1 := Lib.hid (fun W => pow10_any x.toNat W (limbs_of_bits (by omega)) (by omega))
            have P2 := Lib.hid (fun W => pow10_any (-x).toNat W (limbs_of_bits (by omega)) (by omega))
            have M1 := Lib.hid (fun W va vb h1 h2 => Mul_any va vb D (10 ^ x.toNat) W h1 h2 (limbs_of_bits (by omega)) (limbs_of_bits (by omega)) (limbs_of_bits (by omega)))
            have hNE : Hid (∀ (W : World) (va vb : Value), NatV W va (D * 10 ^ x.toNat) → NatV W vb (10 ^ (-x).toNat) → Calls Tryz.prog 155 #[va, vb] W fun e W' => e = .returned (.float .f64 R) ∧ Below W.heap.size W W') := by
              intro W va vb h1 h2
              refine (nearest_any va vb _ _ W h1 h2 hp1 (by omega) (by omega) hB3).mono ?_
              rintro e W' ⟨E, hE, rfl, hb⟩
              rw [nearBits_near (Nat.mul_pos hD0 (Nat.pow_pos (by decide))) hp1 hE]
              exact ⟨by rw [HRR.out], hb⟩
            obtain ⟨k1, hk1⟩ : ∃ k : Nat, k = x.toNat := ⟨_, rfl⟩
            obtain ⟨k2, hk2⟩ : ∃ k : Nat, k = (-x).toNat := ⟨_, rfl⟩
            have e1 : max x 0 = (k1 : Int) := by omega
            have e2 : max (-x) 0 = (k2 : Int) := by omega
            rw [← hk1] at P1 M1 hNE
            rw [← hk2] at P2 hNE
            generalize 10 ^ k1 = p1 at *
            generalize 10 ^ k2 = p2 at *
            clear hDl hB1 hB2 hB3 hB4 hB5 hne hp1 HRR hk1 hk2
            go_wp2_with fail
            refine (HPA.out w3).mono ?_
            rintro e w4 ⟨v4, rfl, hv4, hb4⟩
            have HV4 := Lib.hid hv4
            have HB4 := Lib.hid (HB3.out.trans (hb4.mono hbs))
            have hs4 := hb4.size
            clear hv4 hb4 HB3 HPA
            go_wp2_with fail
            refine (P1.out w4).mono ?_
            rintro e w5 ⟨v5, rfl, hv5, hb5⟩
            have HM := Lib.hid (M1.out w5 v4 v5 (HV4.out.below hb5) hv5)
            have HB5 := Lib.hid (HB4.out.trans (hb5.mono (by omega)))
            have hs5 := hb5.size
            clear hv5 hb5 HB4 HV4 P1 M1
            go_wp2_with fail
            refine HM.out.mono ?_
            rintro e w6 ⟨v6, rfl, hv6, hb6⟩
            have HV6 := Lib.hid hv6
            have HB6 := Lib.hid (HB5.out.trans (hb6.mono (by omega)))
            have hs6 := hb6.size
            clear hv6 hb6 HB5 HM
            go_wp2_with fail
            refine (P2.out w6).mono ?_
            rintro e w7 ⟨v7, rfl, hv7, hb7⟩
            have HN := Lib.hid (hNE.out w7 v6 v7 (HV6.out.below hb7) hv7)
            have HB7 := Lib.hid (HB6.out.trans (hb7.mono (by omega)))
            have hs7 := hb7.size
            clear hv7 hb7 HB6 HV6 P2 hNE
            go_wp2_with fail
            refine HN.out.mono ?_
            rintro e w8 ⟨rfl, hb8⟩
            have HB8 := Lib.hid (HB7.out.trans (hb8.mono (by omega)))
            clear hb8 HN HB7
            go_wp2_with fail
            go_ret2
            exact ⟨rfl, HB8.out⟩
end Go.Proofs.YtcmpdamfeoaapaaGreatDoor
end

section
/- thresherlaw03: text, same. -/
namespace Go.Proofs.YtcmpdamfeoaapaaGreatDoor
open Go.RowKit
set_option linter.unusedVariables false

/-- the sign of a digit -/
def dig (r : Nat) : UInt8 := UInt8.ofNat (48 + r)
theorem dig_nat (r : Nat) (h : r < 10) : (dig r).toNat = 48 + r := by
  unfold dig; rw [UInt8.toNat_ofNat', Nat.mod_eq_of_lt (by omega)]
theorem cell_one (w : World) (t : TypeId) (n : Nat) (v : Int) (hv : v = (48 + n % 10 : Nat)) : ∀ j (hj : j < [dig (n % 10)].length), (w.alloc (.cells #[.int .u8 v] t)).cell? ⟨w.heap.size, j, none⟩ = some (.int .u8 ([dig (n % 10)][j].toNat : Nat)) := by
  intro j hj
  have h1 : j < 1 := hj
  obtain rfl : j = 0 := by omega
  simp only [List.getElem_cons_zero]
  rw [dig_nat _ (by omega), World.cell?_alloc_new, hv]
  rfl

/-- the digits of n so far: the least of them are r, m is what is left -/
structure Left (n m : Nat) (l r : List UInt8) : Prop where
  eq : l = dig (m % 10) :: r
  val : n = m * 10 ^ r.length + digVal r
  dig : Digits r
  pos : r = [] ∨ 0 < m
theorem Left.start (n : Nat) : Left n n [Go.Proofs.YtcmpdamfeoaapaaGreatDoor.dig (n % 10)] [] := ⟨rfl, by simp [digVal], by intro c hc; simp at hc, .inl rfl⟩
theorem Left.digits {n m : Nat} {l r : List UInt8} (h : Left n m l r) : Digits l := by
  rw [h.eq]
  intro c hc
  rcases List.mem_cons.1 hc with rfl | h2
  · rw [dig_nat _ (by omega)]; omega
  · exact h.dig c h2
theorem Left.digVal {n m : Nat} {l r : List UInt8} (h : Left n m l r) : digVal l = (m % 10) * 10 ^ r.length + Go.Proofs.YtcmpdamfeoaapaaGreatDoor.digVal r := by
  rw [h.eq, digVal_cons, dig_nat _ (by omega)]
  congr 2
  omega
theorem Left.step {n m : Nat} {l r : List UInt8} (h : Left n m l r) (hm : 10 ≤ m) : Left n (m / 10) (Go.Proofs.YtcmpdamfeoaapaaGreatDoor.dig (m / 10 % 10) :: l) l := by
  refine ⟨rfl, ?_, h.digits, .inr (by omega)⟩
  rw [h.digVal]
  have h1 := h.val
  have e : l.length = r.length + 1 := by rw [h.eq]; rfl
  rw [e, Nat.pow_succ]
  generalize 10 ^ r.length = P at *
  have e2 : m = 10 * (m / 10) + m % 10 := by omega
  rw [h1]
  generalize m / 10 = a at *
  generalize m % 10 = b at *
  subst e2
  have e3 : (10 * a + b) * P = a * (P * 10) + b * P := by rw [Nat.add_mul, Nat.mul_comm 10 a, Nat.mul_assoc, Nat.mul_comm 10 P]
  omega
theorem Left.canon {n m : Nat} {l r : List UInt8} (h : Left n m l r) (hm : m < 10) : Canon l n := by
  refine ⟨by rw [h.eq]; simp, h.digits, ?_, ?_⟩
  · rw [h.digVal, h.val, Nat.mod_eq_of_lt hm]
  · intro c t hl hc
    rw [h.eq] at hl
    injection hl with h1 h2
    subst h2
    rw [← h1, dig_nat _ (by omega)] at hc
    rcases h.pos with h3 | h3
    · exact h3
    · omega
theorem Left.short {n m : Nat} {l r : List UInt8} (h : Left n m l r) (hn : n < 18446744073709551616) : l.length ≤ 20 := by
  have e : l.length = r.length + 1 := by rw [h.eq]; rfl
  rcases h.pos with h1 | h1
  · rw [e, h1]; decide
  · have h2 : 10 ^ r.length ≤ n := by
      rw [h.val]
      have : 1 * 10 ^ r.length ≤ m * 10 ^ r.length := Nat.mul_le_mul_right _ h1
      omega
    have h3 : r.length < 20 := (Nat.pow_lt_pow_iff_right (a := 10) (by decide)).1 (Nat.lt_of_le_of_lt h2 (Nat.lt_of_lt_of_le hn (by decide)))
    omega

end Go.Proofs.YtcmpdamfeoaapaaGreatDoor
end

section
/- thresherlaw03: fixed; a number has one text. -/
namespace Go.Proofs.YtcmpdamfeoaapaaGreatDoor
open Go.RowKit
set_option linter.unusedVariables false

theorem digits_unique : ∀ l l' : List UInt8, Digits l → Digits l' → l.length = l'.length → digVal l = digVal l' → l = l'
  | [], [], _, _, _, _ => rfl
  | [], _ :: _, _, _, h, _ => by simp at h
  | _ :: _, [], _, _, h, _ => by simp at h
  | c :: r, c' :: r', hd, hd', hl, hv => by
    have hl2 : r.length = r'.length := by simpa using hl
    have h1 := hd c (by simp)
    have h1' := hd' c' (by simp)
    have hr : Digits r := fun x hx => hd x (by simp [hx])
    have hr' : Digits r' := fun x hx => hd' x (by simp [hx])
    rw [digVal_cons, digVal_cons, hl2] at hv
    have h2 := digVal_lt hr
    have h2' := digVal_lt hr'
    rw [hl2] at h2
    have hP : 0 < 10 ^ r'.length := Nat.pow_pos (by decide)
    generalize 10 ^ r'.length = P at *
    have ha : (digVal r + P * (c.toNat - 48)) / P = (digVal r' + P * (c'.toNat - 48)) / P := by
      rw [Nat.mul_comm P, Nat.mul_comm P, Nat.add_comm, hv, Nat.add_comm]
    rw [Nat.add_mul_div_left _ _ hP, Nat.add_mul_div_left _ _ hP, Nat.div_eq_of_lt h2, Nat.div_eq_of_lt h2'] at ha
    have hc : c = c' := UInt8.toNat_inj.1 (by omega)
    subst hc
    rw [digits_unique r r' hr hr' hl2 (by omega)]
theorem canon_low {l : List UInt8} {x : Nat} (h : Canon l x) (hl : 1 < l.length) : 10 ^ (l.length - 1) ≤ x := by
  cases h1 : l with
  | nil => exact absurd h1 h.ne
  | cons c r =>
    have h2 := h.dig c (by rw [h1]; simp)
    have h3 : c.toNat ≠ 48 := fun h4 => by
      have := h.top c r h1 h4
      rw [h1, this] at hl; simp at hl
    have h5 := h.val
    rw [h1, digVal_cons] at h5
    have h6 : 1 * 10 ^ r.length ≤ (c.toNat - 48) * 10 ^ r.length := Nat.mul_le_mul_right _ (by omega)
    simp only [List.length_cons, Nat.add_sub_cancel]
    omega
theorem canon_length {l l' : List UInt8} {x : Nat} (h : Canon l x) (h' : Canon l' x) : l.length ≤ l'.length := by
  rcases Nat.lt_or_ge l'.length l.length with h1 | h1
  · exfalso
    have h0 : 0 < l'.length := List.length_pos_iff.2 h'.ne
    have h2 := canon_low h (by omega)
    have h3 := digVal_lt h'.dig
    rw [h'.val] at h3
    have h4 : 10 ^ l'.length ≤ 10 ^ (l.length - 1) := Nat.pow_le_pow_right (by decide) (by omega)
    omega
  · exact h1
/-- a number has one text -/
theorem canon_unique {l l' : List UInt8} {x : Nat} (h : Canon l x) (h' : Canon l' x) : l = l' :=
  digits_unique l l' h.dig h'.dig (Nat.le_antisymm (canon_length h h') (canon_length h' h)) (by rw [h.val, h'.val])
theorem digits_mk {l : List UInt8} (h : (l.all fun c => decide (48 ≤ c.toNat) && decide (c.toNat ≤ 57)) = true) : Digits l := by
  intro c hc
  have := List.all_eq_true.1 h c hc
  simpa using this
theorem canon_mk {l : List UInt8} {x : Nat} (h : (l.all fun c => decide (48 ≤ c.toNat) && decide (c.toNat ≤ 57)) = true) (hne : l ≠ []) (hv : digVal l = x) (ht : l.length = 1 ∨ l.head? ≠ some 48) : Canon l x := by
  refine ⟨hne, ?_, hv, ?_⟩
  · intro c hc
    have := List.all_eq_true.1 h c hc
    simpa using this
  · intro c r hl hc
    rcases ht with h1 | h1
    · rw [hl] at h1; simpa using h1
    · rw [hl] at h1
      exact absurd (by simp; exact UInt8.toNat_inj.1 hc) h1

def okAt (i : Nat) : Bool := !(decide (1000 ≤ scaledN 4653144203864309760 (3 - ((i : Int) - 325))) && decide (scaledN 4653144203864309760 (3 - ((i : Int) - 325)) < 10000)) || i == 328
theorem okAll : (List.range 635).all okAt = true := by kernel_rfl
theorem sci_fixed {x : Int} (h1 : -325 ≤ x) (h2 : x ≤ 309) (h : SciAt 4653144203864309760 3 x) : x = 3 := by
  have h3 := List.all_eq_true.1 okAll (x + 325).toNat (List.mem_range.2 (by omega))
  unfold okAt at h3
  rw [show (((x + 325).toNat : Nat) : Int) - 325 = x by omega] at h3
  have h4 := h.ge
  have h5 := h.lt
  rw [show (10 : Nat) ^ 3 = 1000 by decide] at h4
  rw [show (10 : Nat) ^ (3 + 1) = 10000 by decide] at h5
  have e : ((3 : Nat) : Int) = 3 := rfl
  rw [e] at h4 h5
  rw [decide_eq_true h4, decide_eq_true h5] at h3
  have h6 : (x + 325).toNat = 328 := by simpa using h3
  omega

theorem toBytes {s : ByteArray} {l : List UInt8} (h : s.data.toList = l) : s = ⟨l.toArray⟩ := by
  cases s; simp at h; subst h; rfl

theorem Read_fixed (w : World) : Calls Tryz.prog 102 #[.string ⟨#[51, 49, 52, 49, 54]⟩, .int .i64 (-4)] w fun e w' => e = .returned (.tuple #[.float .f64 4614256673094690983, .int .i64 0]) ∧ Below w.heap.size w w' := by
  have h := Read_ok ⟨#[51, 49, 52, 49, 54]⟩ (-4) w (by simp) (digits_mk (by decide)) (by decide) (by decide) (by decide)
  rw [show readB (⟨#[51, 49, 52, 49, 54]⟩ : ByteArray).data.toList (-4) = 4614256673094690983 by kernel_rfl] at h
  exact h
theorem Fixed_fixed (w : World) : Calls Tryz.prog 66 #[.float .f64 4612811918334230528, .int .i64 0] w fun e w' => e = .returned (.tuple #[.string ⟨#[50]⟩, .int .i64 0]) ∧ Below w.heap.size w w' := by
  refine (Fixed_ok 4612811918334230528 0 w (by decide) (by decide) (by decide)).mono ?_
  rintro e w' ⟨s, l, rfl, hc, hs, hb⟩
  rw [show scaledN 4612811918334230528 (0 : Nat) = 2 by kernel_rfl] at hc
  have hl := canon_unique hc (canon_mk (l := [50]) (by decide) (by simp) (by decide) (.inl rfl))
  rw [hl] at hs
  rw [toBytes hs]
  exact ⟨rfl, hb⟩
theorem Sci_fixed (w : World) : Calls Tryz.prog 164 #[.float .f64 4653144203864309760, .int .i64 3] w fun e w' => e = .returned (.tuple #[.string ⟨#[49, 50, 51, 52]⟩, .int .i64 3, .int .i64 0]) ∧ Below w.heap.size w w' := by
  refine (Sci_loop 4653144203864309760 3 w (by decide) (by decide) (by decide) (by decide)).mono ?_
  rintro e w' ⟨s, x, rfl, hc, hl, hsa, hx1, hx2, hb⟩
  obtain rfl := sci_fixed hx1 hx2 hsa
  rw [show scaledN 4653144203864309760 ((3 : Nat) - 3) = 1234 by kernel_rfl] at hc
  have hl := canon_unique hc (canon_mk (l := [49, 50, 51, 52]) (by decide) (by simp) (by decide) (.inr (by decide)))
  rw [toBytes hl]
  exact ⟨rfl, hb⟩

end Go.Proofs.YtcmpdamfeoaapaaGreatDoor
end

section
/- Plain: how the model reads a float's bits, and compares them. -/
namespace Go.Proofs.YtcmpdamfeoaapaaGreatDoor
open Go

/-- the float in steps of the least one -/
def vl (b : Nat) : Nat := mof b * 2 ^ jof b
theorem vl_lt {x y : Nat} (h : x < y) : vl x < vl y := by
  unfold vl
  have hx := bits_parts x
  have hy := bits_parts y
  have h1 := mof_lt x
  have h2 := mof_lt y
  have h3 := mof_ge x
  have h4 := mof_ge y
  rcases Nat.lt_trichotomy (jof x) (jof y) with hj | hj | hj
  · have h5 : 2 ^ 52 ≤ mof y := by rcases h4 with h | h; omega; exact h
    calc mof x * 2 ^ jof x < 2 ^ 53 * 2 ^ jof x := Nat.mul_lt_mul_of_pos_right h1 (pow2_pos _)
      _ = 2 ^ 52 * 2 ^ (jof x + 1) := by rw [two53, Nat.pow_succ 2 (jof x), Nat.mul_assoc, Nat.mul_comm 2]
      _ ≤ 2 ^ 52 * 2 ^ jof y := Nat.mul_le_mul_left _ (Nat.pow_le_pow_right (by decide) hj)
      _ ≤ mof y * 2 ^ jof y := Nat.mul_le_mul_right _ h5
  · rw [hj]
    exact Nat.mul_lt_mul_of_pos_right (by rw [hj] at hx; omega) (pow2_pos _)
  · exfalso
    have h5 : (jof y + 1) * 2 ^ 52 ≤ jof x * 2 ^ 52 := Nat.mul_le_mul_right _ hj
    rw [Nat.add_mul] at h5
    have h6 : 2 ^ 52 ≤ mof x := by rcases h3 with h | h; omega; exact h
    have h7 : (2 : Nat) ^ 53 = 2 ^ 52 + 2 ^ 52 := by decide
    omega
theorem vl_le {x y : Nat} (h : x ≤ y) : vl x ≤ vl y := by
  rcases Nat.eq_or_lt_of_le h with rfl | h
  · exact Nat.le_refl _
  · exact Nat.le_of_lt (vl_lt h)
theorem read_inf : FloatKind.f64.format.read 9218868437227405312 = .infinity false := by decide
theorem read_fin {b : Nat} (h : b < 9218868437227405312) : FloatKind.f64.format.read b = .number false (mof b) ((jof b : Int) - 1074) := by
  have e1 : FloatKind.f64.format.signWeight = 9223372036854775808 := by decide
  have e2 : FloatKind.f64.format.binade = 4503599627370496 := by decide
  have e3 : FloatKind.f64.format.infRung = 9218868437227405312 := by decide
  have e4 : FloatKind.f64.format.leastPlace = -1074 := by decide
  have e5 : (b / 9223372036854775808 % 2 == 1) = false := by rw [Nat.div_eq_of_lt (by omega)]; rfl
  have e6 : b % 9223372036854775808 = b := Nat.mod_eq_of_lt (by omega)
  unfold Ieee.Format.read
  simp only [e1, e2, e3, e4, e5, e6]
  have e7 : (2 : Nat) ^ 52 = 4503599627370496 := by decide
  unfold mof jof
  rw [e7]
  by_cases hs : b < 4503599627370496
  · rw [if_pos hs, if_pos (by omega)]
    congr 1
    rw [Nat.div_eq_of_lt hs]
    rfl
  · rw [if_neg hs, if_pos h, if_neg (by omega)]
    congr 1
    all_goals omega
theorem order_fin {x y : Nat} (hx : x < 9218868437227405312) (hy : y < 9218868437227405312) : FloatKind.f64.format.order x y = some (compare x y) := by
  unfold Ieee.Format.order
  rw [read_fin hx, read_fin hy]
  unfold Ieee.Datum.order
  simp only
  congr 1
  obtain ⟨c, hc⟩ : ∃ c, c = min (jof x) (jof y) := ⟨_, rfl⟩
  have e1 : ((jof x : Int) - 1074 - min ((jof x : Int) - 1074) ((jof y : Int) - 1074)).toNat = jof x - c := by omega
  have e2 : ((jof y : Int) - 1074 - min ((jof x : Int) - 1074) ((jof y : Int) - 1074)).toNat = jof y - c := by omega
  rw [e1, e2]
  unfold Ieee.signed
  simp only [Bool.false_eq_true, if_false]
  rw [Nat.shiftLeft_eq, Nat.shiftLeft_eq]
  have h1 : mof x * 2 ^ (jof x - c) * 2 ^ c = vl x := by unfold vl; rw [Nat.mul_assoc, ← Nat.pow_add, Nat.sub_add_cancel (by omega)]
  have h2 : mof y * 2 ^ (jof y - c) * 2 ^ c = vl y := by unfold vl; rw [Nat.mul_assoc, ← Nat.pow_add, Nat.sub_add_cancel (by omega)]
  have hp := pow2_pos c
  generalize mof x * 2 ^ (jof x - c) = a at *
  generalize mof y * 2 ^ (jof y - c) = b at *
  rcases Nat.lt_trichotomy x y with h | h | h
  · have h3 := vl_lt h
    rw [← h1, ← h2] at h3
    have h4 := Nat.lt_of_mul_lt_mul_right h3
    rw [Int.compare_eq_lt.2 (by omega), Nat.compare_eq_lt.2 h]
  · subst h
    have h4 : a = b := Nat.eq_of_mul_eq_mul_right hp (h1.trans h2.symm)
    subst h4
    rw [Int.compare_eq_eq.2 rfl, Nat.compare_eq_eq.2 rfl]
  · have h3 := vl_lt h
    rw [← h1, ← h2] at h3
    have h4 := Nat.lt_of_mul_lt_mul_right h3
    rw [Int.compare_eq_gt.2 (by omega), Nat.compare_eq_gt.2 h]
/-- floats that are not negative, and no NaN, are compared as their bits -/
theorem order_pos {x y : Nat} (hx : x ≤ 9218868437227405312) (hy : y ≤ 9218868437227405312) : FloatKind.f64.format.order x y = some (compare x y) := by
  rcases Nat.eq_or_lt_of_le hx with h1 | h1 <;> rcases Nat.eq_or_lt_of_le hy with h2 | h2
  · subst h1 h2; decide
  · subst h1
    unfold Ieee.Format.order
    rw [read_inf, read_fin h2, Nat.compare_eq_gt.2 h2]
    rfl
  · subst h2
    unfold Ieee.Format.order
    rw [read_inf, read_fin h1, Nat.compare_eq_lt.2 h1]
    rfl
  · exact order_fin h1 h2
theorem order_lt {x y : Nat} (hx : x ≤ 9218868437227405312) (hy : y ≤ 9218868437227405312) (h : x < y) : FloatKind.f64.format.order x y = some .lt := by rw [order_pos hx hy, Nat.compare_eq_lt.2 h]
theorem order_gt {x y : Nat} (hx : x ≤ 9218868437227405312) (hy : y ≤ 9218868437227405312) (h : y < x) : FloatKind.f64.format.order x y = some .gt := by rw [order_pos hx hy, Nat.compare_eq_gt.2 h]
theorem order_eq {x : Nat} (hx : x ≤ 9218868437227405312) : FloatKind.f64.format.order x x = some .eq := by rw [order_pos hx hx, Nat.compare_eq_eq.2 rfl]
end Go.Proofs.YtcmpdamfeoaapaaGreatDoor
end

section
/- thresherlaw03: DecRises. -/
namespace Go.Proofs.YtcmpdamfeoaapaaGreatDoor
open Go.RowKit
set_option linter.unusedVariables false

theorem bare_self {c : UInt8} {r : List UInt8} (h : c ≠ 48) : bare (c :: r) = c :: r := by
  unfold bare
  rw [List.dropWhile_cons, if_neg (by simpa using h)]
theorem bare_nought (l : List UInt8) : bare (48 :: l) = bare l := by
  unfold bare
  rw [List.dropWhile_cons, if_pos (by decide)]
theorem canon_zero_text {l : List UInt8} (h : Canon l 0) : l = [48] :=
  canon_unique h (canon_mk (by decide) (by simp) (by decide) (.inl rfl))
theorem canon_pos_text {l : List UInt8} {n : Nat} (h : Canon l n) (hn : 0 < n) : ∃ c r, l = c :: r ∧ c ≠ 48 := by
  cases h1 : l with
  | nil => exact absurd h1 h.ne
  | cons c r =>
    refine ⟨c, r, rfl, fun hc => ?_⟩
    have h2 := h.top c r h1 (by rw [hc]; decide)
    rw [h1, h2, hc] at h
    have h3 := h.val
    have h4 : digVal [48] = 0 := by decide
    omega
theorem readB_nil {l : List UInt8} (h : bare l = []) (e : Int) : readB l e = 0 := by
  unfold readB
  rw [h, if_pos (.inl rfl)]
theorem readB_le (l : List UInt8) (e : Int) : readB l e ≤ 9218868437227405312 := by
  unfold readB
  split
  · omega
  · split
    · omega
    · split
      · omega
      · exact near_le _ _
theorem readB_inf {l : List UInt8} {e : Int} (h0 : (bare l).length ≠ 0) (h1 : -4000 ≤ e) (h : 310 < (bare l).length + e) : readB l e = 9218868437227405312 := by
  unfold readB
  rw [if_neg (by omega), if_pos (.inr h)]
theorem readB_low {l : List UInt8} {e : Int} (h2 : e ≤ 2000) (h : (bare l).length + e < -330) : readB l e = 0 := by
  unfold readB
  by_cases h3 : (bare l).length = 0 ∨ e < -4000
  · rw [if_pos h3]
  · rw [if_neg h3, if_neg (by omega), if_pos h]
theorem readB_near {l : List UInt8} {e : Int} (h0 : (bare l).length ≠ 0) (h1 : -4000 ≤ e) (h2 : e ≤ 2000) (h3 : -330 ≤ (bare l).length + e) (h4 : (bare l).length + e ≤ 310) : readB l e = near (digVal (bare l) * 10 ^ e.toNat) (10 ^ (-e).toNat) := by
  unfold readB
  rw [if_neg (by omega), if_neg (by omega), if_neg (by omega)]
theorem bare_pos_text {l : List UInt8} {n : Nat} (h : Canon l n) (hn : 0 < n) : bare l = l := by
  obtain ⟨c, r, rfl, hc⟩ := canon_pos_text h hn
  exact bare_self hc
theorem readB_append {l : List UInt8} {n : Nat} {e : Int} (h : Canon l n) (h1 : -700 ≤ e) (h2 : e ≤ 700) : readB (l ++ [48]) (e - 1) = readB l e := by
  rcases Nat.eq_zero_or_pos n with hn | hn
  · subst hn
    rw [canon_zero_text h, readB_nil (by decide), readB_nil (by decide)]
  · have hb0 := bare_pos_text h hn
    have hb : bare (l ++ [48]) = l ++ [48] := by
      obtain ⟨c, r, rfl, hc⟩ := canon_pos_text h hn
      exact bare_self hc
    have hk : (bare (l ++ [48])).length = l.length + 1 := by rw [hb]; simp
    have hk0 : (bare l).length = l.length := by rw [hb0]
    have hk1 : l.length ≠ 0 := by have := List.length_pos_iff.2 h.ne; omega
    rcases Int.lt_or_le 310 (l.length + e) with c2 | c2
    · rw [readB_inf (by omega) (by omega) (by omega), readB_inf (by omega) (by omega) (by omega)]
    · rcases Int.lt_or_le (l.length + e) (-330) with c3 | c3
      · rw [readB_low (by omega) (by omega), readB_low (by omega) (by omega)]
      · rw [readB_near (by omega) (by omega) (by omega) (by omega) (by omega), readB_near (by omega) (by omega) (by omega) (by omega) (by omega), hb, hb0, digVal_snoc, h.val]
        have e0 : (UInt8.toNat 48 - 48 : Nat) = 0 := by decide
        rw [e0, Nat.add_zero]
        refine near_same (Nat.pow_pos (by decide)) (Nat.pow_pos (by decide)) ?_
        rcases Int.lt_or_le 0 e with he | he
        · rw [show e.toNat = (e - 1).toNat + 1 by omega, show (-e).toNat = (-(e - 1)).toNat by omega, Nat.pow_succ]
          generalize 10 ^ (-(e - 1)).toNat = P
          generalize 10 ^ (e - 1).toNat = Q
          ac_rfl
        · rw [show (-(e - 1)).toNat = (-e).toNat + 1 by omega, show (e - 1).toNat = e.toNat by omega, Nat.pow_succ]
          generalize 10 ^ (-e).toNat = P
          generalize 10 ^ e.toNat = Q
          ac_rfl
theorem readB_noughts (l : List UInt8) (e : Int) : readB (48 :: 48 :: l) e = readB l e := by
  unfold readB
  rw [bare_nought, bare_nought]
theorem canon_rise {l l' : List UInt8} {n m : Nat} (h : Canon l n) (h' : Canon l' m) (hn : 0 < n) (hnm : n ≤ m) : l.length ≤ l'.length := by
  have h3 := digVal_lt h'.dig
  rw [h'.val] at h3
  have h0 : 0 < l'.length := List.length_pos_iff.2 h'.ne
  rcases Nat.lt_or_ge l'.length l.length with h1 | h1
  · have h2 := canon_low h (by omega)
    have h4 : 10 ^ l'.length ≤ 10 ^ (l.length - 1) := Nat.pow_le_pow_right (by decide) (by omega)
    omega
  · exact h1
theorem readB_mono {l l' : List UInt8} {n m : Nat} {e : Int} (h : Canon l n) (h' : Canon l' m) (hnm : n ≤ m) (h1 : -700 ≤ e) (h2 : e ≤ 700) : readB l e ≤ readB l' e := by
  rcases Nat.eq_zero_or_pos n with hn | hn
  · subst hn
    rw [canon_zero_text h, readB_nil (by decide)]
    exact Nat.zero_le _
  · have hl := canon_rise h h' hn hnm
    have hk : (bare l).length = l.length := by rw [bare_pos_text h hn]
    have hk' : (bare l').length = l'.length := by rw [bare_pos_text h' (by omega)]
    have hk1 : l.length ≠ 0 := by have := List.length_pos_iff.2 h.ne; omega
    rcases Int.lt_or_le 310 (l'.length + e) with c2 | c2
    · rw [readB_inf (l := l') (by omega) (by omega) (by omega)]
      exact readB_le _ _
    · rcases Int.lt_or_le (l.length + e) (-330) with c3 | c3
      · rw [readB_low (l := l) (by omega) (by omega)]
        exact Nat.zero_le _
      · rw [readB_near (l := l) (by omega) (by omega) (by omega) (by omega) (by omega), readB_near (l := l') (by omega) (by omega) (by omega) (by omega) (by omega), bare_pos_text h hn, bare_pos_text h' (by omega), h.val, h'.val]
        exact near_mono (Nat.pow_pos (by decide)) (Nat.pow_pos (by decide)) (Nat.mul_le_mul_right _ (Nat.mul_le_mul_right _ hnm))

end Go.Proofs.YtcmpdamfeoaapaaGreatDoor
end

section
/- Plain: seventeen digits tell a float; digits of a float near it. -/
namespace Go.Proofs.YtcmpdamfeoaapaaGreatDoor
open Go

theorem mant_mof {b : Nat} (h : b < 9218868437227405312) : mant b = mof b ∧ (expo b + 1074).toNat = jof b ∧ -1074 ≤ expo b := by
  have e6 : b % 9223372036854775808 = b := Nat.mod_eq_of_lt (by omega)
  have e7 : (2 : Nat) ^ 52 = 4503599627370496 := by decide
  have hx := expo_bounds (b := b)
  refine ⟨?_, ?_, hx.1⟩
  · unfold mant mof
    rw [e6, e7, if_neg (by omega)]
    by_cases h1 : b / 4503599627370496 = 0
    · rw [if_pos h1, if_pos h1]; omega
    · rw [if_neg h1, if_neg h1]
  · unfold expo jof
    rw [e6, e7, if_neg (by omega)]
    by_cases h1 : b / 4503599627370496 = 0
    · rw [if_pos h1, h1]; rfl
    · rw [if_neg h1]; omega
theorem fin_lt_inf {b : Nat} (hb : b < 9223372036854775808) : fin b = true ↔ b < 9218868437227405312 := by
  unfold fin
  rw [Nat.mod_eq_of_lt hb]
  simp
  omega
/-- the float as the fraction that the digits are rounded from -/
def numP (b : Nat) (k : Int) : Nat := mant b * 10 ^ k.toNat * 2 ^ (expo b).toNat
def denQ (b : Nat) (k : Int) : Nat := 10 ^ (-k).toNat * 2 ^ (-(expo b)).toNat
theorem denQ_pos (b : Nat) (k : Int) : 0 < denQ b k := Nat.mul_pos (Nat.pow_pos (by decide)) (pow2_pos _)
theorem scaledN_spec (b : Nat) (k : Int) : 2 * numP b k ≤ (2 * scaledN b k + 1) * denQ b k ∧ 2 * scaledN b k * denQ b k ≤ 2 * numP b k + denQ b k := rnd_spec (denQ_pos b k)
/-- the float's value, and the digits' value, over one denominator -/
theorem value_P {b : Nat} (h : b < 9218868437227405312) (k : Int) : mof b * (2 ^ jof b * 10 ^ k.toNat) * 2 ^ (-(expo b)).toNat = numP b k * kk := by
  obtain ⟨h1, h2, h3⟩ := mant_mof h
  have h4 := pow2_int h3
  rw [h2] at h4
  unfold numP
  rw [h1]
  calc mof b * (2 ^ jof b * 10 ^ k.toNat) * 2 ^ (-(expo b)).toNat = mof b * 10 ^ k.toNat * (2 ^ (-(expo b)).toNat * 2 ^ jof b) := by ac_rfl
    _ = mof b * 10 ^ k.toNat * 2 ^ (expo b).toNat * kk := by rw [h4]; generalize kk = K; ac_rfl
theorem value_Q (b N : Nat) (k : Int) : N * 10 ^ (-k).toNat * kk * 2 ^ (-(expo b)).toNat = N * denQ b k * kk := by
  unfold denQ
  generalize kk = K
  ac_rfl
theorem lin_back {N P Q : Nat} (hN : 10000000000000000 * Q ≤ N * Q) (h1 : 2 * P ≤ 2 * (N * Q) + Q) (h2 : 2 * (N * Q) ≤ 2 * P + Q) :
    20000000000000000 * (N * Q) ≤ 20000000000000000 * P + N * Q ∧ 20000000000000000 * P ≤ 20000000000000000 * (N * Q) + N * Q := by omega
theorem near_back {b : Nat} {k : Int} (h : b < 9218868437227405312) (hN : 10 ^ 16 ≤ scaledN b k) : near (scaledN b k * 10 ^ (-k).toNat) (10 ^ k.toNat) = b := by
  obtain ⟨s1, s2⟩ := scaledN_spec b k
  have hQ := denQ_pos b k
  have hNQ : 10 ^ 16 * denQ b k ≤ scaledN b k * denQ b k := Nat.mul_le_mul_right _ hN
  rw [show (10 : Nat) ^ 16 = 10000000000000000 by decide] at hNQ
  have e1 : (2 * scaledN b k + 1) * denQ b k = 2 * (scaledN b k * denQ b k) + denQ b k := by rw [Nat.succ_mul, Nat.mul_assoc]
  have e2 : 2 * scaledN b k * denQ b k = 2 * (scaledN b k * denQ b k) := Nat.mul_assoc _ _ _
  rw [e1] at s1
  rw [e2] at s2
  obtain ⟨l1, l2⟩ := lin_back hNQ s1 s2
  have hT : 0 < 2 ^ (-(expo b)).toNat := pow2_pos _
  have v1 := value_P h k
  have v2 := value_Q b (scaledN b k) k
  refine near_close (Nat.pow_pos (by decide)) (Nat.le_of_lt h) ?_ ?_
  · refine Nat.le_of_mul_le_mul_right ?_ hT
    have m1 := Nat.mul_le_mul_right kk l1
    rw [Nat.add_mul, Nat.mul_assoc 20000000000000000, Nat.mul_assoc 20000000000000000] at m1
    rw [Nat.add_mul, Nat.mul_assoc, v2, Nat.mul_assoc 20000000000000000 (mof b * _), v1]
    generalize kk = K at *
    exact m1
  · refine Nat.le_of_mul_le_mul_right ?_ hT
    have m2 := Nat.mul_le_mul_right kk l2
    rw [Nat.add_mul, Nat.mul_assoc, Nat.mul_assoc] at m2
    rw [Nat.add_mul, Nat.mul_assoc 20000000000000000 (mof b * _), v1, Nat.mul_assoc 20000000000000000, v2]
    generalize kk = K at *
    exact m2
theorem readB_back {b : Nat} {x : Int} {l : List UInt8} (h : b < 9218868437227405312) (hs : SciAt b 16 x) (hx1 : -325 ≤ x) (hx2 : x ≤ 309) (hc : Canon l (scaledN b ((16 : Nat) - x))) (hl : l.length = 17) : readB l (x - 16) = b := by
  have hN := hs.ge
  have hpos : 0 < scaledN b ((16 : Nat) - x) := Nat.lt_of_lt_of_le (Nat.pow_pos (by decide)) hN
  have hb := bare_pos_text hc hpos
  have hbl : (bare l).length = 17 := by rw [hb, hl]
  rw [readB_near (by omega) (by omega) (by omega) (by omega) (by omega), hb, hc.val]
  have e1 : (x - 16).toNat = (-((16 : Nat) - x : Int)).toNat := by omega
  have e2 : (-(x - 16)).toNat = ((16 : Nat) - x : Int).toNat := by omega
  rw [e1, e2]
  exact near_back h hN
end Go.Proofs.YtcmpdamfeoaapaaGreatDoor
end

section
/- thresherlaw03: below. -/
namespace Go.Proofs.YtcmpdamfeoaapaaGreatDoor
open Go.RowKit
set_option linter.unusedVariables false

/-- the block of a string's bytes -/
structure RowM (w : World) (g : Nat) (L : List UInt8) : Prop where
  row : ∃ cur, w.heap[g]? = some (.cells cur 5 (cur.size, cur.size + 1)) ∧ ∀ i (h : i < L.length), cur[i]? = some (.int .u8 (L[i].toNat : Nat))
theorem RowM.ltg {w : World} {g : Nat} {L : List UInt8} (h : RowM w g L) : g < w.heap.size := by
  obtain ⟨cur, hg, ht⟩ := h.row
  exact lt_of_heap hg
theorem RowM.cell {w : World} {g : Nat} {L : List UInt8} (h : RowM w g L) (i : Nat) (hi : i < L.length) : w.cell? ⟨g, i, none⟩ = some (.int .u8 (L[i].toNat : Nat)) := by
  obtain ⟨cur, hg, ht⟩ := h.row
  simp [World.cell?, hg, ht i hi]
theorem RowM.frozen {w : World} {g : Nat} {L : List UInt8} (h : RowM w g L) (i : Nat) (hi : i < L.length) : w.frozen? ⟨g, i, none⟩ = false := by
  obtain ⟨cur, hg, ht⟩ := h.row
  have h1 : i < cur.size := by
    rcases Nat.lt_or_ge i cur.size with h | h
    · exact h
    · have := ht i hi
      rw [Array.getElem?_eq_none (by omega)] at this; cases this
  simp [World.frozen?, hg]
  omega
theorem RowM.set {w : World} {g : Nat} {L : List UInt8} (h : RowM w g L) (i y : Nat) (hi : i < L.length) (hy : y < 256) : RowM (w.setCell ⟨g, i, none⟩ (.int .u8 (y : Nat))) g (L.set i (UInt8.ofNat y)) := by
  obtain ⟨cur, hg, ht⟩ := h.row
  refine ⟨cur.setIfInBounds i (.int .u8 (y : Nat)), by rw [setCell_heap_same hg i _]; simp, fun j hj => ?_⟩
  rw [List.length_set] at hj
  rw [List.getElem_set, Array.getElem?_setIfInBounds]
  have h1 : i < cur.size := by
    rcases Nat.lt_or_ge i cur.size with h | h
    · exact h
    · have := ht i hi
      rw [Array.getElem?_eq_none (by omega)] at this; cases this
  by_cases hij : i = j
  · subst hij
    rw [if_pos rfl, if_pos h1, if_pos rfl, UInt8.toNat_ofNat', Nat.mod_eq_of_lt hy]
  · rw [if_neg hij, if_neg hij]
    exact ht j hj

theorem wpList_bytesM (w : World) {ops : Array Oper} {rest : List Oper} {o : Oper} {a : Act} {Q : Exit → Act → World → Prop} (hg : o.guard = none) (x : Operand) (ho : o.op = .convert 9 93 x) (s : ByteArray) (hx : a.eval x = .string s)
    (hK : ∀ cap w', RowM w' w.heap.size s.data.toList → Below w.heap.size w w' → w'.heap.size = w.heap.size + 1 → wpList Tryz.prog ops Q rest (a.put o.dst (.slice (some ⟨w.heap.size, 0, none⟩) s.size cap)) w') : wpList Tryz.prog ops Q (o :: rest) a w := by
  have hr := Lib.run_convert_string_bytes (P := Tryz.prog) w 9 93 5 s undStr undBytes undByte
  refine wpList_plain hg fun K' hK' => ?_
  unfold Oper.wp
  simp [execOp, ho, hx, hr, Result.andThen]
  refine hK' _ _ (hK _ _ ?_ (Go.Joins.below_bytesWorld _ _ _ _ (Nat.le_refl _)) (Lib.bytesWorld_size _ _ _))
  refine ⟨_, Lib.bytesWorld_at_new w 5 s, fun i hi => ?_⟩
  have h1 := Lib.bytesWorld_cell w 5 s i (by simpa using hi)
  have h2 := Lib.bytesWorld_at_new w 5 s
  have h3 : (Lib.bytesCells w 5 s)[i]? = some (.int .u8 (s.data.toList.getD i 0).toNat) := by
    unfold World.cell? at h1
    rw [h2] at h1
    simpa using h1
  rw [h3]
  have h4 : i < s.data.size := by simpa using hi
  simp [List.getD, Array.getElem?_eq_getElem h4]

theorem digVal_app (a b : List UInt8) : digVal (a ++ b) = digVal a * 10 ^ b.length + digVal b := by
  unfold digVal
  rw [List.foldl_append]
  exact digVal_from b _
theorem digVal_nines : ∀ m : Nat, digVal (List.replicate m 57) + 1 = 10 ^ m
  | 0 => rfl
  | m + 1 => by
    rw [List.replicate_succ, digVal_cons, List.length_replicate]
    have h := digVal_nines m
    have e : (UInt8.toNat 57 - 48 : Nat) = 9 := by decide
    rw [e, Nat.pow_succ]
    omega
theorem digVal_noughts : ∀ m : Nat, digVal (List.replicate m 48) = 0
  | 0 => rfl
  | m + 1 => by
    rw [List.replicate_succ, digVal_cons, digVal_noughts m]
    have e : (UInt8.toNat 48 - 48 : Nat) = 0 := by decide
    rw [e, Nat.zero_mul]

/-- the row while the noughts at its end are made nines -/
def bel (l : List UInt8) (k : Nat) : List UInt8 := l.take k ++ List.replicate (l.length - k) 57
theorem bel_length (l : List UInt8) (k : Nat) (h : k ≤ l.length) : (bel l k).length = l.length := by simp [bel]; omega
theorem bel_full (l : List UInt8) : bel l l.length = l := by simp [bel]
theorem bel_at (l : List UInt8) (k : Nat) (h : k < l.length) : (bel l (k + 1))[k]'(by rw [bel_length _ _ h]; exact h) = l[k] := by
  unfold bel
  rw [List.getElem_append_left (by simp; omega)]
  simp
theorem bel_set (l : List UInt8) (k : Nat) (y : UInt8) (h : k < l.length) : (bel l (k + 1)).set k y = l.take k ++ y :: List.replicate (l.length - (k + 1)) 57 := by
  unfold bel
  rw [List.take_succ_eq_append_getElem h, List.append_assoc, List.set_append_right _ _ (by simp; omega)]
  congr 1
  simp [Nat.min_eq_left (Nat.le_of_lt h)]
theorem bel_nine (l : List UInt8) (k : Nat) (h : k < l.length) : (bel l (k + 1)).set k 57 = bel l k := by
  rw [bel_set l k 57 h]
  unfold bel
  rw [show l.length - k = l.length - (k + 1) + 1 by omega, List.replicate_succ]
theorem noughts_at {l : List UInt8} {k : Nat} (h : ∀ c ∈ l.drop k, c = 48) : l.drop k = List.replicate (l.length - k) 48 := by
  rw [List.eq_replicate_iff]
  exact ⟨by simp, h⟩
theorem bel_value (l : List UInt8) (k c : Nat) (h : k < l.length) (hc : l[k].toNat = c + 1) (h48 : 48 ≤ c) (hd : ∀ x ∈ l.drop (k + 1), x = 48) : digVal ((bel l (k + 1)).set k (UInt8.ofNat c)) + 1 = digVal l := by
  have hlt := l[k].toNat_lt
  have e1 : l = l.take k ++ l[k] :: l.drop (k + 1) := by rw [← List.drop_eq_getElem_cons h, List.take_append_drop]
  have e2 : digVal l = digVal (l.take k ++ l[k] :: l.drop (k + 1)) := by rw [← e1]
  rw [bel_set l k _ h, e2, digVal_app, digVal_app, digVal_cons, digVal_cons, noughts_at hd, digVal_noughts, hc, UInt8.toNat_ofNat', Nat.mod_eq_of_lt (by omega)]
  simp only [List.length_cons, List.length_replicate]
  have h9 := digVal_nines (l.length - (k + 1))
  obtain ⟨q, hq⟩ : ∃ q, c = 48 + q := ⟨c - 48, by omega⟩
  subst hq
  rw [show 48 + q - 48 = q by omega, show 48 + q + 1 - 48 = q + 1 by omega, Nat.add_mul]
  omega
theorem bel_digits {l : List UInt8} (h : Digits l) (k c : Nat) (hk : k < l.length) (hc : 48 ≤ c ∧ c ≤ 57) : Digits ((bel l (k + 1)).set k (UInt8.ofNat c)) := by
  rw [bel_set l k _ hk]
  intro x hx
  rcases List.mem_append.1 hx with h1 | h1
  · exact h x (List.mem_of_mem_take h1)
  · rcases List.mem_cons.1 h1 with rfl | h2
    · rw [UInt8.toNat_ofNat', Nat.mod_eq_of_lt (by omega)]; exact hc
    · rw [(List.mem_replicate.1 h2).2]; decide

end Go.Proofs.YtcmpdamfeoaapaaGreatDoor
end

section
/- Plain: what Fixed and Sci write, as functions of the float and the number of digits alone. -/
namespace Go.Proofs.YtcmpdamfeoaapaaGreatDoor
open Go.RowKit
set_option linter.unusedVariables false

theorem GeT_more (A B : Nat) (k : Int) (n : Nat) (h : GeT A B k n) : ∀ d : Nat, GeT A B (k + d) (10 ^ d * n)
  | 0 => by
    have e : k + ((0 : Nat) : Int) = k := by omega
    rw [e, Nat.pow_zero, Nat.one_mul]
    exact h
  | d + 1 => by
    have h1 := (GeT_step A B (k + d) (10 ^ d * n)).2 (GeT_more A B k n h d)
    rw [show k + ((d + 1 : Nat) : Int) = k + d + 1 by omega, show 10 ^ (d + 1) * n = 10 * (10 ^ d * n) by rw [Nat.pow_succ]; ac_rfl]
    exact h1
theorem scaled_rat (b : Nat) (k : Int) : scaledN b k = ratN (mant b * 2 ^ (expo b).toNat) (2 ^ (-(expo b)).toNat) k := by
  unfold scaledN ratN
  rw [show mant b * 10 ^ k.toNat * 2 ^ (expo b).toNat = mant b * 2 ^ (expo b).toNat * 10 ^ k.toNat by ac_rfl]
theorem sci_not_less {b p : Nat} {x y : Int} (hx : SciAt b p x) (hy : SciAt b p y) : ¬ x < y := by
  intro hxy
  have h1 := hx.lt
  obtain ⟨y0, h2, h3, h4⟩ := hy.least
  rcases Int.lt_or_le x y0 with h | h
  · obtain ⟨d, hd⟩ : ∃ d : Nat, y0 - x = ((d + 1 : Nat) : Int) := ⟨(y0 - x - 1).toNat, by omega⟩
    have h5 := GeT_more _ _ _ _ h3 (d + 1)
    rw [show (p : Int) - y0 + ((d + 1 : Nat) : Int) = (p : Int) - x by omega] at h5
    have h6 := ratN_ge (pow2_pos _) h5
    rw [← scaled_rat] at h6
    have h7 : 10 ^ (p + 1) ≤ 10 ^ (d + 1) * 10 ^ p := by
      rw [← Nat.pow_add]
      exact Nat.pow_le_pow_right (by decide) (by omega)
    omega
  · have := h4 x h hxy
    omega
theorem sci_unique {b p : Nat} {x y : Int} (hx : SciAt b p x) (hy : SciAt b p y) : x = y := by
  have h1 := sci_not_less hx hy
  have h2 := sci_not_less hy hx
  omega

open Classical in
/-- a natural's digits -/
noncomputable def dl (n : Nat) : List UInt8 := if h : ∃ l, Canon l n then Classical.choose h else []
theorem dl_eq {l : List UInt8} {n : Nat} (h : Canon l n) : dl n = l := by
  unfold dl
  have hex : ∃ l, Canon l n := ⟨l, h⟩
  rw [dif_pos hex]
  exact canon_unique (Classical.choose_spec hex) h
open Classical in
/-- the power of a float's first digit, rounded to p + 1 digits -/
noncomputable def sciX (b p : Nat) : Int := if h : ∃ x, SciAt b p x then Classical.choose h else 0
theorem sciX_eq {b p : Nat} {x : Int} (h : SciAt b p x) : sciX b p = x := by
  unfold sciX
  have hex : ∃ x, SciAt b p x := ⟨x, h⟩
  rw [dif_pos hex]
  exact sci_unique (Classical.choose_spec hex) h
noncomputable def sciE (b p : Nat) : Int := if mant b = 0 then 0 else sciX b p
noncomputable def sciD (b p : Nat) : List UInt8 := if mant b = 0 then List.replicate (p + 1) 48 else dl (scaledN b (p - sciX b p))
noncomputable def fixT (b p : Nat) : List UInt8 := fixedL (dl (scaledN b p)) p

end Go.Proofs.YtcmpdamfeoaapaaGreatDoor
end

section
/- Fixed and Sci as functions: what they write is told by the float and the number of digits alone. -/
namespace Go.Proofs.YtcmpdamfeoaapaaGreatDoor
open Go.RowKit
set_option linter.unusedVariables false

theorem bytes_self (s : ByteArray) : (⟨s.data.toList.toArray⟩ : ByteArray) = s := by cases s; simp
theorem Fixed_det (b p : Nat) (w : World) (hb : b < 18446744073709551616) (hf : fin b = true) (hp : p ≤ 200) :
    Calls Tryz.prog 66 #[.float .f64 b, .int .i64 p] w fun e w' => e = .returned (.tuple #[.string ⟨(fixT b p).toArray⟩, .int .i64 0]) ∧ Below w.heap.size w w' := by
  refine (Fixed_ok b p w hb hf hp).mono ?_
  rintro e w' ⟨s, l, rfl, hc2, hs, hbw⟩
  unfold fixT
  rw [dl_eq hc2, ← hs]
  rw [bytes_self]
  exact ⟨rfl, hbw⟩
/-- what Sci writes: so many digits, and a power within bounds -/
structure SciOk (b p : Nat) : Prop where
  len : (sciD b p).length = p + 1
  lo : -325 ≤ sciE b p
  hi : sciE b p ≤ 309
  dig : Digits (sciD b p)
  fx : (dl (scaledN b ((p : Int) - sciE b p))).length ≤ p + 1
theorem scaled_zero {b : Nat} (k : Int) (h : mant b = 0) : scaledN b k = 0 := by
  have h1 := (scaledN_spec b k).2
  have h2 : numP b k = 0 := by
    unfold numP
    rw [h]
    simp
  rw [h2] at h1
  have h3 := denQ_pos b k
  rcases Nat.eq_zero_or_pos (scaledN b k) with h4 | h4
  · exact h4
  · exfalso
    have h5 : 2 * denQ b k ≤ 2 * scaledN b k * denQ b k := Nat.mul_le_mul_right _ (by omega)
    omega
theorem Sci_det (b p : Nat) (w : World) (hb : b < 18446744073709551616) (hf : fin b = true) (hp : p ≤ 200) :
    Calls Tryz.prog 164 #[.float .f64 b, .int .i64 p] w fun e w' => e = .returned (.tuple #[.string ⟨(sciD b p).toArray⟩, .int .i64 (sciE b p), .int .i64 0]) ∧ SciOk b p ∧ Below w.heap.size w w' := by
  by_cases hm : mant b = 0
  · refine (Sci_zero b p w hb hf hp hm).mono ?_
    rintro e w' ⟨s, rfl, hs, hbw⟩
    have e1 : sciD b p = List.replicate (p + 1) 48 := by unfold sciD; rw [if_pos hm]
    have e2 : sciE b p = 0 := by unfold sciE; rw [if_pos hm]
    refine ⟨?_, ⟨by rw [e1]; simp, by rw [e2]; decide, by rw [e2]; decide, by rw [e1]; intro c hc; rw [List.eq_of_mem_replicate hc]; decide, ?_⟩, hbw⟩
    · rw [e1, e2, ← hs, bytes_self]
    · rw [scaled_zero _ hm, dl_eq (canon_mk (l := [48]) (by decide) (by simp) (by decide) (.inl rfl))]
      simp
  · refine (Sci_loop b p w hb hf hp (Nat.pos_of_ne_zero hm)).mono ?_
    rintro e w' ⟨s, x, rfl, hc, hl, hsa, hx1, hx2, hbw⟩
    have e1 : sciE b p = x := by unfold sciE; rw [if_neg hm, sciX_eq hsa]
    have e2 : sciD b p = s.data.toList := by unfold sciD; rw [if_neg hm, sciX_eq hsa, dl_eq hc]
    refine ⟨?_, ⟨by rw [e2]; exact hl, by rw [e1]; exact hx1, by rw [e1]; exact hx2, by rw [e2]; exact hc.dig, ?_⟩, hbw⟩
    · rw [e1, e2, bytes_self]
    · rw [e1, dl_eq hc, hl]
      exact Nat.le_refl _
end Go.Proofs.YtcmpdamfeoaapaaGreatDoor
end

section
/- Package format: the reader: next and flags. -/
namespace Go.Proofs.YtcmpdamfeoaapaaGreatDoor
open Go.RowKit
set_option linter.unusedVariables false

theorem sz_list (s : ByteArray) : s.size = s.data.toList.length := by cases s; simp [ByteArray.size]
/-- the byte at a place; nought where there is none -/
def ch (s : ByteArray) (i : Nat) : Nat := (s.data.toList.getD i 0).toNat
def chr (s : ByteArray) (i : Int) : Nat := if i < 0 then 0 else ch s i.toNat
theorem chr_nat (s : ByteArray) (i : Nat) : chr s (i : Int) = ch s i := by
  unfold chr
  rw [if_neg (by omega)]
  rfl
theorem ch_out {s : ByteArray} {i : Nat} (h : s.size ≤ i) : ch s i = 0 := by
  unfold ch
  rw [List.getD_eq_getElem?_getD, List.getElem?_eq_none (by rw [← sz_list]; exact h)]
  rfl
theorem ch_lt (s : ByteArray) (i : Nat) : ch s i < 256 := by
  unfold ch
  exact UInt8.toNat_lt _
theorem ch_in {s : ByteArray} {i : Nat} (h : i < s.size) : s[i].toNat = ch s i := by
  unfold ch
  have hl : i < s.data.toList.length := by rw [← sz_list]; exact h
  rw [List.getD_eq_getElem?_getD, List.getElem?_eq_getElem hl]
  rfl

/-- the reader's block -/
def RdAt (w : World) (r : Nat) (s : ByteArray) (i : Int) : Prop := w.heap[r]? = some (.cells #[.string s, .int .i64 i] 157 (0, 0))
theorem RdAt.c0 {w : World} {r : Nat} {s : ByteArray} {i : Int} (h : RdAt w r s i) : w.cell? ⟨r, 0, none⟩ = some (.string s) := by rw [Lib.cell_of_heap h]; rfl
theorem RdAt.c1 {w : World} {r : Nat} {s : ByteArray} {i : Int} (h : RdAt w r s i) : w.cell? ⟨r, 1, none⟩ = some (.int .i64 i) := by rw [Lib.cell_of_heap h]; rfl
theorem RdAt.f1 {w : World} {r : Nat} {s : ByteArray} {i : Int} (h : RdAt w r s i) : w.frozen? ⟨r, 1, none⟩ = false := Lib.frozen_of_heap h 1
theorem RdAt.lt {w : World} {r : Nat} {s : ByteArray} {i : Int} (h : RdAt w r s i) : r < w.heap.size := lt_of_heap h
theorem RdAt.keep {w w' : World} {r : Nat} {s : ByteArray} {i : Int} {S : List Nat} (h : RdAt w r s i) (ha : Apart S w w') (hS : r ∉ S) : RdAt w' r s i := (ha.block r h.lt hS).trans h
theorem RdAt.below {w w' : World} {r : Nat} {s : ByteArray} {i : Int} (h : RdAt w r s i) (hb : Below w.heap.size w w') : RdAt w' r s i := (hb.block r h.lt).trans h
theorem RdAt.step {w : World} {r : Nat} {s : ByteArray} {i : Int} (h : RdAt w r s i) (j : Int) : RdAt (w.setCell ⟨r, 1, none⟩ (.int .i64 j)) r s j := setCell_heap_same h 1 _

set_option maxHeartbeats 8000000 in
set_option maxRecDepth 100000 in
theorem next_any (s : ByteArray) (i : Int) (r : Nat) (w : World) (hr : RdAt w r s i) :
    Calls Tryz.prog 128 #[.pointer (some ⟨r, 0, none⟩)] w fun e w' => e = .returned (.int .u8 (chr s i)) ∧ Below w.heap.size w w' := by
  have c0 := hr.c0
  have c1 := hr.c1
  obtain ⟨c, hc⟩ : ∃ c, c = chr s i := ⟨_, rfl⟩
  rw [← hc]
  have HC := Lib.hid hc
  clear hc hr
  rcases Int.lt_or_le i 0 with h | h
  · have h0 : c = 0 := by rw [HC.out]; unfold chr; rw [if_pos h]
    subst h0
    clear HC
    go_enter Tryz.func128, Tryz.ntmps128
    go_wp2_with fail
    go_region
    go_wp2_with fail
    go_ret
    exact ⟨rfl, (Below.refl _ _).drew⟩
  · obtain ⟨k, rfl⟩ : ∃ k : Nat, i = (k : Int) := ⟨i.toNat, by omega⟩
    rw [chr_nat] at HC
    have hneg : ¬ ((k : Int) < 0) := by omega
    rcases Nat.lt_or_ge k s.size with hk | hk
    · have hI : (k : Int) < (s.size : Int) := by omega
      have hcc : s[k].toNat = c := by rw [HC.out]; exact ch_in hk
      go_enter Tryz.func128, Tryz.ntmps128
      go_wp2_with fail
      go_region
      all_goals go_wp2_with fail
      all_goals go_region
      all_goals go_wp2_with fail
      all_goals go_ret
      all_goals exact ⟨rfl, (Below.refl _ _).drew.drew⟩
    · have h0 : c = 0 := by rw [HC.out]; exact ch_out hk
      have hI : (s.size : Int) ≤ (k : Int) := by omega
      subst h0
      clear HC
      go_enter Tryz.func128, Tryz.ntmps128
      go_wp2_with fail
      go_region
      all_goals go_wp2_with fail
      all_goals go_ret
      all_goals exact ⟨rfl, (Below.refl _ _).drew⟩
def isFlag (c : UInt8) : Bool := c == 45 || c == 43 || c == 32 || c == 35 || c == 48
/-- how many signs of flags stand there -/
def flagN (s : ByteArray) (i : Nat) : Nat := ((s.data.toList.drop i).takeWhile isFlag).length
def hasF (c : UInt8) (s : ByteArray) (i n : Nat) : Bool := ((s.data.toList.drop i).take n).contains c

theorem takeWhile_at {α : Type} (p : α → Bool) : ∀ (l : List α) (k : Nat), k < (l.takeWhile p).length → ∃ x, l[k]? = some x ∧ p x = true
  | [], k, h => by simp at h
  | a :: l, k, h => by
    rw [List.takeWhile_cons] at h
    split at h
    · rename_i ha
      cases k with
      | zero => exact ⟨a, rfl, ha⟩
      | succ k =>
        obtain ⟨x, h1, h2⟩ := takeWhile_at p l k (by simpa using h)
        exact ⟨x, by simpa using h1, h2⟩
    · simp at h
theorem takeWhile_stop {α : Type} (p : α → Bool) : ∀ (l : List α) (x : α), l[(l.takeWhile p).length]? = some x → p x = false
  | [], x, h => by simp at h
  | a :: l, x, h => by
    rw [List.takeWhile_cons] at h
    split at h
    · rename_i ha
      exact takeWhile_stop p l x (by simpa using h)
    · rename_i ha
      simp at h
      subst h
      simpa using ha
theorem ch_get {s : ByteArray} {i k : Nat} {x : UInt8} (h : (s.data.toList.drop i)[k]? = some x) : ch s (i + k) = x.toNat := by
  rw [List.getElem?_drop] at h
  unfold ch
  rw [List.getD_eq_getElem?_getD, h]
  rfl
theorem ch_none {s : ByteArray} {i k : Nat} (h : (s.data.toList.drop i)[k]? = none) : ch s (i + k) = 0 := by
  rw [List.getElem?_drop] at h
  unfold ch
  rw [List.getD_eq_getElem?_getD, h]
  rfl
theorem hasF_zero (c : UInt8) (s : ByteArray) (i : Nat) : hasF c s i 0 = false := by simp [hasF]
theorem hasF_step (c : UInt8) (s : ByteArray) (i n : Nat) (x : UInt8) (h : (s.data.toList.drop i)[n]? = some x) : hasF c s i (n + 1) = (hasF c s i n || c == x) := by
  unfold hasF
  rw [List.take_add_one, h]
  simp
  rfl
/-- the byte behind the flags is none -/
theorem flag_stop (s : ByteArray) (i : Nat) : ch s (i + flagN s i) ≠ 45 ∧ ch s (i + flagN s i) ≠ 43 ∧ ch s (i + flagN s i) ≠ 32 ∧ ch s (i + flagN s i) ≠ 35 ∧ ch s (i + flagN s i) ≠ 48 := by
  cases h : (s.data.toList.drop i)[flagN s i]? with
  | none => rw [ch_none h]; decide
  | some x =>
    have := takeWhile_stop isFlag _ x h
    rw [ch_get h]
    unfold isFlag at this
    simp only [Bool.or_eq_false_iff, beq_eq_false_iff_ne] at this
    obtain ⟨⟨⟨⟨h1, h2⟩, h3⟩, h4⟩, h5⟩ := this
    refine ⟨fun e => h1 ?_, fun e => h2 ?_, fun e => h3 ?_, fun e => h4 ?_, fun e => h5 ?_⟩ <;> exact UInt8.toNat_inj.1 e
theorem flag_at {s : ByteArray} {i k : Nat} (h : k < flagN s i) : ∃ x : UInt8, (s.data.toList.drop i)[k]? = some x ∧ ch s (i + k) = x.toNat ∧ (x = 45 ∨ x = 43 ∨ x = 32 ∨ x = 35 ∨ x = 48) := by
  obtain ⟨x, h1, h2⟩ := takeWhile_at isFlag _ k h
  refine ⟨x, h1, ch_get h1, ?_⟩
  unfold isFlag at h2
  simp only [Bool.or_eq_true, beq_iff_eq] at h2
  rcases h2 with (((h | h) | h) | h) | h
  · exact .inl h
  · exact .inr (.inl h)
  · exact .inr (.inr (.inl h))
  · exact .inr (.inr (.inr (.inl h)))
  · exact .inr (.inr (.inr (.inr h)))

/-- a piece's cells -/
def pieceA (m p b a z : Bool) (wd pr : Int) (vb : Int) (sw sp : Bool) (nx : Int) : Array Value := #[.bool m, .bool p, .bool b, .bool a, .bool z, .int .i64 wd, .int .i64 pr, .int .u8 vb, .bool sw, .bool sp, .int .i64 nx]
def PcAt (w : World) (r : Nat) (A : Array Value) : Prop := w.heap[r]? = some (.cells A 114 (0, 0))
theorem PcAt.lt {w : World} {r : Nat} {A : Array Value} (h : PcAt w r A) : r < w.heap.size := lt_of_heap h
theorem PcAt.cell {w : World} {r : Nat} {A : Array Value} (h : PcAt w r A) (i : Nat) : w.cell? ⟨r, i, none⟩ = A[i]? := by rw [Lib.cell_of_heap h]
theorem PcAt.frozen {w : World} {r : Nat} {A : Array Value} (h : PcAt w r A) (i : Nat) : w.frozen? ⟨r, i, none⟩ = false := Lib.frozen_of_heap h i
theorem PcAt.keep {w w' : World} {r : Nat} {A : Array Value} {S : List Nat} (h : PcAt w r A) (ha : Apart S w w') (hS : r ∉ S) : PcAt w' r A := (ha.block r h.lt hS).trans h
theorem PcAt.below {w w' : World} {r : Nat} {A : Array Value} (h : PcAt w r A) (hb : Below w.heap.size w w') : PcAt w' r A := (hb.block r h.lt).trans h
theorem PcAt.set {w : World} {r : Nat} {A : Array Value} (h : PcAt w r A) (i : Nat) (v : Value) : PcAt (w.setCell ⟨r, i, none⟩ v) r (A.setIfInBounds i v) := setCell_heap_same h i v
theorem PcAt.other {w : World} {r q : Nat} {A : Array Value} (h : PcAt w r A) (i : Nat) (v : Value) (hq : r ≠ q) : PcAt (w.setCell ⟨q, i, none⟩ v) r A := (Below.heap_setCell _ _ _ _ hq).trans h
theorem RdAt.other {w : World} {r q : Nat} {s : ByteArray} {j : Int} (h : RdAt w r s j) (i : Nat) (v : Value) (hq : r ≠ q) : RdAt (w.setCell ⟨q, i, none⟩ v) r s j := (Below.heap_setCell _ _ _ _ hq).trans h

end Go.Proofs.YtcmpdamfeoaapaaGreatDoor
end

section
/- Package format: the reader: flags. -/
namespace Go.Proofs.YtcmpdamfeoaapaaGreatDoor
open Go.RowKit
set_option linter.unusedVariables false

theorem ne45_43 : ((45 : UInt8) == 43) = false := by decide
theorem ne45_32 : ((45 : UInt8) == 32) = false := by decide
theorem ne45_35 : ((45 : UInt8) == 35) = false := by decide
theorem ne45_48 : ((45 : UInt8) == 48) = false := by decide
theorem ne43_45 : ((43 : UInt8) == 45) = false := by decide
theorem ne43_32 : ((43 : UInt8) == 32) = false := by decide
theorem ne43_35 : ((43 : UInt8) == 35) = false := by decide
theorem ne43_48 : ((43 : UInt8) == 48) = false := by decide
theorem ne32_45 : ((32 : UInt8) == 45) = false := by decide
theorem ne32_43 : ((32 : UInt8) == 43) = false := by decide
theorem ne32_35 : ((32 : UInt8) == 35) = false := by decide
theorem ne32_48 : ((32 : UInt8) == 48) = false := by decide
theorem ne35_45 : ((35 : UInt8) == 45) = false := by decide
theorem ne35_43 : ((35 : UInt8) == 43) = false := by decide
theorem ne35_32 : ((35 : UInt8) == 32) = false := by decide
theorem ne35_48 : ((35 : UInt8) == 48) = false := by decide
theorem ne48_45 : ((48 : UInt8) == 45) = false := by decide
theorem ne48_43 : ((48 : UInt8) == 43) = false := by decide
theorem ne48_32 : ((48 : UInt8) == 32) = false := by decide
theorem ne48_35 : ((48 : UInt8) == 35) = false := by decide

set_option maxHeartbeats 4000000 in
set_option maxRecDepth 100000 in
/-- flags: from a place on, into a piece without flags -/
theorem flags_any (s : ByteArray) (i r p : Nat) (wd pr : Int) (vb : Int) (sw sp : Bool) (nx : Int) (w : World) (hr : RdAt w r s i) (hp : PcAt w p (pieceA false false false false false wd pr vb sw sp nx)) (hrp : r ≠ p) (hi : i + s.size ≤ 1000000000000000) :
    Calls Tryz.prog 129 #[.pointer (some ⟨r, 0, none⟩), .pointer (some ⟨p, 0, none⟩)] w fun e w' => e = .returned (.tuple #[]) ∧
      RdAt w' r s ((i + flagN s i : Nat) : Int) ∧ PcAt w' p (pieceA (hasF 45 s i (flagN s i)) (hasF 43 s i (flagN s i)) (hasF 32 s i (flagN s i)) (hasF 35 s i (flagN s i)) (hasF 48 s i (flagN s i)) wd pr vb sw sp nx) ∧ Apart [r, p] w w' := by
  have hpr : p ≠ r := fun e => hrp e.symm
  have HR := Lib.hid hr
  have HP := Lib.hid hp
  have hfl : flagN s i ≤ s.size := by
    unfold flagN
    refine Nat.le_trans (List.takeWhile_sublist _).length_le ?_
    rw [List.length_drop, sz_list]
    omega
  obtain ⟨n, hn⟩ : ∃ n, n = flagN s i := ⟨_, rfl⟩
  rw [← hn] at hfl ⊢
  have HN := Lib.hid hn
  have HS := Lib.hid hi
  have hi2 : i + n ≤ 1000000000000000 := by omega
  clear hr hp hn hi hfl
  go_enter Tryz.func129, Tryz.ntmps129
  go_wp2_with fail
  go_loopw [] (fun wr => ∃ k : Nat, k ≤ n ∧ RdAt wr r s ((i + k : Nat) : Int) ∧ PcAt wr p (pieceA (hasF 45 s i k) (hasF 43 s i k) (hasF 32 s i k) (hasF 35 s i k) (hasF 48 s i k) wd pr vb sw sp nx) ∧ Apart [r, p] w wr)
    (fun wr => i + n - (match wr.cell? ⟨r, 1, none⟩ with | some v => (intOf v).toNat | none => 0))
  case atStart =>
    refine ⟨0, Nat.zero_le _, HR.out, ?_, Apart.refl _ _⟩
    rw [hasF_zero, hasF_zero, hasF_zero, hasF_zero, hasF_zero]
    exact HP.out
  case round =>
    obtain ⟨k, hk, hr, hp, ha⟩ := hrel
    have HR1 := Lib.hid hr
    have HP1 := Lib.hid hp
    have HA1 := Lib.hid ha
    clear hr hp ha
    have HX := Lib.hid (next_any s ((i + k : Nat) : Int) r wr HR1.out)
    rw [chr_nat] at HX
    rcases Nat.lt_or_ge k n with hlt | hge
    · rw [HN.out] at hlt
      obtain ⟨x, hx, hcx, hx5⟩ := flag_at hlt
      rw [← HN.out] at hlt
      rw [hcx] at HX
      have HXX := Lib.hid hx
      clear hx hcx
      rcases hx5 with rfl | rfl | rfl | rfl | rfl
      all_goals
        go_wp2_with fail
        refine HX.out.mono ?_
        rintro e w1 ⟨rfl, hb⟩
        have HR2 := Lib.hid (HR1.out.below hb)
        have HP2 := Lib.hid (HP1.out.below hb)
        have HA2 := Lib.hid (HA1.out.trans (Apart.of_below hb []) (by simp))
        have c0 := HR2.out.c0
        have c1 := HR2.out.c1
        have f1 := HR2.out.f1
        have k0 : w1.cell? ⟨p, 0, none⟩ = some (.bool (hasF 45 s i k)) := HP2.out.cell 0
        have k1 : w1.cell? ⟨p, 1, none⟩ = some (.bool (hasF 43 s i k)) := HP2.out.cell 1
        have k2 : w1.cell? ⟨p, 2, none⟩ = some (.bool (hasF 32 s i k)) := HP2.out.cell 2
        have k3 : w1.cell? ⟨p, 3, none⟩ = some (.bool (hasF 35 s i k)) := HP2.out.cell 3
        have k4 : w1.cell? ⟨p, 4, none⟩ = some (.bool (hasF 48 s i k)) := HP2.out.cell 4
        have g0 := HP2.out.frozen 0
        have g1 := HP2.out.frozen 1
        have g2 := HP2.out.frozen 2
        have g3 := HP2.out.frozen 3
        have g4 := HP2.out.frozen 4
        have q1 : ∀ (j : Nat) (v : Value), (w1.setCell ⟨p, j, none⟩ v).cell? ⟨r, 1, none⟩ = some (.int .i64 ((i + k : Nat) : Int)) := fun j v => (HR2.out.other j v hrp).c1
        have q2 : ∀ (j : Nat) (v : Value), (w1.setCell ⟨p, j, none⟩ v).frozen? ⟨r, 1, none⟩ = false := fun j v => (HR2.out.other j v hrp).f1
        clear hb
        go_wp2_with fail
        refine ⟨⟨k + 1, hlt, ?_, ?_, ?_⟩, ?_⟩
        · rw [show ((i + (k + 1) : Nat) : Int) = (i : Int) + k + 1 from by omega]
          exact (HR2.out.other _ _ hrp).step _
        · simp (decide := true) only [hasF_step _ _ _ _ _ HXX.out, beq_self_eq_true, ne45_43, ne45_32, ne45_35, ne45_48, ne43_45, ne43_32, ne43_35, ne43_48, ne32_45, ne32_43, ne32_35, ne32_48, ne35_45, ne35_43, ne35_32, ne35_48, ne48_45, ne48_43, ne48_32, ne48_35, Bool.or_true, Bool.or_false]
          exact (HP2.out.set _ _).other _ _ hpr
        · exact (HA2.out.setCell _ (by simp) _).setCell _ (by simp) _
        · rw [((HR2.out.other _ _ hrp).step _).c1, HR1.out.c1]
          simp only [intOf]
          omega
    · obtain rfl : k = n := by omega
      rw [HN.out] at HX
      obtain ⟨h1, h2, h3, h4, h5⟩ := flag_stop s i
      rw [← HN.out] at h1 h2 h3 h4 h5 HX
      generalize ch s (i + k) = c at *
      have b1 : ((c : Int) == 45) = false := by simp; omega
      have b2 : ((c : Int) == 43) = false := by simp; omega
      have b3 : ((c : Int) == 32) = false := by simp; omega
      have b4 : ((c : Int) == 35) = false := by simp; omega
      have b5 : ((c : Int) == 48) = false := by simp; omega
      clear h1 h2 h3 h4 h5
      go_wp2_with fail
      refine HX.out.mono ?_
      rintro e w1 ⟨rfl, hb⟩
      have HR2 := Lib.hid (HR1.out.below hb)
      have HP2 := Lib.hid (HP1.out.below hb)
      have HA2 := Lib.hid (HA1.out.trans (Apart.of_below hb []) (by simp))
      clear hb
      go_wp2_with fail
      exact bodyPost_ret (v := .tuple #[]) (by simp [results, Tryz.results129, go_sem]) rfl ⟨rfl, HR2.out, HP2.out, HA2.out⟩
end Go.Proofs.YtcmpdamfeoaapaaGreatDoor
end
