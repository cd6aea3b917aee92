/- Package dec: nearest. -/
import Derived.Test.YtcipmfjefmjacaaGreatDoorD2
namespace Go.Proofs.YtcipmfjefmjacaaGreatDoor
open Go.RowKit
set_option linter.unusedVariables false

@[go_sem] theorem callFfb (n : Int) (w : World) : (callFunc 99 #[.int .u64 n]).run Tryz.prog w = .ok (.value (.float .f64 n.toNat)) w := by
  rw [run_callFunc_extern Tryz.func99 (by kernel_rfl) (by kernel_rfl) (by kernel_rfl) (e := Extern.MathFloatBits.float64frombits) (by kernel_rfl)]
  rfl
/-- a fraction over 2^e, rounded down -/
def qat (x y : Nat) (e : Int) : Nat := x * 2 ^ (-e).toNat / (y * 2 ^ e.toNat)
def e0 (x y : Nat) : Int := max ((nbits x : Int) - nbits y - 54) (-1074)
/-- E is the least exponent from e0 on at which the quotient has 53 bits -/
structure LeastE (x y : Nat) (E : Int) : Prop where
  ge : e0 x y ≤ E
  bits : nbits (qat x y E) ≤ 53
  least : ∀ e, e0 x y ≤ e → e < E → ¬ nbits (qat x y e) ≤ 53
/-- the bits of the float -/
def nearBits (x y : Nat) (E : Int) : Nat := min ((E + 1074).toNat * 2 ^ 52 + rnd (x * 2 ^ (-E).toNat) (y * 2 ^ E.toNat)) 9218868437227405312

theorem nbits_lt {n k : Nat} (h : n < 2 ^ k) : nbits n ≤ k := nbits_le.2 h
theorem limbs_of_bits {n : Nat} (h : nbits n ≤ 8192) : (limbs n).length ≤ 256 := by
  refine limbs_length_le ?_
  have h2 : nbits n ≤ 32 * 256 := by omega
  exact Nat.lt_of_lt_of_eq (nbits_le.1 h2) (b32_pow 256).symm
theorem nbits_add {a b k : Nat} (ha : nbits a ≤ k) (h : b ≤ a + 1) : nbits b ≤ k + 1 := by
  refine nbits_le.2 ?_
  have h1 := nbits_le.1 ha
  rw [Nat.pow_succ]
  omega
theorem nbits_shift {n k m : Nat} (h : nbits n + k ≤ m) : nbits (n * 2 ^ k) ≤ m := by
  refine nbits_le.2 ?_
  have h1 := nbits_le.1 (Nat.le_refl (nbits n))
  have h2 : n * 2 ^ k < 2 ^ nbits n * 2 ^ k := Nat.mul_lt_mul_of_pos_right h1 (Nat.pow_pos (by decide))
  rw [← Nat.pow_add] at h2
  exact Nat.lt_of_lt_of_le h2 (Nat.pow_le_pow_right (by decide) h)
theorem nbits_mono {a b : Nat} (h : a ≤ b) : nbits a ≤ nbits b := nbits_le.2 (Nat.lt_of_le_of_lt h (nbits_le.1 (Nat.le_refl _)))

theorem Bits_V (va : Value) (n : Nat) (w : World) (h : NatV w va n) (hl : (limbs n).length ≤ 256) :
    Calls Tryz.prog 104 #[va] w fun e w' => e = .returned (.int .i64 (nbits n : Nat)) ∧ w = w' := by
  obtain ⟨a, ca, rfl, ha⟩ := h
  exact Bits_any a ca n w ha hl

/-- the quotient's bits fall to 53 -/
theorem bits_qat {x y : Nat} {e : Int} (hy : 0 < y) (he : (nbits x : Int) - nbits y - 52 ≤ e) : nbits (qat x y e) ≤ 53 := by
  refine nbits_le.2 ?_
  unfold qat
  have hx := nbits_le.1 (Nat.le_refl (nbits x))
  have hy1 : 2 ^ (nbits y - 1) ≤ y := by
    rcases Nat.lt_or_ge y (2 ^ (nbits y - 1)) with h | h
    · have h1 := nbits_le.2 h
      have h2 : nbits y ≠ 0 := fun h3 => by have := nbits_le.1 (Nat.le_of_eq h3); simp at this; omega
      omega
    · exact h
  have h2 : nbits y ≠ 0 := fun h3 => by have := nbits_le.1 (Nat.le_of_eq h3); simp at this; omega
  rw [Nat.div_lt_iff_lt_mul (Nat.mul_pos hy (Nat.pow_pos (by decide)))]
  have h3 : x * 2 ^ (-e).toNat < 2 ^ (nbits x + (-e).toNat) := by
    rw [Nat.pow_add]; exact Nat.mul_lt_mul_of_pos_right hx (Nat.pow_pos (by decide))
  have h4 : 2 ^ (53 + (nbits y - 1) + e.toNat) ≤ 2 ^ 53 * (y * 2 ^ e.toNat) := by
    rw [Nat.pow_add, Nat.pow_add, Nat.mul_assoc]
    exact Nat.mul_le_mul_left _ (Nat.mul_le_mul_right _ hy1)
  refine Nat.lt_of_lt_of_le h3 (Nat.le_trans (Nat.pow_le_pow_right (by decide) ?_) h4)
  omega

theorem minN (k c R m : Nat) : (min ((k : Int) * (c : Int) + (R : Int)) (m : Int)).toNat = min (k * c + R) m := by
  have : (k : Int) * (c : Int) + (R : Int) = ((k * c + R : Nat) : Int) := by simp
  rw [this]; omega

set_option maxRecDepth 100000 in
set_option maxHeartbeats 1000000 in
theorem nearest_any (va vb : Value) (x y : Nat) (w : World) (hx : NatV w va x) (hy : NatV w vb y) (hy0 : 0 < y) (hX : nbits x ≤ 7000) (hY : nbits y ≤ 7000) (hV : (nbits x : Int) - nbits y ≤ 1100) :
    Calls Tryz.prog 93 #[va, vb] w fun e w' => ∃ E, LeastE x y E ∧ e = .returned (.float .f64 (nearBits x y E)) ∧ Below w.heap.size w w' := by
  have HX := Lib.hid hx
  have HY := Lib.hid hy
  have B1 := Lib.hid (Bits_V va x w hx (limbs_of_bits (by omega)))
  have B2 := Lib.hid (Bits_V vb y w hy (limbs_of_bits (by omega)))
  clear hx hy
  obtain ⟨M, hM⟩ : ∃ M : Int, M = max ((nbits x : Int) - nbits y - 52) (-1074) := ⟨_, rfl⟩
  obtain ⟨ee, hee⟩ : ∃ ee, ee = e0 x y := ⟨_, rfl⟩
  have hee' : ee = max ((nbits x : Int) - nbits y - 54) (-1074) := hee
  have hQL : ∀ e : Int, ee ≤ e → (limbs (x * 2 ^ (-e).toNat)).length ≤ 256 := by
    intro e he
    exact limbs_of_bits (nbits_shift (by omega))
  have hDL : ∀ e : Int, e ≤ M → (limbs (2 * (y * 2 ^ e.toNat))).length ≤ 256 := by
    intro e he
    rw [show 2 * (y * 2 ^ e.toNat) = y * 2 ^ (e.toNat + 1) by rw [Nat.pow_succ]; ac_rfl]
    exact limbs_of_bits (nbits_shift (by omega))
  have HSX : Hid (∀ (e : Int) (W : World), ee ≤ e → e ≤ M → NatV W va x → Calls Tryz.prog 106 #[va, .int .i64 (-e)] W fun r W' => ∃ v, r = .returned v ∧ NatV W' v (x * 2 ^ (-e).toNat) ∧ Below W.heap.size W W') :=
    fun e W h1 h2 h => shifted_any va x (-e) W h (by omega) (by omega) (hQL e h1)
  have HSY : Hid (∀ (e : Int) (W : World), ee ≤ e → e ≤ M → NatV W vb y → Calls Tryz.prog 106 #[vb, .int .i64 e] W fun r W' => ∃ v, r = .returned v ∧ NatV W' v (y * 2 ^ e.toNat) ∧ Below W.heap.size W W') :=
    fun e W h1 h2 h => shifted_any vb y e W h (by omega) (by omega) (limbs_le_of_le (by omega) (hDL e h2))
  have HDV : Hid (∀ (e : Int) (W : World) (v2 v3 : Value), ee ≤ e → e ≤ M → NatV W v2 (x * 2 ^ (-e).toNat) → NatV W v3 (y * 2 ^ e.toNat) → Calls Tryz.prog 105 #[v2, v3] W fun r W' => ∃ q r', r = .returned (.tuple #[q, r', .int .i64 0]) ∧ NatV W' q (qat x y e) ∧ Below W.heap.size W W') :=
    fun e W v2 v3 h1 h2 h3 h4 => (Div_any v2 v3 _ _ W h3 h4 (hQL e h1) (limbs_le_of_le (by omega) (hDL e h2)) (Nat.mul_pos hy0 (Nat.pow_pos (by decide)))).mono (by
      rintro r W' ⟨q, r', rfl, hq, _, hb⟩
      exact ⟨q, r', rfl, hq, hb⟩)
  have HRD : Hid (∀ (e : Int) (W : World) (v2 v3 : Value), ee ≤ e → e ≤ M → NatV W v2 (x * 2 ^ (-e).toNat) → NatV W v3 (y * 2 ^ e.toNat) → nbits (qat x y e) ≤ 53 → Calls Tryz.prog 108 #[v2, v3] W fun r W' => ∃ v, r = .returned v ∧ NatV W' v (rnd (x * 2 ^ (-e).toNat) (y * 2 ^ e.toNat)) ∧ Below W.heap.size W W') :=
    fun e W v2 v3 h1 h2 h3 h4 h5 => rounded_any v2 v3 _ _ W h3 h4 (hQL e h1) (hDL e h2) (Nat.mul_pos hy0 (Nat.pow_pos (by decide))) (limbs_of_bits (Nat.le_trans (nbits_add (a := qat x y e) h5 (Nat.le_refl _)) (by decide)))
  have HBT : Hid (∀ (e : Int) (W : World) (q : Value), ee ≤ e → NatV W q (qat x y e) → Calls Tryz.prog 104 #[q] W fun r W' => r = .returned (.int .i64 (nbits (qat x y e) : Nat)) ∧ W = W') :=
    fun e W q h1 h => Bits_V q _ W h (limbs_le_of_le (Nat.div_le_self _ _) (hQL e h1))
  have hNB : Hid (∀ e : Int, ee ≤ e → nbits (qat x y e) ≤ 8192) := fun e h1 => by
    have h2 : qat x y e < B32 ^ 256 := lt_of_limbs_length (limbs_le_of_le (Nat.div_le_self _ _) (hQL e h1))
    have h3 : nbits (qat x y e) ≤ 32 * 256 := nbits_le.2 (Nat.lt_of_lt_of_eq h2 (b32_pow 256))
    omega
  have HFIN : Hid (∀ e : Int, M ≤ e → nbits (qat x y e) ≤ 53) := fun e h => bits_qat hy0 (by omega)
  have heM : ee ≤ M := by omega
  have hee1 : -1074 ≤ ee := by omega
  have hM1 : M ≤ 1048 := by omega
  have HEE := Lib.hid hee
  obtain ⟨bx, hbx⟩ : ∃ bx, bx = nbits x := ⟨_, rfl⟩
  obtain ⟨by', hby⟩ : ∃ b, b = nbits y := ⟨_, rfl⟩
  have em : max ((bx : Int) - by' - 54) (-1074) = ee := by rw [hee', hbx, hby]
  rw [← hbx] at B1 hX
  rw [← hby] at B2 hY
  clear hbx hby hee hee' hM hQL hDL hV
  go_enter Tryz.func93, Tryz.ntmps93
  go_wp2_with fail
  refine B1.out.mono ?_
  rintro e w1 ⟨rfl, rfl⟩
  go_wp2_with fail
  refine B2.out.mono ?_
  rintro e w1 ⟨rfl, rfl⟩
  clear B1 B2
  go_wp2_with fail
  clear em hX hY
  have HB := Lib.hid (Below.refl w.heap.size w)
  refine (HSX.out ee w (Int.le_refl _) heM HX.out).mono ?_
  rintro e w2 ⟨v2, rfl, hn2, hb2⟩
  have HN2 := Lib.hid hn2
  have HX2 := Lib.hid (HX.out.below hb2)
  have HY2 := Lib.hid (HY.out.below hb2)
  have HB2 := Lib.hid (HB.out.trans (hb2.mono (Nat.le_refl _)))
  have hs2 := hb2.size
  clear hn2 hb2 HX HY HB
  go_wp2_with fail
  refine (HSY.out ee w2 (Int.le_refl _) heM HY2.out).mono ?_
  rintro e w3 ⟨v3, rfl, hn3, hb3⟩
  have HN3 := Lib.hid hn3
  have HN2' := Lib.hid (HN2.out.below hb3)
  have HX3 := Lib.hid (HX2.out.below hb3)
  have HY3 := Lib.hid (HY2.out.below hb3)
  have HB3 := Lib.hid (HB2.out.trans (hb3.mono (by omega)))
  have hs3 := hb3.size
  clear hn3 hb3 HX2 HY2 HB2 HN2
  go_wp2_with fail
  refine (HDV.out ee w3 v2 v3 (Int.le_refl _) heM HN2'.out HN3.out).mono ?_
  rintro e w4 ⟨q, r, rfl, hq, hb4⟩
  have HQ4 := Lib.hid hq
  have HX4 := Lib.hid (HX3.out.below hb4)
  have HY4 := Lib.hid (HY3.out.below hb4)
  have HB4 := Lib.hid (HB3.out.trans (hb4.mono (by omega)))
  have hs4 := hb4.size
  clear hq hb4 HX3 HY3 HB3 HN2' HN3
  go_wp2_with fail
  go_loopw [5, 6] (fun ev qv wr => ∃ (e : Int), ee ≤ e ∧ e ≤ M ∧ ev = .int .i64 e ∧ NatV wr qv (qat x y e) ∧ NatV wr va x ∧ NatV wr vb y ∧ Below w.heap.size w wr ∧ w.heap.size ≤ wr.heap.size ∧ ∀ e', ee ≤ e' → e' < e → ¬ nbits (qat x y e') ≤ 53) (fun ev _ _ => (M - intOf ev).toNat)
  case atStart => exact ⟨ee, Int.le_refl _, heM, rfl, HQ4.out, HX4.out, HY4.out, HB4.out, by omega, by intro e' h1 h2; omega⟩
  case round =>
    obtain ⟨e, he1, he2, rfl, hq, hx, hy, hb, hws, hl⟩ := hrel
    have HX := Lib.hid hx; have HY := Lib.hid hy; have HB := Lib.hid hb; have HL := Lib.hid hl
    have HBQ := Lib.hid (HBT.out e wr _ he1 hq)
    have hbb := hNB.out e he1
    have hfin := HFIN.out e
    clear hq hx hy hb hl HQ4 HX4 HY4 HB4 hs2 hs3 hs4
    obtain ⟨nb, hnb⟩ : ∃ nb, nb = nbits (qat x y e) := ⟨_, rfl⟩
    rw [← hnb] at HBQ hfin hbb
    have HNB := Lib.hid hnb
    clear hnb
    go_wp2_with fail
    refine HBQ.out.mono ?_
    rintro e' w1 ⟨rfl, rfl⟩
    clear HBQ
    by_cases h53 : 53 < nb
    · have h53' : (53 : Int) < (nb : Int) := by omega
      have hne : ¬ M ≤ e := fun h => by have := hfin h; omega
      clear hfin
      obtain ⟨f, hf⟩ : ∃ f, f = e + 1 := ⟨_, rfl⟩
      have hf1 : ee ≤ f := by omega
      have hf2 : f ≤ M := by omega
      have HL2 : Hid (∀ e', ee ≤ e' → e' < f → ¬ nbits (qat x y e') ≤ 53) := by
        show ∀ e', _ → _ → _
        intro e' h1 h2
        rcases Int.lt_or_eq_of_le (show e' ≤ e by omega) with h | h
        · exact HL.out e' h1 h
        · rw [h, ← HNB.out]; omega
      have hef : e + 1 = f := hf.symm
      clear hf HL
      go_wp2_with fail
      refine (HSX.out f wr hf1 hf2 HX.out).mono ?_
      rintro e w2 ⟨v2, rfl, hn2, hb2⟩
      have HN2 := Lib.hid hn2
      have HX2 := Lib.hid (HX.out.below hb2)
      have HY2 := Lib.hid (HY.out.below hb2)
      have HB2 := Lib.hid (HB.out.trans (hb2.mono hws))
      have hs2 := hb2.size
      clear hn2 hb2 HX HY HB
      go_wp2_with fail
      refine (HSY.out f w2 hf1 hf2 HY2.out).mono ?_
      rintro e w3 ⟨v3, rfl, hn3, hb3⟩
      have HN3 := Lib.hid hn3
      have HN2' := Lib.hid (HN2.out.below hb3)
      have HX3 := Lib.hid (HX2.out.below hb3)
      have HY3 := Lib.hid (HY2.out.below hb3)
      have HB3 := Lib.hid (HB2.out.trans (hb3.mono (by omega)))
      have hs3 := hb3.size
      clear hn3 hb3 HX2 HY2 HB2 HN2
      go_wp2_with fail
      refine (HDV.out f w3 v2 v3 hf1 hf2 HN2'.out HN3.out).mono ?_
      rintro e w4 ⟨q, r, rfl, hq, hb4⟩
      have HQ4 := Lib.hid hq
      have HX4 := Lib.hid (HX3.out.below hb4)
      have HY4 := Lib.hid (HY3.out.below hb4)
      have HB4 := Lib.hid (HB3.out.trans (hb4.mono (by omega)))
      have hs4 := hb4.size
      clear hq hb4 HX3 HY3 HB3 HN2' HN3
      go_wp2_with fail
      go_roundw
      case rel => exact ⟨f, hf1, hf2, rfl, HQ4.out, HX4.out, HY4.out, HB4.out, by omega, HL2.out⟩
      case measure => simp [intOf]; omega
    · have h53' : ¬ (53 : Int) < (nb : Int) := by omega
      have hb53 : nbits (qat x y e) ≤ 53 := by rw [← HNB.out]; omega
      have HE : Hid (LeastE x y e) := ⟨by rw [← HEE.out]; exact he1, hb53, by rw [← HEE.out]; exact HL.out⟩
      have HB53 := Lib.hid hb53
      clear hfin HL hb53
      obtain ⟨k, hk⟩ : ∃ k : Nat, e + 1074 = (k : Int) := ⟨(e + 1074).toNat, by omega⟩
      go_wp2_with fail
      refine (HSX.out e wr he1 he2 HX.out).mono ?_
      rintro e w2 ⟨v2, rfl, hn2, hb2⟩
      have HN2 := Lib.hid hn2
      have HX2 := Lib.hid (HX.out.below hb2)
      have HY2 := Lib.hid (HY.out.below hb2)
      have HB2 := Lib.hid (HB.out.trans (hb2.mono hws))
      have hs2 := hb2.size
      clear hn2 hb2 HX HY HB
      go_wp2_with fail
      refine (HSY.out e w2 he1 he2 HY2.out).mono ?_
      rintro e w3 ⟨v3, rfl, hn3, hb3⟩
      have HN3 := Lib.hid hn3
      have HN2' := Lib.hid (HN2.out.below hb3)
      have HX3 := Lib.hid (HX2.out.below hb3)
      have HY3 := Lib.hid (HY2.out.below hb3)
      have HB3 := Lib.hid (HB2.out.trans (hb3.mono (by omega)))
      have hs3 := hb3.size
      clear hn3 hb3 HX2 HY2 HB2 HN2
      go_wp2_with fail
      refine (HRD.out e w3 v2 v3 he1 he2 HN2'.out HN3.out HB53.out).mono ?_
      rintro e' w4 ⟨v4, rfl, hn4, hb4⟩
      have HN4 := Lib.hid hn4
      have HB4 := Lib.hid (HB3.out.trans (hb4.mono (by omega)))
      clear hn4 hb4 HX3 HY3 HB3 HN2' HN3
      go_wp2_with fail
      have hRle := rnd_le (x * 2 ^ (-e).toNat) (y * 2 ^ e.toNat)
      have hq53 := nbits_le.1 HB53.out
      have hNBR : Hid (nearBits x y e = min (k * 4503599627370496 + rnd (x * 2 ^ (-e).toNat) (y * 2 ^ e.toNat)) 9218868437227405312) := by
        show _ = _
        unfold nearBits
        rw [hk]; rfl
      have hR53 : rnd (x * 2 ^ (-e).toNat) (y * 2 ^ e.toNat) ≤ 9007199254740992 := by
        unfold qat at hq53
        have : (2 : Nat) ^ 53 = 9007199254740992 := by decide
        omega
      clear hRle hq53
      generalize rnd (x * 2 ^ (-e).toNat) (y * 2 ^ e.toNat) = R at *
      have hRW : R % 18446744073709551616 = R := Nat.mod_eq_of_lt (by omega)
      have HW := word_any v4 R w4 HN4.out (limbs_length_le (Nat.lt_of_le_of_lt hR53 (by decide)))
      rw [hRW] at HW
      refine HW.mono ?_
      rintro e' w5 ⟨rfl, rfl⟩
      clear HW hRW
      go_wp2_with fail
      go_ret
      have hfin : (min ((k : Int) * 4503599627370496 + (R : Int)) 9218868437227405312).toNat = min (k * 4503599627370496 + R) 9218868437227405312 := minN k 4503599627370496 R 9218868437227405312
      exact ⟨e, HE.out, by rw [hNBR.out, ← hfin]; rfl, HB4.out⟩
end Go.Proofs.YtcipmfjefmjacaaGreatDoor
