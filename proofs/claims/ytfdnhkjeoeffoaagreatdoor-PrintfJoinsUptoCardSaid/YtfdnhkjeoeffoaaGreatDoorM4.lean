/- Several texts in one (D3, D4, D5, D6, R0, R1, R2, R3, R4, R5, R6, R7, R8, D7, D8, D9, L1, L2, R9, L3, R10, R11, L5, L7, R12, L10, K4, K5). -/
import Derived.Test.YtfdnhkjeoeffoaaGreatDoorM3
import Derived.KernelRfl
import Derived.Lib.SlTrimSet
import Derived.Shelf.Strings.SlTrimAscii
import GoSem.Core.Float
section
/- Package dec: nearest. -/
namespace Go.Proofs.YtfdnhkjeoeffoaaGreatDoor
open Go.RowKit
set_option linter.unusedVariables false
@[go_sem] theorem callFfb (n : Int) (w : World) : (callFunc 13 #[.int .u64 n]).run Tryz.prog w = .ok (.value (.float .f64 n.toNat)) w := by
 rw [run_callFunc_extern Tryz.func13 (by kernel_rfl) (by kernel_rfl) (by kernel_rfl) (e := Extern.MathFloatBits.float64frombits) (by kernel_rfl)]
 rfl
@[go_sem] theorem callFb (b : Nat) (w : World) : (callFunc 54 #[.float .f64 b]).run Tryz.prog w = .ok (.value (.int .u64 b)) w := by
 rw [run_callFunc_extern Tryz.func54 (by kernel_rfl) (by kernel_rfl) (by kernel_rfl) (e := Extern.MathFloatBits.float64bits) (by kernel_rfl)]
 rfl
/-- a fraction over 2^e, rounded down -/
def qat (x y : Nat) (e : Int) : Nat := x * 2 ^ (-e).toNat / (y * 2 ^ e.toNat)
def e0 (x y : Nat) : Int := max ((nbits x : Int) - nbits y - 54) (-1074)
/-- E is the least exponent from e0 on at which the quotient has 53 bits -/
structure LeastE (x y : Nat) (E : Int) : Prop where
 ge : e0 x y ≤ E
 bits : nbits (qat x y E) ≤ 53
 least : ∀ e, e0 x y ≤ e → e < E → ¬ nbits (qat x y e) ≤ 53
/-- the bits of the float -/
def nearBits (x y : Nat) (E : Int) : Nat := min ((E + 1074).toNat * 2 ^ 52 + rnd (x * 2 ^ (-E).toNat) (y * 2 ^ E.toNat)) 9218868437227405312
theorem limbs_of_bits {n : Nat} (h : nbits n ≤ 8192) : (limbs n).length ≤ 256 := by
 refine limbs_length_le ?_
 have h2 : nbits n ≤ 32 * 256 := by omega
 exact Nat.lt_of_lt_of_eq (nbits_le.1 h2) (b32_pow 256).symm
theorem nbits_add {a b k : Nat} (ha : nbits a ≤ k) (h : b ≤ a + 1) : nbits b ≤ k + 1 := by
 refine nbits_le.2 ?_
 have h1 := nbits_le.1 ha
 rw [Nat.pow_succ]
 omega
theorem nbits_shift {n k m : Nat} (h : nbits n + k ≤ m) : nbits (n * 2 ^ k) ≤ m := by
 refine nbits_le.2 ?_
 have h1 := nbits_le.1 (Nat.le_refl (nbits n))
 have h2 : n * 2 ^ k < 2 ^ nbits n * 2 ^ k := Nat.mul_lt_mul_of_pos_right h1 (Nat.pow_pos (by decide))
 rw [← Nat.pow_add] at h2
 exact Nat.lt_of_lt_of_le h2 (Nat.pow_le_pow_right (by decide) h)
theorem Bits_V (va : Value) (n : Nat) (w : World) (h : NatV w va n) (hl : (limbs n).length ≤ 256) :
 Calls Tryz.prog 244 #[va] w fun e w' => e = .returned (.int .i64 (nbits n : Nat)) ∧ w = w' := by
 obtain ⟨a, ca, rfl, ha⟩ := h
 exact Bits_any a ca n w ha hl
/-- the quotient's bits fall to 53 -/
theorem bits_qat {x y : Nat} {e : Int} (hy : 0 < y) (he : (nbits x : Int) - nbits y - 52 ≤ e) : nbits (qat x y e) ≤ 53 := by
 refine nbits_le.2 ?_
 unfold qat
 have hx := nbits_le.1 (Nat.le_refl (nbits x))
 have hy1 : 2 ^ (nbits y - 1) ≤ y := by
  rcases Nat.lt_or_ge y (2 ^ (nbits y - 1)) with h | h
  ·have h1 := nbits_le.2 h
   have h2 : nbits y ≠ 0 := fun h3 => by have := nbits_le.1 (Nat.le_of_eq h3); simp at this; omega
   omega
  ·exact h
 have h2 : nbits y ≠ 0 := fun h3 => by have := nbits_le.1 (Nat.le_of_eq h3); simp at this; omega
 rw [Nat.div_lt_iff_lt_mul (Nat.mul_pos hy (Nat.pow_pos (by decide)))]
 have h3 : x * 2 ^ (-e).toNat < 2 ^ (nbits x + (-e).toNat) := by
  rw [Nat.pow_add]; exact Nat.mul_lt_mul_of_pos_right hx (Nat.pow_pos (by decide))
 have h4 : 2 ^ (53 + (nbits y - 1) + e.toNat) ≤ 2 ^ 53 * (y * 2 ^ e.toNat) := by
  rw [Nat.pow_add, Nat.pow_add, Nat.mul_assoc]
  exact Nat.mul_le_mul_left _ (Nat.mul_le_mul_right _ hy1)
 refine Nat.lt_of_lt_of_le h3 (Nat.le_trans (Nat.pow_le_pow_right (by decide) ?_) h4)
 omega
theorem minN (k c R m : Nat) : (min ((k : Int) * (c : Int) + (R : Int)) (m : Int)).toNat = min (k * c + R) m := by
 have : (k : Int) * (c : Int) + (R : Int) = ((k * c + R : Nat) : Int) := by simp
 rw [this]; omega
set_option maxRecDepth 100000 in
set_option maxHeartbeats 1000000 in
theorem nearest_any (va vb : Value) (x y : Nat) (w : World) (hx : NatV w va x) (hy : NatV w vb y) (hy0 : 0 < y) (hX : nbits x ≤ 7000) (hY : nbits y ≤ 7000) (hV : (nbits x : Int) - nbits y ≤ 1100) :
 Calls Tryz.prog 228 #[va, vb] w fun e w' => ∃ E, LeastE x y E ∧ e = .returned (.float .f64 (nearBits x y E)) ∧ Below w.heap.size w w' := by
 have HX := Lib.hid hx
 have HY := Lib.hid hy
 have B1 := Lib.hid (Bits_V va x w hx (limbs_of_bits (by omega)))
 have B2 := Lib.hid (Bits_V vb y w hy (limbs_of_bits (by omega)))
 clear hx hy
 obtain ⟨M, hM⟩ : ∃ M : Int, M = max ((nbits x : Int) - nbits y - 52) (-1074) := ⟨_, rfl⟩
 obtain ⟨ee, hee⟩ : ∃ ee, ee = e0 x y := ⟨_, rfl⟩
 have hee' : ee = max ((nbits x : Int) - nbits y - 54) (-1074) := hee
 have hQL : ∀ e : Int, ee ≤ e → (limbs (x * 2 ^ (-e).toNat)).length ≤ 256 := by
  intro e he
  exact limbs_of_bits (nbits_shift (by omega))
 have hDL : ∀ e : Int, e ≤ M → (limbs (2 * (y * 2 ^ e.toNat))).length ≤ 256 := by
  intro e he
  rw [show 2 * (y * 2 ^ e.toNat) = y * 2 ^ (e.toNat + 1) by rw [Nat.pow_succ]; ac_rfl]
  exact limbs_of_bits (nbits_shift (by omega))
 have HSX : Hid (∀ (e : Int) (W : World), ee ≤ e → e ≤ M → NatV W va x → Calls Tryz.prog 183 #[va, .int .i64 (-e)] W fun r W' => ∃ v, r = .returned v ∧ NatV W' v (x * 2 ^ (-e).toNat) ∧ Below W.heap.size W W') :=
  fun e W h1 h2 h => shifted_any va x (-e) W h (by omega) (by omega) (hQL e h1)
 have HSY : Hid (∀ (e : Int) (W : World), ee ≤ e → e ≤ M → NatV W vb y → Calls Tryz.prog 183 #[vb, .int .i64 e] W fun r W' => ∃ v, r = .returned v ∧ NatV W' v (y * 2 ^ e.toNat) ∧ Below W.heap.size W W') :=
  fun e W h1 h2 h => shifted_any vb y e W h (by omega) (by omega) (limbs_le_of_le (by omega) (hDL e h2))
 have HDV : Hid (∀ (e : Int) (W : World) (v2 v3 : Value), ee ≤ e → e ≤ M → NatV W v2 (x * 2 ^ (-e).toNat) → NatV W v3 (y * 2 ^ e.toNat) → Calls Tryz.prog 192 #[v2, v3] W fun r W' => ∃ q r', r = .returned (.tuple #[q, r', .int .i64 0]) ∧ NatV W' q (qat x y e) ∧ Below W.heap.size W W') :=
  fun e W v2 v3 h1 h2 h3 h4 => (Div_any v2 v3 _ _ W h3 h4 (hQL e h1) (limbs_le_of_le (by omega) (hDL e h2)) (Nat.mul_pos hy0 (Nat.pow_pos (by decide)))).mono (by
   rintro r W' ⟨q, r', rfl, hq, _, hb⟩
   exact ⟨q, r', rfl, hq, hb⟩)
 have HRD : Hid (∀ (e : Int) (W : World) (v2 v3 : Value), ee ≤ e → e ≤ M → NatV W v2 (x * 2 ^ (-e).toNat) → NatV W v3 (y * 2 ^ e.toNat) → nbits (qat x y e) ≤ 53 → Calls Tryz.prog 182 #[v2, v3] W fun r W' => ∃ v, r = .returned v ∧ NatV W' v (rnd (x * 2 ^ (-e).toNat) (y * 2 ^ e.toNat)) ∧ Below W.heap.size W W') :=
  fun e W v2 v3 h1 h2 h3 h4 h5 => rounded_any v2 v3 _ _ W h3 h4 (hQL e h1) (hDL e h2) (Nat.mul_pos hy0 (Nat.pow_pos (by decide))) (limbs_of_bits (Nat.le_trans (nbits_add (a := qat x y e) h5 (Nat.le_refl _)) (by decide)))
 have HBT : Hid (∀ (e : Int) (W : World) (q : Value), ee ≤ e → NatV W q (qat x y e) → Calls Tryz.prog 244 #[q] W fun r W' => r = .returned (.int .i64 (nbits (qat x y e) : Nat)) ∧ W = W') :=
  fun e W q h1 h => Bits_V q _ W h (limbs_le_of_le (Nat.div_le_self _ _) (hQL e h1))
 have hNB : Hid (∀ e : Int, ee ≤ e → nbits (qat x y e) ≤ 8192) := fun e h1 => by
  have h2 : qat x y e < B32 ^ 256 := lt_of_limbs_length (limbs_le_of_le (Nat.div_le_self _ _) (hQL e h1))
  have h3 : nbits (qat x y e) ≤ 32 * 256 := nbits_le.2 (Nat.lt_of_lt_of_eq h2 (b32_pow 256))
  omega
 have HFIN : Hid (∀ e : Int, M ≤ e → nbits (qat x y e) ≤ 53) := fun e h => bits_qat hy0 (by omega)
 have heM : ee ≤ M := by omega
 have hee1 : -1074 ≤ ee := by omega
 have hM1 : M ≤ 1048 := by omega
 have HEE := Lib.hid hee
 obtain ⟨bx, hbx⟩ : ∃ bx, bx = nbits x := ⟨_, rfl⟩
 obtain ⟨by', hby⟩ : ∃ b, b = nbits y := ⟨_, rfl⟩
 have em : max ((bx : Int) - by' - 54) (-1074) = ee := by rw [hee', hbx, hby]
 rw [← hbx] at B1 hX
 rw [← hby] at B2 hY
 clear hbx hby hee hee' hM hQL hDL hV
 go_enter Tryz.func228, Tryz.ntmps228
 go_wp2_with fail
 refine B1.out.mono ?_
 rintro e w1 ⟨rfl, rfl⟩
 go_wp2_with fail
 refine B2.out.mono ?_
 rintro e w1 ⟨rfl, rfl⟩
 clear B1 B2
 go_wp2_with fail
 clear em hX hY
 have HB := Lib.hid (Below.refl w.heap.size w)
 refine (HSX.out ee w (Int.le_refl _) heM HX.out).mono ?_
 rintro e w2 ⟨v2, rfl, hn2, hb2⟩
 have HN2 := Lib.hid hn2
 have HX2 := Lib.hid (HX.out.below hb2)
 have HY2 := Lib.hid (HY.out.below hb2)
 have HB2 := Lib.hid (HB.out.trans (hb2.mono (Nat.le_refl _)))
 have hs2 := hb2.size
 clear hn2 hb2 HX HY HB
 go_wp2_with fail
 refine (HSY.out ee w2 (Int.le_refl _) heM HY2.out).mono ?_
 rintro e w3 ⟨v3, rfl, hn3, hb3⟩
 have HN3 := Lib.hid hn3
 have HN2' := Lib.hid (HN2.out.below hb3)
 have HX3 := Lib.hid (HX2.out.below hb3)
 have HY3 := Lib.hid (HY2.out.below hb3)
 have HB3 := Lib.hid (HB2.out.trans (hb3.mono (by omega)))
 have hs3 := hb3.size
 clear hn3 hb3 HX2 HY2 HB2 HN2
 go_wp2_with fail
 refine (HDV.out ee w3 v2 v3 (Int.le_refl _) heM HN2'.out HN3.out).mono ?_
 rintro e w4 ⟨q, r, rfl, hq, hb4⟩
 have HQ4 := Lib.hid hq
 have HX4 := Lib.hid (HX3.out.below hb4)
 have HY4 := Lib.hid (HY3.out.below hb4)
 have HB4 := Lib.hid (HB3.out.trans (hb4.mono (by omega)))
 have hs4 := hb4.size
 clear hq hb4 HX3 HY3 HB3 HN2' HN3
 go_wp2_with fail
 go_loopw [5, 6] (fun ev qv wr => ∃ (e : Int), ee ≤ e ∧ e ≤ M ∧ ev = .int .i64 e ∧ NatV wr qv (qat x y e) ∧ NatV wr va x ∧ NatV wr vb y ∧ Below w.heap.size w wr ∧ w.heap.size ≤ wr.heap.size ∧ ∀ e', ee ≤ e' → e' < e → ¬ nbits (qat x y e') ≤ 53) (fun ev _ _ => (M - intOf ev).toNat)
 case atStart => exact ⟨ee, Int.le_refl _, heM, rfl, HQ4.out, HX4.out, HY4.out, HB4.out, by omega, by intro e' h1 h2; omega⟩
 case round =>
  obtain ⟨e, he1, he2, rfl, hq, hx, hy, hb, hws, hl⟩ := hrel
  have HX := Lib.hid hx; have HY := Lib.hid hy; have HB := Lib.hid hb; have HL := Lib.hid hl
  have HBQ := Lib.hid (HBT.out e wr _ he1 hq)
  have hbb := hNB.out e he1
  have hfin := HFIN.out e
  clear hq hx hy hb hl HQ4 HX4 HY4 HB4 hs2 hs3 hs4
  obtain ⟨nb, hnb⟩ : ∃ nb, nb = nbits (qat x y e) := ⟨_, rfl⟩
  rw [← hnb] at HBQ hfin hbb
  have HNB := Lib.hid hnb
  clear hnb
  go_wp2_with fail
  refine HBQ.out.mono ?_
  rintro e' w1 ⟨rfl, rfl⟩
  clear HBQ
  by_cases h53 : 53 < nb
  ·have h53' : (53 : Int) < (nb : Int) := by omega
   have hne : ¬ M ≤ e := fun h => by have := hfin h; omega
   clear hfin
   obtain ⟨f, hf⟩ : ∃ f, f = e + 1 := ⟨_, rfl⟩
   have hf1 : ee ≤ f := by omega
   have hf2 : f ≤ M := by omega
   have HL2 : Hid (∀ e', ee ≤ e' → e' < f → ¬ nbits (qat x y e') ≤ 53) := by
    show ∀ e', _ → _ → _
    intro e' h1 h2
    rcases Int.lt_or_eq_of_le (show e' ≤ e by omega) with h | h
    ·exact HL.out e' h1 h
    ·rw [h, ← HNB.out]; omega
   have hef : e + 1 = f := hf.symm
   clear hf HL
   go_wp2_with fail
   refine (HSX.out f wr hf1 hf2 HX.out).mono ?_
   rintro e w2 ⟨v2, rfl, hn2, hb2⟩
   have HN2 := Lib.hid hn2
   have HX2 := Lib.hid (HX.out.below hb2)
   have HY2 := Lib.hid (HY.out.below hb2)
   have HB2 := Lib.hid (HB.out.trans (hb2.mono hws))
   have hs2 := hb2.size
   clear hn2 hb2 HX HY HB
   go_wp2_with fail
   refine (HSY.out f w2 hf1 hf2 HY2.out).mono ?_
   rintro e w3 ⟨v3, rfl, hn3, hb3⟩
   have HN3 := Lib.hid hn3
   have HN2' := Lib.hid (HN2.out.below hb3)
   have HX3 := Lib.hid (HX2.out.below hb3)
   have HY3 := Lib.hid (HY2.out.below hb3)
   have HB3 := Lib.hid (HB2.out.trans (hb3.mono (by omega)))
   have hs3 := hb3.size
   clear hn3 hb3 HX2 HY2 HB2 HN2
   go_wp2_with fail
   refine (HDV.out f w3 v2 v3 hf1 hf2 HN2'.out HN3.out).mono ?_
   rintro e w4 ⟨q, r, rfl, hq, hb4⟩
   have HQ4 := Lib.hid hq
   have HX4 := Lib.hid (HX3.out.below hb4)
   have HY4 := Lib.hid (HY3.out.below hb4)
   have HB4 := Lib.hid (HB3.out.trans (hb4.mono (by omega)))
   have hs4 := hb4.size
   clear hq hb4 HX3 HY3 HB3 HN2' HN3
   go_wp2_with fail
   go_roundw
   case rel => exact ⟨f, hf1, hf2, rfl, HQ4.out, HX4.out, HY4.out, HB4.out, by omega, HL2.out⟩
   case measure => simp [intOf]; omega
  ·have h53' : ¬ (53 : Int) < (nb : Int) := by omega
   have hb53 : nbits (qat x y e) ≤ 53 := by rw [← HNB.out]; omega
   have HE : Hid (LeastE x y e) := ⟨by rw [← HEE.out]; exact he1, hb53, by rw [← HEE.out]; exact HL.out⟩
   have HB53 := Lib.hid hb53
   clear hfin HL hb53
   obtain ⟨k, hk⟩ : ∃ k : Nat, e + 1074 = (k : Int) := ⟨(e + 1074).toNat, by omega⟩
   go_wp2_with fail
   refine (HSX.out e wr he1 he2 HX.out).mono ?_
   rintro e w2 ⟨v2, rfl, hn2, hb2⟩
   have HN2 := Lib.hid hn2
   have HX2 := Lib.hid (HX.out.below hb2)
   have HY2 := Lib.hid (HY.out.below hb2)
   have HB2 := Lib.hid (HB.out.trans (hb2.mono hws))
   have hs2 := hb2.size
   clear hn2 hb2 HX HY HB
   go_wp2_with fail
   refine (HSY.out e w2 he1 he2 HY2.out).mono ?_
   rintro e w3 ⟨v3, rfl, hn3, hb3⟩
   have HN3 := Lib.hid hn3
   have HN2' := Lib.hid (HN2.out.below hb3)
   have HX3 := Lib.hid (HX2.out.below hb3)
   have HY3 := Lib.hid (HY2.out.below hb3)
   have HB3 := Lib.hid (HB2.out.trans (hb3.mono (by omega)))
   have hs3 := hb3.size
   clear hn3 hb3 HX2 HY2 HB2 HN2
   go_wp2_with fail
   refine (HRD.out e w3 v2 v3 he1 he2 HN2'.out HN3.out HB53.out).mono ?_
   rintro e' w4 ⟨v4, rfl, hn4, hb4⟩
   have HN4 := Lib.hid hn4
   have HB4 := Lib.hid (HB3.out.trans (hb4.mono (by omega)))
   clear hn4 hb4 HX3 HY3 HB3 HN2' HN3
   go_wp2_with fail
   have hRle := rnd_le (x * 2 ^ (-e).toNat) (y * 2 ^ e.toNat)
   have hq53 := nbits_le.1 HB53.out
   have hNBR : Hid (nearBits x y e = min (k * 4503599627370496 + rnd (x * 2 ^ (-e).toNat) (y * 2 ^ e.toNat)) 9218868437227405312) := by
    show _ = _
    unfold nearBits
    rw [hk]; rfl
   have hR53 : rnd (x * 2 ^ (-e).toNat) (y * 2 ^ e.toNat) ≤ 9007199254740992 := by
    unfold qat at hq53
    have : (2 : Nat) ^ 53 = 9007199254740992 := by decide
    omega
   clear hRle hq53
   generalize rnd (x * 2 ^ (-e).toNat) (y * 2 ^ e.toNat) = R at *
   have hRW : R % 18446744073709551616 = R := Nat.mod_eq_of_lt (by omega)
   have HW := word_any v4 R w4 HN4.out (limbs_length_le (Nat.lt_of_le_of_lt hR53 (by decide)))
   rw [hRW] at HW
   refine HW.mono ?_
   rintro e' w5 ⟨rfl, rfl⟩
   clear HW hRW
   go_wp2_with fail
   go_ret
   have hfin : (min ((k : Int) * 4503599627370496 + (R : Int)) 9218868437227405312).toNat = min (k * 4503599627370496 + R) 9218868437227405312 := minN k 4503599627370496 R 9218868437227405312
   exact ⟨e, HE.out, by rw [hNBR.out, ← hfin]; rfl, HB4.out⟩
end Go.Proofs.YtfdnhkjeoeffoaaGreatDoor
end

section
/- Package dec: Parts, scaled. -/
namespace Go.Proofs.YtfdnhkjeoeffoaaGreatDoor
open Go.RowKit
set_option linter.unusedVariables false
/-- a float's bits: natural, power of two, is it finite -/
def mant (b : Nat) : Nat := if b % 9223372036854775808 / 4503599627370496 = 2047 then 0 else if b % 9223372036854775808 / 4503599627370496 = 0 then b % 4503599627370496 else b % 4503599627370496 + 4503599627370496
def expo (b : Nat) : Int := if b % 9223372036854775808 / 4503599627370496 = 2047 then 0 else if b % 9223372036854775808 / 4503599627370496 = 0 then -1074 else (b % 9223372036854775808 / 4503599627370496 : Nat) - 1075
def fin (b : Nat) : Bool := !(b % 9223372036854775808 / 4503599627370496 == 2047)
theorem mask63 (b : Nat) (h : b < 18446744073709551616) : bits .andNot .u64 (b : Int) 9223372036854775808 = ((b % 9223372036854775808 : Nat) : Int) := by
 have h3 := u64_andNot_nat b 9223372036854775808 h (by decide)
 rw [show 18446744073709551615 - 9223372036854775808 = 2 ^ 63 - 1 by decide, Nat.and_two_pow_sub_one_eq_mod] at h3
 exact h3
theorem mask52 (b : Nat) (h : b < 18446744073709551616) : bits .and .u64 (b : Int) 4503599627370495 = ((b % 4503599627370496 : Nat) : Int) := by
 have h3 := u64_and_nat b 4503599627370495 h (by decide)
 rw [show (4503599627370495 : Nat) = 2 ^ 52 - 1 by decide, Nat.and_two_pow_sub_one_eq_mod] at h3
 exact h3
theorem or52 (m : Nat) (h : m < 4503599627370496) : bits .or .u64 (m : Int) 4503599627370496 = ((m + 4503599627370496 : Nat) : Int) := by
 have h3 := u64_or_nat m 4503599627370496 (by omega) (by decide)
 rw [Nat.or_comm, nat_join 52 4503599627370496 m (by decide) h, Nat.add_comm] at h3
 exact h3
set_option maxHeartbeats 2000000 in
theorem Parts_any (b : Nat) (w : World) (hb : b < 18446744073709551616) :
 Calls Tryz.prog 55 #[.float .f64 b] w fun e w' => e = .returned (.tuple #[.int .u64 (mant b : Nat), .int .i64 (expo b), .bool (fin b)]) ∧ w = w' := by
 have e1 := mask63 b hb
 obtain ⟨c, hc⟩ : ∃ c, c = b % 9223372036854775808 := ⟨_, rfl⟩
 have e2 := mask52 c (by omega)
 have hm0 : c % 4503599627370496 = b % 4503599627370496 := by omega
 obtain ⟨m, hm⟩ : ∃ m, m = b % 4503599627370496 := ⟨_, rfl⟩
 have hml : m < 4503599627370496 := by omega
 have e3 := or52 m hml
 obtain ⟨q, hq⟩ : ∃ q, q = c / 4503599627370496 := ⟨_, rfl⟩
 have hql : q ≤ 2047 := by omega
 have e4 : (c : Int) / 4503599627370496 = (q : Int) := by omega
 rw [hm0, ← hm] at e2
 rw [← hc] at e1
 obtain ⟨m2, hm2⟩ : ∃ m2, m2 = m + 4503599627370496 := ⟨_, rfl⟩
 rw [← hm2] at e3
 have HM : Hid (mant b = if q = 2047 then 0 else if q = 0 then m else m2) := by show _ = _; rw [mant, hm2, hq, hc, hm]
 have HE : Hid (expo b = if q = 2047 then 0 else if q = 0 then -1074 else (q : Int) - 1075) := by show _ = _; rw [expo, hq, hc]
 have HF : Hid (fin b = !(q == 2047)) := by show _ = _; rw [fin, hq, hc]
 clear hc hm hq hm0 hm2 hml hb
 go_enter Tryz.func55, Tryz.ntmps55
 by_cases h1 : q = 2047
 ·subst h1
  go_wp2_with fail
  go_ret3
  exact ⟨by rw [HM.out, HE.out, HF.out]; rfl, rfl⟩
 ·have h1' : ((q : Int) == 2047) = false := beq_eq_false_iff_ne.2 (by omega)
  by_cases h2 : q = 0
  ·subst h2
   go_wp2_with fail
   go_ret3
   exact ⟨by rw [HM.out, HE.out, HF.out]; rfl, rfl⟩
  ·have h2' : ((q : Int) == 0) = false := beq_eq_false_iff_ne.2 (by omega)
   have h3 : Hid ((q == 2047) = false) := beq_eq_false_iff_ne.2 h1
   go_wp2_with fail
   go_ret3
   exact ⟨by rw [HM.out, HE.out, HF.out, if_neg h1, if_neg h2, if_neg h1, if_neg h2, h3.out]; rfl, rfl⟩
theorem pow10_bits {j : Nat} (h : j ≤ 600) : nbits (10 ^ j) ≤ 2000 := by
 have h1 : nbits (10 ^ j) ≤ 10 * 200 := nbits_le.2 (Nat.lt_of_le_of_lt (p10_le (b := 3 * 200) (by omega)) (thousand (i := 200) (by decide)))
 omega
theorem nbits_mul {a b i j k : Nat} (ha : nbits a ≤ i) (hb : nbits b ≤ j) (hk : i + j ≤ k) : nbits (a * b) ≤ k := by
 refine nbits_le.2 (Nat.lt_of_lt_of_le ?_ (Nat.pow_le_pow_right (by decide) hk))
 rw [Nat.pow_add]
 have h1 := nbits_le.1 ha
 have h2 := nbits_le.1 hb
 calc a * b ≤ a * 2 ^ j := Nat.mul_le_mul_left _ (Nat.le_of_lt h2)
  _ < 2 ^ i * 2 ^ j := Nat.mul_lt_mul_of_pos_right h1 (Nat.pow_pos (by decide))
theorem two_pow_bits (j : Nat) : nbits (2 ^ j) ≤ j + 1 := nbits_le.2 (Nat.pow_lt_pow_right (by decide) (by omega))
set_option maxRecDepth 100000 in
set_option maxHeartbeats 2000000 in
theorem scaled_any (m : Nat) (e k : Int) (w : World) (hm : m < 18446744073709551616) (he1 : -1100 ≤ e) (he2 : e ≤ 1000) (hk1 : -600 ≤ k) (hk2 : k ≤ 600) :
 Calls Tryz.prog 113 #[.int .u64 m, .int .i64 e, .int .i64 k] w fun r w' => ∃ v, r = .returned v ∧ NatV w' v (rnd (m * 10 ^ k.toNat * 2 ^ e.toNat) (10 ^ (-k).toNat * 2 ^ (-e).toNat)) ∧ Below w.heap.size w w' := by
 have hmb : nbits m ≤ 64 := nbits_le.2 (by rw [show (2 : Nat) ^ 64 = 18446744073709551616 by decide]; exact hm)
 have hp1 : nbits (10 ^ k.toNat) ≤ 2000 := pow10_bits (by omega)
 have hp2 : nbits (10 ^ (-k).toNat) ≤ 2000 := pow10_bits (by omega)
 have hn : nbits (m * 10 ^ k.toNat) ≤ 2064 := nbits_mul hmb hp1 (by omega)
 have hX : nbits (m * 10 ^ k.toNat * 2 ^ e.toNat) ≤ 4000 := nbits_shift (by omega)
 have hY : nbits (10 ^ (-k).toNat * 2 ^ (-e).toNat) ≤ 4000 := nbits_shift (by omega)
 have hY2 : nbits (2 * (10 ^ (-k).toNat * 2 ^ (-e).toNat)) ≤ 4002 := nbits_mul (two_pow_bits 1) hY (by omega)
 have hQ : nbits (m * 10 ^ k.toNat * 2 ^ e.toNat / (10 ^ (-k).toNat * 2 ^ (-e).toNat) + 1) ≤ 4001 := by
  exact nbits_add (k := 4000) hX (Nat.succ_le_succ (Nat.div_le_self _ _))
 have hy0 : 0 < 10 ^ (-k).toNat * 2 ^ (-e).toNat := Nat.mul_pos (Nat.pow_pos (by decide)) (Nat.pow_pos (by decide))
 have P1 := Lib.hid (fun W => pow10_any k.toNat W (limbs_of_bits (by omega)) (by omega))
 have P2 := Lib.hid (fun W => pow10_any (-k).toNat W (limbs_of_bits (by omega)) (by omega))
 have M1 := Lib.hid (fun W va vb h1 h2 => Mul_any va vb m (10 ^ k.toNat) W h1 h2 (limbs_of_bits (by omega)) (limbs_of_bits (by omega)) (limbs_of_bits (by omega)))
 have S1 := Lib.hid (fun W va h => shifted_any va (m * 10 ^ k.toNat) e W h (by omega) (by omega) (limbs_of_bits (by omega)))
 have S2 := Lib.hid (fun W va h => shifted_any va (10 ^ (-k).toNat) (-e) W h (by omega) (by omega) (limbs_of_bits (by omega)))
 have R1 := Lib.hid (fun W va vb h1 h2 => rounded_any va vb _ _ W h1 h2 (limbs_of_bits (show nbits (m * 10 ^ k.toNat * 2 ^ e.toNat) ≤ 8192 by omega)) (limbs_of_bits (by omega)) hy0 (limbs_of_bits (by omega)))
 have em1 : max k 0 = (k.toNat : Int) := by omega
 have em2 : max (-k) 0 = ((-k).toNat : Int) := by omega
 clear hmb hp1 hp2 hn hX hY hY2 hQ hy0
 generalize k.toNat = k1 at *
 generalize (-k).toNat = k2 at *
 generalize rnd (m * 10 ^ k1 * 2 ^ e.toNat) (10 ^ k2 * 2 ^ (-e).toNat) = RR at *
 go_enter Tryz.func113, Tryz.ntmps113
 go_wp2_with fail
 refine (FromV m m rfl hm w).mono ?_
 rintro r w1 ⟨v1, rfl, hn1, hb1⟩
 have HN1 := Lib.hid hn1
 have HB1 := Lib.hid hb1
 have hs1 := hb1.size
 clear hn1 hb1
 go_wp2_with fail
 refine (P1.out w1).mono ?_
 rintro r w2 ⟨v2, rfl, hn2, hb2⟩
 have HN2 := Lib.hid hn2
 have HN12 := Lib.hid (HN1.out.below hb2)
 have HB2 := Lib.hid (HB1.out.trans (hb2.mono hs1))
 have hs2 := hb2.size
 clear hn2 hb2 HN1 HB1 P1
 go_wp2_with fail
 refine (M1.out w2 _ _ HN12.out HN2.out).mono ?_
 rintro r w3 ⟨v3, rfl, hn3, hb3⟩
 have HN3 := Lib.hid hn3
 have HB3 := Lib.hid (HB2.out.trans (hb3.mono (by omega)))
 have hs3 := hb3.size
 clear hn3 hb3 HN2 HN12 HB2 M1
 go_wp2_with fail
 refine (P2.out w3).mono ?_
 rintro r w4 ⟨v4, rfl, hn4, hb4⟩
 have HN4 := Lib.hid hn4
 have HN34 := Lib.hid (HN3.out.below hb4)
 have HB4 := Lib.hid (HB3.out.trans (hb4.mono (by omega)))
 have hs4 := hb4.size
 clear hn4 hb4 HN3 HB3 P2
 go_wp2_with fail
 refine (S1.out w4 _ HN34.out).mono ?_
 rintro r w5 ⟨v5, rfl, hn5, hb5⟩
 have HN5 := Lib.hid hn5
 have HN45 := Lib.hid (HN4.out.below hb5)
 have HB5 := Lib.hid (HB4.out.trans (hb5.mono (by omega)))
 have hs5 := hb5.size
 clear hn5 hb5 HN4 HB4 HN34 S1
 go_wp2_with fail
 refine (S2.out w5 _ HN45.out).mono ?_
 rintro r w6 ⟨v6, rfl, hn6, hb6⟩
 have HN6 := Lib.hid hn6
 have HN56 := Lib.hid (HN5.out.below hb6)
 have HB6 := Lib.hid (HB5.out.trans (hb6.mono (by omega)))
 have hs6 := hb6.size
 clear hn6 hb6 HN5 HB5 HN45 S2
 go_wp2_with fail
 refine (R1.out w6 _ _ HN56.out HN6.out).mono ?_
 rintro r w7 ⟨v7, rfl, hn7, hb7⟩
 have HN7 := Lib.hid hn7
 have HB7 := Lib.hid (HB6.out.trans (hb7.mono (by omega)))
 clear hn7 hb7
 go_wp2_with fail
 go_ret
 exact ⟨_, rfl, HN7.out, HB7.out⟩
end Go.Proofs.YtfdnhkjeoeffoaaGreatDoor
end

section
/- Package dec: Fixed. -/
namespace Go.Proofs.YtfdnhkjeoeffoaaGreatDoor
open Go.RowKit
set_option linter.unusedVariables false
def fixedL (l : List UInt8) (p : Nat) : List UInt8 :=
 let q := if l.length ≤ p then List.replicate (p + 1 - l.length) 48 ++ l else l
 if 0 < p then q.take (q.length - p) ++ 46 :: q.drop (q.length - p) else q
/-- the natural that Fixed writes -/
def scaledN (b : Nat) (k : Int) : Nat := rnd (mant b * 10 ^ k.toNat * 2 ^ (expo b).toNat) (10 ^ (-k).toNat * 2 ^ (-(expo b)).toNat)
theorem digVal_from (l : List UInt8) (n : Nat) : l.foldl (fun n c => 10 * n + (c.toNat - 48)) n = n * 10 ^ l.length + digVal l := by
 induction l generalizing n with
 | nil => simp [digVal]
 | cons c l ih =>
   have h1 := ih (10 * n + (c.toNat - 48))
   have h2 := ih (10 * 0 + (c.toNat - 48))
   simp only [digVal, List.foldl_cons, List.length_cons, Nat.pow_succ] at *
   rw [h1, h2, Nat.add_mul]
   simp only [Nat.mul_zero, Nat.zero_add]
   rw [← Nat.add_assoc]; congr 2; ac_rfl
theorem digVal_cons (c : UInt8) (l : List UInt8) : digVal (c :: l) = (c.toNat - 48) * 10 ^ l.length + digVal l := by
 have := digVal_from l (10 * 0 + (c.toNat - 48))
 simpa [digVal] using this
theorem digVal_lt {l : List UInt8} (h : Digits l) : digVal l < 10 ^ l.length := by
 induction l with
 | nil => simp [digVal]
 | cons c l ih =>
   have h1 := h c (by simp)
   have h2 := ih (fun x hx => h x (by simp [hx]))
   rw [digVal_cons, List.length_cons, Nat.pow_succ]
   have h3 : (c.toNat - 48) * 10 ^ l.length ≤ 9 * 10 ^ l.length := Nat.mul_le_mul_right _ (by omega)
   omega
theorem canon_len {l : List UInt8} {x k : Nat} (h : Canon l x) (hx : x < 10 ^ k) (hk : 0 < k) : l.length ≤ k := by
 rcases l with _ | ⟨c, r⟩
 ·simp
 ·rcases Nat.eq_zero_or_pos r.length with h0 | h0
  ·simp; omega
  ·have h1 := h.dig c (by simp)
   have h2 : c.toNat ≠ 48 := fun e => by
    have := h.top c r rfl e
    rw [this] at h0; simp at h0
   have h3 := h.val
   rw [digVal_cons] at h3
   have h4 : 1 * 10 ^ r.length ≤ (c.toNat - 48) * 10 ^ r.length := Nat.mul_le_mul_right _ (by omega)
   rcases Nat.lt_or_ge r.length k with h5 | h5
   ·exact h5
   ·have := Nat.pow_le_pow_right (n := 10) (by decide) h5
    omega
theorem mant_lt (b : Nat) : mant b < 9007199254740992 := by
 unfold mant; split
 ·omega
 ·split <;> omega
theorem expo_bounds {b : Nat} : -1074 ≤ expo b ∧ expo b ≤ 971 := by
 unfold expo; split
 ·omega
 ·split <;> omega
theorem scaledN_lt {b : Nat} {k : Int} (h1 : -600 ≤ k) (h2 : k ≤ 600) : nbits (scaledN b k) ≤ 4001 := by
 have hm := mant_lt b
 have he := expo_bounds (b := b)
 have hmb : nbits (mant b) ≤ 53 := nbits_le.2 (by rw [show (2 : Nat) ^ 53 = 9007199254740992 by decide]; exact hm)
 have hn : nbits (mant b * 10 ^ k.toNat) ≤ 2064 := nbits_mul hmb (pow10_bits (by omega)) (by omega)
 have hX : nbits (mant b * 10 ^ k.toNat * 2 ^ (expo b).toNat) ≤ 4000 := nbits_shift (by omega)
 exact nbits_add (k := 4000) hX (Nat.le_trans (rnd_le _ _) (Nat.succ_le_succ (Nat.div_le_self _ _)))
theorem scaled_b (b : Nat) (k : Int) (w : World) (h1 : -600 ≤ k) (h2 : k ≤ 600) :
 Calls Tryz.prog 113 #[.int .u64 (mant b : Nat), .int .i64 (expo b), .int .i64 k] w fun r w' => ∃ v, r = .returned v ∧ NatV w' v (scaledN b k) ∧ Below w.heap.size w w' := by
 have hm := mant_lt b
 have he := expo_bounds (b := b)
 exact scaled_any (mant b) (expo b) k w (by omega) (by omega) (by omega) h1 h2
theorem text_b {b : Nat} {k : Int} {v : Value} {w : World} (h1 : -600 ≤ k) (h2 : k ≤ 600) (h : NatV w v (scaledN b k)) :
 Calls Tryz.prog 112 #[v] w fun e w' => ∃ s : ByteArray, e = .returned (.tuple #[.string s, .int .i64 0]) ∧ Canon s.data.toList (scaledN b k) ∧ s.data.toList.length ≤ 4001 ∧ Below w.heap.size w w' := by
 refine (Text_all v _ w h (limbs_of_bits (Nat.le_trans (scaledN_lt h1 h2) (by decide)))).mono ?_
 rintro e w' ⟨s, rfl, hc, hb⟩
 refine ⟨s, rfl, hc, canon_len (k := 4001) hc (Nat.lt_of_lt_of_le (nbits_le.1 (scaledN_lt h1 h2)) (two_ten 4001)) (by decide), hb⟩
end Go.Proofs.YtfdnhkjeoeffoaaGreatDoor
end

section
/- Package dec: Fixed. -/
namespace Go.Proofs.YtfdnhkjeoeffoaaGreatDoor
open Go.RowKit
set_option linter.unusedVariables false
theorem point_list (s : ByteArray) (k n : Nat) (hn : s.data.toList.length = n) : (s.extract 0 k ++ ⟨#[46]⟩ ++ s.extract k n).data.toList = s.data.toList.take k ++ 46 :: s.data.toList.drop k := by
 have h2 : List.take (n - k) (List.drop k s.data.toList) = List.drop k s.data.toList := List.take_of_length_le (by rw [List.length_drop]; omega)
 simp [ByteArray.data_append, ByteArray.data_extract, List.extract_eq_take_drop, h2]
theorem repeatL_one (x : UInt8) : ∀ c, Lib.repeatL [x] c = List.replicate c x
 | 0 => rfl
 | c + 1 => by rw [Lib.repeatL, repeatL_one x c]; rfl
set_option maxRecDepth 100000 in
set_option maxHeartbeats 2000000 in
theorem Fixed_ok (b : Nat) (p : Nat) (w : World) (hb : b < 18446744073709551616) (hf : fin b = true) (hp : p ≤ 200) :
 Calls Tryz.prog 51 #[.float .f64 b, .int .i64 p] w fun e w' => ∃ s l, e = .returned (.tuple #[.string s, .int .i64 0]) ∧ Canon l (scaledN b p) ∧ s.data.toList = fixedL l p ∧ Below w.heap.size w w' := by
 have HP := Lib.hid (Parts_any b w hb)
 have HS := Lib.hid (fun W => scaled_b b p W (by omega) (by omega))
 have HT := Lib.hid (fun v W h => text_b (b := b) (k := p) (v := v) (w := W) (by omega) (by omega) h)
 rw [hf] at HP
 generalize scaledN b p = N at *
 generalize mant b = m at *
 generalize expo b = x at *
 clear hb hf
 have hpi : (p : Int) ≤ 200 := by omega
 go_enter Tryz.func51, Tryz.ntmps51
 go_wp2_with fail
 refine HP.out.mono ?_
 rintro e w1 ⟨rfl, rfl⟩
 clear HP
 go_wp2_with fail
 refine (HS.out w).mono ?_
 rintro e w1 ⟨v1, rfl, hn1, hb1⟩
 have HT1 := Lib.hid (HT.out v1 w1 hn1)
 have HB1 := Lib.hid hb1
 have hs1 := hb1.size
 clear hn1 hb1 HS HT
 go_wp2_with fail
 refine HT1.out.mono ?_
 rintro e w2 ⟨s, rfl, hc, hl, hb2⟩
 have HB2 := Lib.hid (HB1.out.trans (hb2.mono hs1))
 have hs2 := hb2.size
 have HC := Lib.hid hc
 have hsz : s.size = s.data.toList.length := by simp
 obtain ⟨n, hn⟩ : ∃ n, n = s.size := ⟨_, rfl⟩
 have HN : Hid (s.data.toList.length = n) := by show _ = _; rw [hn, hsz]
 have hn1 : s.size = n := hn.symm
 rw [HN.out] at hl
 clear hc hb2 HB1 HT1 hsz hn
 by_cases hle : n ≤ p
 ·have hle' : (n : Int) ≤ (p : Int) := by omega
  go_wp2_with fail
  have e1 : (p : Int) + 1 - n = ((p + 1 - n : Nat) : Int) := by omega
  have hn0 : 0 < n := by
   rw [← HN.out]; exact List.length_pos_iff.2 HC.out.ne
  obtain ⟨c, hc⟩ : ∃ c, c = p + 1 - n := ⟨_, rfl⟩
  have e2 : (p : Int) + 1 - n = (c : Int) := by omega
  rw [e2]
  have hcn : (c : Int) + n = p + 1 := by omega
  have hRP := Tryz.strings_Repeat ⟨#[48]⟩ c w2 (by omega) (by show 1 * c ≤ _; omega)
  obtain ⟨R, hR⟩ : ∃ R : ByteArray, R = ⟨(Lib.repeatL [48] c).toArray⟩ := ⟨_, rfl⟩
  have hRP' : Calls Tryz.prog 114 #[.string ⟨#[48]⟩, .int .i64 c] w2 fun e w' => e = .returned (.string R) ∧ Below w2.heap.size w2 w' := by rw [hR]; exact hRP
  have hRl : Hid (R.data.toList = List.replicate c 48) := by
   show R.data.toList = _
   rw [hR]
   exact repeatL_one 48 c
  have hRs : R.size = c := by
   have := congrArg List.length hRl.out
   simpa using this
  clear hR hRP e1 e2 hle
  refine hRP'.mono ?_
  rintro e w3 ⟨rfl, hb3⟩
  have HB3 := Lib.hid (HB2.out.trans (hb3.mono (by omega)))
  clear hb3 hRP'
  have hp0' : (0 : Int) < (p : Int) := by omega
  go_wp2_with fail
  have hT : Hid ((R ++ s).data.toList = List.replicate c 48 ++ s.data.toList) := by show _ = _; rw [ByteArray.data_append, Array.toList_append, hRl.out]
  have hnp : 0 ≤ (c : Int) + n - p := by omega
  have hnp2 : (c : Int) + n - p ≤ c + n := by omega
  go_region
  go_wp2_with fail
  go_ret2
  refine ⟨_, _, rfl, HC.out, ?_, by first | exact HB3.out | exact HB3.out.drew | exact HB3.out.drewN _⟩
  have hcc : p + 1 - n = c := by omega
  have hql : (R ++ s).data.toList.length = p + 1 - n + n := by rw [hT.out, List.length_append, List.length_replicate, HN.out, hcc]
  refine (point_list (R ++ s) _ _ hql).trans ?_
  rw [hT.out]
  have h1 : n ≤ p := by omega
  have h2 : 0 < p := by omega
  simp only [fixedL, HN.out, if_pos h1, if_pos h2, List.length_append, List.length_replicate, hcc]
 ·have hle' : ¬ (n : Int) ≤ (p : Int) := by omega
  by_cases hp0 : p = 0
  ·subst hp0
   go_wp2_with fail
   go_ret2
   exact ⟨s, _, rfl, HC.out, by simp [fixedL, HN.out]; omega, HB2.out⟩
  ·have hp0' : (0 : Int) < (p : Int) := by omega
   go_wp2_with fail
   have hnp : 0 ≤ (n : Int) - p := by omega
   have hnp2 : (n : Int) - p ≤ n := by omega
   go_region
   go_wp2_with fail
   go_ret2
   refine ⟨_, _, rfl, HC.out, ?_, by first | exact HB2.out | exact HB2.out.drew | exact HB2.out.drewN _⟩
   refine (point_list s (n - p) n HN.out).trans ?_
   simp only [fixedL, HN.out, if_neg hle, if_pos (Nat.pos_of_ne_zero hp0)]
end Go.Proofs.YtfdnhkjeoeffoaaGreatDoor
end

section
/- Plain: the nearest whole number to a fraction. -/
namespace Go.Proofs.YtfdnhkjeoeffoaaGreatDoor
theorem rnd_spec {x y : Nat} (hy : 0 < y) : 2 * x ≤ (2 * rnd x y + 1) * y ∧ 2 * rnd x y * y ≤ 2 * x + y := by
 have h := Nat.div_add_mod x y
 have hm := Nat.mod_lt x hy
 unfold rnd
 generalize x / y = q at *
 generalize x % y = r at *
 have e1 : (2 * (q + 1) + 1) * y = 2 * (y * q) + 3 * y := by rw [Nat.add_mul, Nat.mul_assoc, Nat.add_mul, Nat.mul_comm q y]; omega
 have e2 : 2 * (q + 1) * y = 2 * (y * q) + 2 * y := by rw [Nat.mul_assoc, Nat.add_mul, Nat.mul_comm q y]; omega
 have e3 : (2 * q + 1) * y = 2 * (y * q) + y := by rw [Nat.add_mul, Nat.mul_assoc, Nat.mul_comm q y]; omega
 have e4 : 2 * q * y = 2 * (y * q) := by rw [Nat.mul_assoc, Nat.mul_comm q y]
 split
 ·rw [e1, e2]; omega
 ·rw [e3, e4]; omega
theorem rnd_ge {x y n : Nat} (hy : 0 < y) (h : n * y ≤ x) : n ≤ rnd x y := by
 have h1 : n ≤ x / y := (Nat.le_div_iff_mul_le hy).2 h
 unfold rnd; split <;> omega
theorem rnd_le_of {x y n : Nat} (hy : 0 < y) (h : x ≤ n * y) : rnd x y ≤ n := by
 rcases Nat.lt_or_ge n (rnd x y) with h1 | h1
 ·exfalso
  have h2 := (rnd_spec (x := x) hy).2
  have h3 : 2 * (n + 1) * y ≤ 2 * rnd x y * y := Nat.mul_le_mul_right _ (Nat.mul_le_mul_left _ h1)
  have e : 2 * (n + 1) * y = 2 * (n * y) + 2 * y := by rw [Nat.mul_assoc, Nat.add_mul]; omega
  omega
 ·exact h1
theorem rnd_scale (c x y : Nat) (hc : 0 < c) : rnd (c * x) (c * y) = rnd x y := by
 unfold rnd
 rw [Nat.mul_div_mul_left _ _ hc, Nat.mul_mod_mul_left]
 have e : 2 * (c * (x % y)) = c * (2 * (x % y)) := by ac_rfl
 rw [e]
 have h1 : c * y < c * (2 * (x % y)) ↔ y < 2 * (x % y) := Nat.mul_lt_mul_left hc
 have h2 : c * (2 * (x % y)) = c * y ↔ 2 * (x % y) = y := Nat.mul_right_inj (by omega)
 simp only [h1, h2]
theorem rnd_same {x y x' y' : Nat} (hy : 0 < y) (hy' : 0 < y') (h : x * y' = x' * y) : rnd x y = rnd x' y' := by
 rw [← rnd_scale y' x y hy', ← rnd_scale y x' y' hy, Nat.mul_comm y' x, h, Nat.mul_comm x' y, Nat.mul_comm y' y]
theorem rnd_mono {x y x' y' : Nat} (hy : 0 < y) (hy' : 0 < y') (h : x * y' ≤ x' * y) : rnd x y ≤ rnd x' y' := by
 rcases Nat.lt_or_ge (rnd x' y') (rnd x y) with hlt | hge
 ·exfalso
  have h1 := (rnd_spec (x := x) hy).2
  have h2 := (rnd_spec (x := x') hy').1
  -- multiply both by the other's denominator
  have h3 : 2 * rnd x y * y * y' ≤ (2 * x + y) * y' := Nat.mul_le_mul_right _ h1
  have h4 : 2 * x' * y ≤ (2 * rnd x' y' + 1) * y' * y := Nat.mul_le_mul_right _ h2
  have h5 : (2 * rnd x' y' + 2) * (y * y') ≤ 2 * rnd x y * (y * y') := Nat.mul_le_mul_right _ (by omega)
  have e3 : 2 * rnd x y * y * y' = 2 * rnd x y * (y * y') := by rw [Nat.mul_assoc]
  have e4 : (2 * rnd x' y' + 1) * y' * y = (2 * rnd x' y' + 1) * (y * y') := by rw [Nat.mul_assoc, Nat.mul_comm y' y]
  have e5 : (2 * x + y) * y' = 2 * (x * y') + y * y' := by rw [Nat.add_mul, Nat.mul_assoc]
  have e6 : 2 * x' * y = 2 * (x' * y) := Nat.mul_assoc _ _ _
  have e7 : (2 * rnd x' y' + 2) * (y * y') = (2 * rnd x' y' + 1) * (y * y') + y * y' := by rw [← Nat.succ_mul]
  have heq : x * y' = x' * y := by omega
  have := rnd_same hy hy' heq
  omega
 ·exact hge
end Go.Proofs.YtfdnhkjeoeffoaaGreatDoor
end

section
/- Plain: a fraction times a power of ten. -/
namespace Go.Proofs.YtfdnhkjeoeffoaaGreatDoor
/-- A/B times 10^k is at least n -/
def GeT (A B : Nat) (k : Int) (n : Nat) : Prop := n * (10 ^ (-k).toNat * B) ≤ A * 10 ^ k.toNat
theorem GeT_step (A B : Nat) (k : Int) (n : Nat) : GeT A B (k + 1) (10 * n) ↔ GeT A B k n := by
 unfold GeT
 rcases (by omega : k < 0 ∨ 0 ≤ k) with h | h
 ·have e1 : (k + 1).toNat = 0 := by omega
  have e2 : k.toNat = 0 := by omega
  have e3 : (-k).toNat = (-(k + 1)).toNat + 1 := by omega
  rw [e1, e2, e3, Nat.pow_succ]
  rw [show 10 * n * (10 ^ (-(k + 1)).toNat * B) = n * (10 ^ (-(k + 1)).toNat * 10 * B) by ac_rfl]
 ·have e1 : (-(k + 1)).toNat = 0 := by omega
  have e2 : (-k).toNat = 0 := by omega
  have e3 : (k + 1).toNat = k.toNat + 1 := by omega
  rw [e1, e2, e3, Nat.pow_succ, show 10 * n * (10 ^ 0 * B) = 10 * (n * (10 ^ 0 * B)) by ac_rfl, show A * (10 ^ k.toNat * 10) = 10 * (A * 10 ^ k.toNat) by ac_rfl]
  exact Nat.mul_le_mul_left_iff (by decide)
def ratN (A B : Nat) (k : Int) : Nat := rnd (A * 10 ^ k.toNat) (10 ^ (-k).toNat * B)
theorem rat_pos {B : Nat} (hB : 0 < B) (k : Int) : 0 < 10 ^ (-k).toNat * B := Nat.mul_pos (Nat.pow_pos (by decide)) hB
theorem ratN_ge {A B n : Nat} {k : Int} (hB : 0 < B) (h : GeT A B k n) : n ≤ ratN A B k := rnd_ge (rat_pos hB k) h
theorem ratN_le {A B n : Nat} {k : Int} (hB : 0 < B) (h : ¬ GeT A B k n) : ratN A B k ≤ n := rnd_le_of (rat_pos hB k) (by unfold GeT at h; omega)
theorem rat_cross (A B : Nat) (k : Int) : A * 10 ^ (k + 1).toNat * (10 ^ (-k).toNat * B) = 10 * (A * 10 ^ k.toNat) * (10 ^ (-(k + 1)).toNat * B) := by
 rcases (by omega : k < 0 ∨ 0 ≤ k) with h | h
 ·have e1 : (k + 1).toNat = 0 := by omega
  have e2 : k.toNat = 0 := by omega
  have e3 : (-k).toNat = (-(k + 1)).toNat + 1 := by omega
  rw [e1, e2, e3, Nat.pow_succ]; ac_rfl
 ·have e1 : (-(k + 1)).toNat = 0 := by omega
  have e2 : (-k).toNat = 0 := by omega
  have e3 : (k + 1).toNat = k.toNat + 1 := by omega
  rw [e1, e2, e3, Nat.pow_succ]; ac_rfl
/-- what is rounded up to ten times n is, with one digit less, n -/
theorem ratN_carry {A B n : Nat} {k : Int} (hB : 0 < B) (h1 : ¬ GeT A B (k + 1) (10 * n)) (h2 : ratN A B (k + 1) = 10 * n) : ratN A B k = n := by
 have h3 : ¬ GeT A B k n := fun h => h1 ((GeT_step A B k n).2 h)
 have h4 := ratN_le hB h3
 rcases Nat.lt_or_ge (ratN A B k) n with hlt | hge
 ·exfalso
  have s1 := (rnd_spec (x := A * 10 ^ (k + 1).toNat) (rat_pos hB (k + 1))).2
  have s2 := (rnd_spec (x := A * 10 ^ k.toNat) (rat_pos hB k)).1
  have hc := rat_cross A B k
  have hy := rat_pos hB k
  have hy' := rat_pos hB (k + 1)
  change 2 * ratN A B (k + 1) * _ ≤ _ at s1
  change _ ≤ (2 * ratN A B k + 1) * _ at s2
  rw [h2] at s1
  generalize ratN A B k = q at *
  generalize A * 10 ^ (k + 1).toNat = x at *
  generalize A * 10 ^ k.toNat = x' at *
  generalize 10 ^ (-k).toNat * B = y' at *
  generalize 10 ^ (-(k + 1)).toNat * B = y at *
  have t1 : 2 * (10 * n) * y * y' ≤ (2 * x + y) * y' := Nat.mul_le_mul_right _ s1
  have t2 : 2 * x' * (10 * y) ≤ (2 * q + 1) * y' * (10 * y) := Nat.mul_le_mul_right _ s2
  have t3 : (2 * q + 2) * (10 * (y * y')) ≤ 2 * n * (10 * (y * y')) := Nat.mul_le_mul_right _ (by omega)
  have hP : 0 < y * y' := Nat.mul_pos hy' hy
  have a1 : 2 * (10 * n) * y * y' = 2 * n * (10 * (y * y')) := by ac_rfl
  have a2 : (2 * x + y) * y' = 2 * (x * y') + y * y' := by rw [Nat.add_mul, Nat.mul_assoc]
  have a3 : 2 * x' * (10 * y) = 2 * (10 * x' * y) := by ac_rfl
  have a4 : (2 * q + 1) * y' * (10 * y) = (2 * q + 1) * (10 * (y * y')) := by ac_rfl
  have a5 : (2 * q + 2) * (10 * (y * y')) = (2 * q + 1) * (10 * (y * y')) + 10 * (y * y') := by rw [← Nat.succ_mul]
  omega
 ·omega
end Go.Proofs.YtfdnhkjeoeffoaaGreatDoor
end

section
/- Plain: the rounds of Sci. -/
namespace Go.Proofs.YtfdnhkjeoeffoaaGreatDoor
theorem canon_len_gt {l : List UInt8} {x k : Nat} (h : Canon l x) (hx : 10 ^ k ≤ x) : k < l.length := by
 have h1 := digVal_lt h.dig
 rw [h.val] at h1
 exact (Nat.pow_lt_pow_iff_right (by decide)).1 (Nat.lt_of_le_of_lt hx h1)
theorem scaledN_rat (b : Nat) (k : Int) : scaledN b k = ratN (mant b * 2 ^ (expo b).toNat) (2 ^ (-(expo b)).toNat) k := by
 unfold scaledN ratN
 congr 1
 ac_rfl
/-- a round of Sci that does not go up has all its digits -/
theorem sci_down {A B p : Nat} {k : Int} (hB : 0 < B) (h : GeT A B k (10 ^ p) ∨ 10 ^ (p + 1) ≤ ratN A B (k + 1)) : 10 ^ p ≤ ratN A B k := by
 rcases h with h | h
 ·exact ratN_ge hB h
 ·rw [Nat.pow_succ, Nat.mul_comm] at h
  by_cases hg : GeT A B (k + 1) (10 * 10 ^ p)
  ·exact ratN_ge hB ((GeT_step A B k _).1 hg)
  ·have h1 := ratN_le hB hg
   exact Nat.le_of_eq (ratN_carry hB hg (by omega)).symm
end Go.Proofs.YtfdnhkjeoeffoaaGreatDoor
end

section
/- Plain: the first power of ten that Sci tries is low enough. -/
namespace Go.Proofs.YtfdnhkjeoeffoaaGreatDoor
open Go
def exp0 (t : Int) : Int := (t * 30103).tdiv 100000 - 2
def lowOk (i : Nat) : Bool := decide (10 ^ (exp0 ((i : Int) - 1074)).toNat * 2 ^ (-((i : Int) - 1074)).toNat ≤ 2 ^ ((i : Int) - 1074).toNat * 10 ^ (-(exp0 ((i : Int) - 1074))).toNat)
theorem lowAll : (List.range 2100).all lowOk = true := by kernel_rfl
theorem low_ok {t : Int} (h1 : -1074 ≤ t) (h2 : t ≤ 1023) : 10 ^ (exp0 t).toNat * 2 ^ (-t).toNat ≤ 2 ^ t.toNat * 10 ^ (-(exp0 t)).toNat := by
 have h := List.all_eq_true.1 lowAll (t + 1074).toNat (List.mem_range.2 (by omega))
 have e : (((t + 1074).toNat : Nat) : Int) - 1074 = t := by omega
 unfold lowOk at h
 rw [e] at h
 exact of_decide_eq_true h
end Go.Proofs.YtfdnhkjeoeffoaaGreatDoor
end

section
/- Plain: GeT along powers; where Sci starts. -/
namespace Go.Proofs.YtfdnhkjeoeffoaaGreatDoor
theorem GeT_up (A B : Nat) (k : Int) : ∀ p : Nat, GeT A B k 1 → GeT A B (k + p) (10 ^ p)
 | 0, h => by simpa using h
 | p + 1, h => by
   have h1 := GeT_up A B k p h
   have h2 := (GeT_step A B (k + p) (10 ^ p)).2 h1
   rw [show k + ((p + 1 : Nat) : Int) = k + p + 1 by omega, Nat.pow_succ, Nat.mul_comm]; exact h2
theorem sci_start {m j : Nat} {e : Int} (hm : 2 ^ j ≤ m) (h1 : -1074 ≤ (j : Int) + e) (h2 : (j : Int) + e ≤ 1023) (p : Nat) : GeT (m * 2 ^ e.toNat) (2 ^ (-e).toNat) ((p : Int) - exp0 (j + e)) (10 ^ p) := by
 have h := low_ok h1 h2
 generalize exp0 ((j : Int) + e) = x at *
 have hg : GeT (m * 2 ^ e.toNat) (2 ^ (-e).toNat) (-x) 1 := by
  unfold GeT
  rw [Int.neg_neg, Nat.one_mul]
  refine Nat.le_trans ?_ (Nat.mul_le_mul_right _ (Nat.mul_le_mul_right _ hm))
  have hk : (-e).toNat + ((j : Int) + e).toNat = j + e.toNat + (-((j : Int) + e)).toNat := by omega
  have hp : 2 ^ (-e).toNat * 2 ^ ((j : Int) + e).toNat = 2 ^ j * 2 ^ e.toNat * 2 ^ (-((j : Int) + e)).toNat := by
   rw [← Nat.pow_add, ← Nat.pow_add, ← Nat.pow_add, hk]
  have h3 := Nat.mul_le_mul_right (2 ^ (-e).toNat) h
  have hpos : 0 < 2 ^ (-((j : Int) + e)).toNat := Nat.pow_pos (by decide)
  refine Nat.le_of_mul_le_mul_right ?_ hpos
  calc 10 ^ x.toNat * 2 ^ (-e).toNat * 2 ^ (-((j : Int) + e)).toNat = 10 ^ x.toNat * 2 ^ (-((j : Int) + e)).toNat * 2 ^ (-e).toNat := by ac_rfl
   _ ≤ 2 ^ ((j : Int) + e).toNat * 10 ^ (-x).toNat * 2 ^ (-e).toNat := h3
   _ = (2 ^ (-e).toNat * 2 ^ ((j : Int) + e).toNat) * 10 ^ (-x).toNat := by ac_rfl
   _ = 2 ^ j * 2 ^ e.toNat * 10 ^ (-x).toNat * 2 ^ (-((j : Int) + e)).toNat := by rw [hp]; ac_rfl
 have h4 := GeT_up _ _ (-x) p hg
 rw [show -x + (p : Int) = (p : Int) - x by omega] at h4
 exact h4
end Go.Proofs.YtfdnhkjeoeffoaaGreatDoor
end

section
/- Plain: a power at which too few digits are asked is small. -/
namespace Go.Proofs.YtfdnhkjeoeffoaaGreatDoor
/-- a power at which p + 1 digits are not enough is small -/
theorem sci_high {A B p : Nat} {x : Int} {H : Nat} (hB : 0 < B) (hA : A < 10 ^ H * B) (h : 10 ^ (p + 1) ≤ ratN A B (p - x)) : x < H := by
 rcases Int.lt_or_le x H with hx | hx
 ·exact hx
 ·exfalso
  have hlt : ¬ GeT A B (p - x) (10 ^ p) := by
   unfold GeT
   rw [Nat.not_le]
   have h1 : A * 10 ^ ((p : Int) - x).toNat < 10 ^ H * B * 10 ^ ((p : Int) - x).toNat := Nat.mul_lt_mul_of_pos_right hA (Nat.pow_pos (by decide))
   have h2 : 10 ^ H * B * 10 ^ ((p : Int) - x).toNat ≤ 10 ^ p * (10 ^ (-((p : Int) - x)).toNat * B) := by
    have e1 : 10 ^ H * B * 10 ^ ((p : Int) - x).toNat = 10 ^ (H + ((p : Int) - x).toNat) * B := by rw [Nat.pow_add, Nat.mul_right_comm]
    have e2 : 10 ^ p * (10 ^ (-((p : Int) - x)).toNat * B) = 10 ^ (p + (-((p : Int) - x)).toNat) * B := by rw [Nat.pow_add, Nat.mul_assoc]
    rw [e1, e2]
    exact Nat.mul_le_mul_right _ (Nat.pow_le_pow_right (by decide) (by omega))
   omega
  have h3 := ratN_le hB hlt
  have h4 : (10 : Nat) ^ p < 10 ^ (p + 1) := Nat.pow_lt_pow_right (by decide) (by omega)
  omega
theorem ten309 {i : Nat} (h : 0 < i) : (2 : Nat) ^ (83 * i + 29) < 10 ^ (25 * i + 9) * 1 := by
 rw [Nat.pow_add 2, Nat.pow_add 10, Nat.pow_mul 2, Nat.pow_mul 10, Nat.mul_one]
 exact Nat.mul_lt_mul_of_lt_of_lt (Nat.pow_lt_pow_left (by decide) (by omega)) (by decide)
theorem fin_lt {m j i : Nat} (k : Nat) (hm : m < 2 ^ 53) (hj : 53 + j ≤ 83 * i + 29) (hi : 0 < i) : m * 2 ^ j < 10 ^ (25 * i + 9) * 2 ^ k := by
 have h1 : m * 2 ^ j ≤ 2 ^ 53 * 2 ^ j := Nat.mul_le_mul_right _ (Nat.le_of_lt hm)
 rw [← Nat.pow_add] at h1
 have h2 := p2_le hj
 have h3 : 10 ^ (25 * i + 9) * 1 ≤ 10 ^ (25 * i + 9) * 2 ^ k := Nat.mul_le_mul_left _ (Nat.pow_pos (by decide))
 exact Nat.lt_of_le_of_lt h1 (Nat.lt_of_le_of_lt h2 (Nat.lt_of_lt_of_le (ten309 hi) h3))
theorem exp0_bounds {t : Int} (h1 : -1074 ≤ t) (h2 : t ≤ 1023) : -325 ≤ exp0 t ∧ exp0 t ≤ 306 := by
 unfold exp0
 rcases Int.lt_or_le t 0 with h | h
 ·have e : (t * 30103).tdiv 100000 = -((-t * 30103).tdiv 100000) := by rw [← Int.neg_tdiv]; congr 1; omega
  rw [e, Int.tdiv_eq_ediv_of_nonneg (by omega)]
  omega
 ·rw [Int.tdiv_eq_ediv_of_nonneg (by omega)]
  omega
theorem nbits_pos {m : Nat} (h : 0 < m) : 2 ^ (nbits m - 1) ≤ m ∧ 0 < nbits m := by
 have h2 : nbits m ≠ 0 := fun h3 => by have := nbits_le.1 (Nat.le_of_eq h3); simp at this; omega
 refine ⟨?_, by omega⟩
 rcases Nat.lt_or_ge m (2 ^ (nbits m - 1)) with h1 | h1
 ·have := nbits_le.2 h1; omega
 ·exact h1
end Go.Proofs.YtfdnhkjeoeffoaaGreatDoor
end

section
/- Plain: the nearest float, in steps of the least one; greater numbers, greater floats. -/
namespace Go.Proofs.YtfdnhkjeoeffoaaGreatDoor
/-- the step of the float that is nearest to X/y (in steps of the least float) -/
structure Step (X y j : Nat) : Prop where
 lt : X < 2 ^ 53 * (2 ^ j * y)
 ge : j = 0 ∨ 2 ^ 52 * (2 ^ j * y) ≤ X
/-- its bits -/
def nb (X y j : Nat) : Nat := min (j * 2 ^ 52 + rnd X (2 ^ j * y)) 9218868437227405312
/-- the least float's share of one -/
def bias : Nat := 1074
def kk : Nat := 2 ^ bias
theorem pow2_gen {E : Int} {K : Nat} {k : Int} (hk : (K : Int) = k) (h : -k ≤ E) : 2 ^ (-E).toNat * 2 ^ (E + k).toNat = 2 ^ K * 2 ^ E.toNat := by
 rw [← Nat.pow_add, ← Nat.pow_add]
 exact congrArg (2 ^ ·) (by omega)
theorem pow2_gen1 {E : Int} {K : Nat} {k : Int} (hk : (K : Int) = k) (h : 1 - k ≤ E) : 2 ^ (-(E - 1)).toNat * 2 ^ (E + k).toNat = 2 * (2 ^ K * 2 ^ (E - 1).toNat) := by
 rw [← Nat.pow_add, ← Nat.pow_add, Nat.mul_comm 2, ← Nat.pow_succ]
 exact congrArg (2 ^ ·) (by omega)
theorem pow2_int {E : Int} (h : -1074 ≤ E) : 2 ^ (-E).toNat * 2 ^ (E + 1074).toNat = kk * 2 ^ E.toNat := pow2_gen (K := bias) (k := 1074) rfl h
theorem two53 : (2 : Nat) ^ 53 = 2 ^ 52 * 2 := by decide
theorem pow2_pos (k : Nat) : 0 < 2 ^ k := Nat.pow_pos (by decide)
theorem step_of_least {x y : Nat} {E : Int} (hx : 0 < x) (hy : 0 < y) (h : LeastE x y E) : -1074 ≤ E ∧ Step (x * kk) y (E + 1074).toNat := by
 have hge := h.ge
 have h1074 : -1074 ≤ E := by unfold e0 at hge; omega
 refine ⟨h1074, ?_, ?_⟩
 ·have h1 := nbits_le.1 h.bits
  unfold qat at h1
  rw [Nat.div_lt_iff_lt_mul (Nat.mul_pos hy (pow2_pos _))] at h1
  have h2 := pow2_int h1074
  have h3 := Nat.mul_lt_mul_of_pos_right h1 (pow2_pos (E + 1074).toNat)
  have e1 : x * 2 ^ (-E).toNat * 2 ^ (E + 1074).toNat = x * kk * 2 ^ E.toNat := by rw [Nat.mul_assoc, h2, Nat.mul_assoc]
  have e2 : 2 ^ 53 * (y * 2 ^ E.toNat) * 2 ^ (E + 1074).toNat = 2 ^ 53 * (2 ^ (E + 1074).toNat * y) * 2 ^ E.toNat := by ac_rfl
  rw [e1, e2] at h3
  exact Nat.lt_of_mul_lt_mul_right h3
 ·rcases Nat.eq_zero_or_pos (E + 1074).toNat with h0 | h0
  ·exact .inl h0
  ·refine .inr ?_
   -- one step lower there is no room
   have hlow : 2 ^ 53 * (y * 2 ^ (E - 1).toNat) ≤ x * 2 ^ (-(E - 1)).toNat := by
    by_cases hE : e0 x y ≤ E - 1
    ·have h1 := h.least (E - 1) hE (by omega)
     have h2 : 2 ^ 53 ≤ qat x y (E - 1) := by
      rcases Nat.lt_or_ge (qat x y (E - 1)) (2 ^ 53) with h3 | h3
      ·exact absurd (nbits_le.2 h3) h1
      ·exact h3
     unfold qat at h2
     exact (Nat.le_div_iff_mul_le (Nat.mul_pos hy (pow2_pos _))).1 h2
    ·exfalso
     have hEe : E = (nbits x : Int) - nbits y - 54 := by unfold e0 at hge hE; omega
     have hxb := (nbits_pos hx)
     have hyb := nbits_le.1 (Nat.le_refl (nbits y))
     have h1 := nbits_le.1 h.bits
     unfold qat at h1
     rw [Nat.div_lt_iff_lt_mul (Nat.mul_pos hy (pow2_pos _))] at h1
     have h2 : 2 ^ (nbits x - 1) * 2 ^ (-E).toNat ≤ x * 2 ^ (-E).toNat := Nat.mul_le_mul_right _ hxb.1
     have h3 : 2 ^ 53 * (y * 2 ^ E.toNat) < 2 ^ 53 * (2 ^ nbits y * 2 ^ E.toNat) := Nat.mul_lt_mul_of_pos_left (Nat.mul_lt_mul_of_pos_right hyb (pow2_pos _)) (pow2_pos _)
     have h4 : 2 ^ 53 * (2 ^ nbits y * 2 ^ E.toNat) ≤ 2 ^ (nbits x - 1) * 2 ^ (-E).toNat := by
      rw [← Nat.pow_add, ← Nat.pow_add, ← Nat.pow_add]
      exact Nat.pow_le_pow_right (by decide) (by omega)
     omega
   have h2 : 2 ^ (-(E - 1)).toNat * 2 ^ (E + 1074).toNat = 2 * (kk * 2 ^ (E - 1).toNat) := by exact pow2_gen1 (K := bias) (k := 1074) rfl (by omega)
   have h3 := Nat.mul_le_mul_right (2 ^ (E + 1074).toNat) hlow
   have e1 : x * 2 ^ (-(E - 1)).toNat * 2 ^ (E + 1074).toNat = x * kk * (2 * 2 ^ (E - 1).toNat) := by rw [Nat.mul_assoc, h2, Nat.mul_left_comm 2 kk, Nat.mul_assoc]
   have e2 : 2 ^ 53 * (y * 2 ^ (E - 1).toNat) * 2 ^ (E + 1074).toNat = 2 ^ 52 * (2 ^ (E + 1074).toNat * y) * (2 * 2 ^ (E - 1).toNat) := by rw [two53]; generalize (2 : Nat) ^ 52 = c; ac_rfl
   rw [e1, e2] at h3
   exact Nat.le_of_mul_le_mul_right h3 (Nat.mul_pos (by decide) (pow2_pos _))
theorem nearBits_nb {x y : Nat} {E : Int} (hy : 0 < y) (h : -1074 ≤ E) : nearBits x y E = nb (x * kk) y (E + 1074).toNat := by
 unfold nearBits nb
 refine congrArg (fun n => min ((E + 1074).toNat * 2 ^ 52 + n) 9218868437227405312) ?_
 refine rnd_same (Nat.mul_pos hy (pow2_pos _)) (Nat.mul_pos (pow2_pos _) hy) ?_
 have h2 := pow2_int h
 calc x * 2 ^ (-E).toNat * (2 ^ (E + 1074).toNat * y) = x * (2 ^ (-E).toNat * 2 ^ (E + 1074).toNat) * y := by ac_rfl
  _ = x * kk * (y * 2 ^ E.toNat) := by rw [h2]; generalize kk = K; ac_rfl
theorem step_le {X y j X' y' j' : Nat} (hy : 0 < y) (_ : 0 < y') (h : Step X y j) (h' : Step X' y' j') (hX : X * y' ≤ X' * y) : j ≤ j' := by
 rcases Nat.lt_or_ge j' j with hlt | hge
 ·exfalso
  have h1 : 2 ^ 52 * (2 ^ j * y) ≤ X := by
   rcases h.ge with h0 | h0
   ·omega
   ·exact h0
  have h2 := h'.lt
  have h3 : 2 ^ 53 * (2 ^ j' * y') ≤ 2 ^ 52 * (2 ^ j * y') := by
   have e1 : 2 ^ 53 * (2 ^ j' * y') = 2 ^ 52 * (2 ^ (j' + 1) * y') := by rw [two53, Nat.pow_succ 2 j']; generalize (2 : Nat) ^ 52 = c; ac_rfl
   rw [e1]
   exact Nat.mul_le_mul_left _ (Nat.mul_le_mul_right _ (Nat.pow_le_pow_right (by decide) hlt))
  have h4 : 2 ^ 52 * (2 ^ j * y) * y' ≤ X * y' := Nat.mul_le_mul_right _ h1
  have h5 : X' * y < 2 ^ 52 * (2 ^ j * y') * y := Nat.mul_lt_mul_of_pos_right (Nat.lt_of_lt_of_le h2 h3) hy
  have e6 : 2 ^ 52 * (2 ^ j * y) * y' = 2 ^ 52 * (2 ^ j * y') * y := by ac_rfl
  omega
 ·exact hge
theorem step_rnd_le {X y j : Nat} (hy : 0 < y) (h : Step X y j) : rnd X (2 ^ j * y) ≤ 2 ^ 53 := rnd_le_of (Nat.mul_pos (pow2_pos _) hy) (Nat.le_of_lt h.lt)
/-- a greater number has no lesser float -/
theorem nb_mono {X y j X' y' j' : Nat} (hy : 0 < y) (hy' : 0 < y') (h : Step X y j) (h' : Step X' y' j') (hX : X * y' ≤ X' * y) : nb X y j ≤ nb X' y' j' := by
 have hj := step_le hy hy' h h' hX
 have h1 := step_rnd_le hy h
 unfold nb
 rcases Nat.eq_or_lt_of_le hj with he | hlt
 ·subst he
  have h2 := rnd_mono (x := X) (y := 2 ^ j * y) (x' := X') (y' := 2 ^ j * y') (Nat.mul_pos (pow2_pos _) hy) (Nat.mul_pos (pow2_pos _) hy') (by
   have e1 : X * (2 ^ j * y') = 2 ^ j * (X * y') := by ac_rfl
   have e2 : X' * (2 ^ j * y) = 2 ^ j * (X' * y) := by ac_rfl
   rw [e1, e2]; exact Nat.mul_le_mul_left _ hX)
  omega
 ·have h3 : 2 ^ 52 ≤ rnd X' (2 ^ j' * y') := by
   rcases h'.ge with h0 | h0
   ·omega
   ·exact rnd_ge (Nat.mul_pos (pow2_pos _) hy') h0
  have h4 : (j + 1) * 2 ^ 52 ≤ j' * 2 ^ 52 := Nat.mul_le_mul_right _ hlt
  have e5 : (2 : Nat) ^ 53 = 2 ^ 52 + 2 ^ 52 := by decide
  rw [Nat.add_mul] at h4
  omega
theorem step_same {X y j X' y' j' : Nat} (hy : 0 < y) (hy' : 0 < y') (h : Step X y j) (h' : Step X' y' j') (hX : X * y' = X' * y) : nb X y j = nb X' y' j' :=
 Nat.le_antisymm (nb_mono hy hy' h h' (Nat.le_of_eq hX)) (nb_mono hy' hy h' h (Nat.le_of_eq hX.symm))
end Go.Proofs.YtfdnhkjeoeffoaaGreatDoor
end

section
/- Plain: the floats themselves, and numbers near to them. -/
namespace Go.Proofs.YtfdnhkjeoeffoaaGreatDoor
/-- the float's steps -/
def jof (b : Nat) : Nat := b / 2 ^ 52 - 1
/-- the float's whole number of steps -/
def mof (b : Nat) : Nat := if b / 2 ^ 52 = 0 then b else b % 2 ^ 52 + 2 ^ 52
theorem bits_parts (b : Nat) : b = jof b * 2 ^ 52 + mof b := by unfold jof mof; split <;> omega
theorem mof_lt (b : Nat) : mof b < 2 ^ 53 := by unfold mof; split <;> omega
theorem mof_ge (b : Nat) : jof b = 0 ∨ 2 ^ 52 ≤ mof b := by unfold jof mof; split <;> omega
end Go.Proofs.YtfdnhkjeoeffoaaGreatDoor
end

section
/- Plain: the nearest float as a function; the bounds of what is read. -/
namespace Go.Proofs.YtfdnhkjeoeffoaaGreatDoor
open Go
/-- the step, reckoned -/
def stepOf (X y : Nat) : Nat := nbits (X / y) - 53
theorem stepOf_step (X : Nat) {y : Nat} (hy : 0 < y) : Step X y (stepOf X y) := by
 have h1 := nbits_le.1 (Nat.le_refl (nbits (X / y)))
 refine ⟨?_, ?_⟩
 ·rw [Nat.div_lt_iff_lt_mul hy] at h1
  refine Nat.lt_of_lt_of_le h1 ?_
  rw [← Nat.mul_assoc, ← Nat.pow_add]
  exact Nat.mul_le_mul_right _ (Nat.pow_le_pow_right (by decide) (by unfold stepOf; omega))
 ·rcases Nat.eq_zero_or_pos (stepOf X y) with h | h
  ·exact .inl h
  ·refine .inr ?_
   unfold stepOf at h
   have hq : 0 < X / y := by
    rcases Nat.eq_zero_or_pos (X / y) with h2 | h2
    ·rw [h2] at h; have : nbits 0 = 0 := by decide
     omega
    ·exact h2
   have h2 := (nbits_pos hq).1
   rw [Nat.le_div_iff_mul_le hy] at h2
   refine Nat.le_trans ?_ h2
   rw [← Nat.mul_assoc, ← Nat.pow_add]
   exact Nat.mul_le_mul_right _ (Nat.pow_le_pow_right (by decide) (by unfold stepOf; omega))
/-- the bits of the float nearest to x/y -/
def near (x y : Nat) : Nat := nb (x * kk) y (stepOf (x * kk) y)
theorem nearBits_near {x y : Nat} {E : Int} (hx : 0 < x) (hy : 0 < y) (h : LeastE x y E) : nearBits x y E = near x y := by
 obtain ⟨h1, h2⟩ := step_of_least hx hy h
 rw [nearBits_nb hy h1]
 exact step_same hy hy h2 (stepOf_step _ hy) rfl
theorem near_le (x y : Nat) : near x y ≤ 9218868437227405312 := Nat.min_le_right _ _
theorem pow10_lt (j : Nat) : (10 : Nat) ^ j < 2 ^ (4 * j + 1) := by
 have h1 : (10 : Nat) ^ j ≤ 16 ^ j := Nat.pow_le_pow_left (by decide) j
 have h2 : (16 : Nat) ^ j = 2 ^ (4 * j) := by rw [show (16 : Nat) = 2 ^ 4 by decide, ← Nat.pow_mul]
 have h3 : (2 : Nat) ^ (4 * j) < 2 ^ (4 * j + 1) := Nat.pow_lt_pow_right (by decide) (by omega)
 omega
theorem read_x {D n : Nat} {e : Int} (hD : D < 10 ^ n) (hn : n ≤ 1024) (h1 : n + e ≤ 310) : nbits (D * 10 ^ e.toNat) ≤ 4100 := by
 have h2 : D * 10 ^ e.toNat < 10 ^ n * 10 ^ e.toNat := Nat.mul_lt_mul_of_pos_right hD (Nat.pow_pos (by decide))
 rw [← Nat.pow_add] at h2
 have h4 : nbits (D * 10 ^ e.toNat) ≤ 4 * (n + e.toNat) + 1 := nbits_le.2 (Nat.lt_trans h2 (pow10_lt _))
 omega
theorem read_pow {j : Nat} (h : j ≤ 1400) : nbits (10 ^ j) ≤ 5700 := by
 have h4 : nbits (10 ^ j) ≤ 4 * j + 1 := nbits_le.2 (pow10_lt j)
 omega
theorem read_d {D n : Nat} (hD : D < 10 ^ n) (hn : n ≤ 1024) : nbits D ≤ 4100 := by
 have h4 : nbits D ≤ 4 * n + 1 := nbits_le.2 (Nat.lt_trans hD (pow10_lt n))
 omega
theorem read_gen {D n u v : Nat} {e : Int} (ht : 10 ^ u < 2 ^ v) (hD : D < 10 ^ n) (h1 : n + e ≤ u) : nbits (D * 10 ^ e.toNat) ≤ v + nbits (10 ^ (-e).toNat) := by
 have h2 : D * 10 ^ e.toNat < 10 ^ n * 10 ^ e.toNat := Nat.mul_lt_mul_of_pos_right hD (Nat.pow_pos (by decide))
 rw [← Nat.pow_add] at h2
 have h3 : (10 : Nat) ^ (n + e.toNat) ≤ 10 ^ (u + (-e).toNat) := p10_le (by omega)
 rw [Nat.pow_add 10 u] at h3
 have h4 := nbits_le.1 (Nat.le_refl (nbits (10 ^ (-e).toNat)))
 have h5 := Nat.mul_lt_mul_of_lt_of_lt ht h4
 rw [← Nat.pow_add 2] at h5
 exact nbits_le.2 (Nat.lt_trans h2 (Nat.lt_of_le_of_lt h3 h5))
theorem read_v {D n : Nat} {e : Int} (hD : D < 10 ^ n) (h1 : n + e ≤ 310) : (nbits (D * 10 ^ e.toNat) : Int) - nbits (10 ^ (-e).toNat) ≤ 1100 := by
 have h := read_gen (u := 31 * 10) (v := 103 * 10) (tens (i := 10) (by decide)) hD (e := e) (by omega)
 omega
/-- the digits without the noughts ahead -/
def bare (l : List UInt8) : List UInt8 := l.dropWhile (· == 48)
/-- what Read answers for digits -/
def readB (l : List UInt8) (e : Int) : Nat :=
 if (bare l).length = 0 ∨ e < -4000 then 0
 else if 2000 < e ∨ 310 < (bare l).length + e then 9218868437227405312
 else if (bare l).length + e < -330 then 0
 else near (digVal (bare l) * 10 ^ e.toNat) (10 ^ (-e).toNat)
theorem bare_digits {l : List UInt8} (h : Digits l) : Digits (bare l) := fun c hc => h c ((List.dropWhile_sublist _).subset hc)
theorem bare_length (l : List UInt8) : (bare l).length ≤ l.length := (List.dropWhile_sublist _).length_le
theorem dw_head (p : UInt8 → Bool) : ∀ (l : List UInt8) (x : UInt8) (r : List UInt8), l.dropWhile p = x :: r → p x = false
 | [], x, r, h => by simp at h
 | c :: l, x, r, h => by
   rw [List.dropWhile_cons] at h
   by_cases hc : p c = true
   ·rw [if_pos hc] at h; exact dw_head p l x r h
   ·rw [if_neg hc] at h
    have : c = x := by injection h
    subst this
    simpa using hc
theorem dw_all (p : UInt8 → Bool) : ∀ l : List UInt8, (∀ x ∈ l, p x = true) → l.dropWhile p = []
 | [], _ => rfl
 | c :: r, h => by rw [List.dropWhile_cons, if_pos (h c (by simp))]; exact dw_all p r fun x hx => h x (by simp [hx])
def digs : List UInt8 := [48, 49, 50, 51, 52, 53, 54, 55, 56, 57]
set_option maxRecDepth 100000 in
theorem digs_iff (c : UInt8) : digs.contains c = true ↔ 48 ≤ c.toNat ∧ c.toNat ≤ 57 := by
 have h : ∀ c : Fin 256, (digs.contains (UInt8.ofNat c.1) = true) ↔ 48 ≤ c.1 ∧ c.1 ≤ 57 := by decide
 have h2 := h ⟨c.toNat, c.toNat_lt⟩
 simpa using h2
theorem trimS_digits {l : List UInt8} (h : Digits l) : Lib.trimS l digs = [] := by
 have h1 : Lib.trimRightS l digs = [] := by
  unfold Lib.trimRightS
  rw [dw_all _ l.reverse (fun x hx => (digs_iff x).2 (h x (by simpa using hx)))]
  rfl
 unfold Lib.trimS
 rw [h1]; rfl
theorem bare_pos {l : List UInt8} (h : Digits l) (hn : (bare l).length ≠ 0) : 0 < digVal (bare l) := by
 have hd := bare_digits h
 cases h1 : bare l with
 | nil => rw [h1] at hn; simp at hn
 | cons c r =>
   have h2 := dw_head _ _ _ _ h1
   rw [h1] at hd
   have h3 := hd c (by simp)
   have h4 : c.toNat ≠ 48 := fun h5 => by
    have : c = 48 := UInt8.toNat_inj.1 h5
    rw [this] at h2; simp at h2
   rw [digVal_cons]
   have h5 : 1 * 10 ^ r.length ≤ (c.toNat - 48) * 10 ^ r.length := Nat.mul_le_mul_right _ (by omega)
   have h6 : 0 < 10 ^ r.length := Nat.pow_pos (by decide)
   omega
end Go.Proofs.YtfdnhkjeoeffoaaGreatDoor
end

section
/- Package dec: Sci. -/
namespace Go.Proofs.YtfdnhkjeoeffoaaGreatDoor
open Go.RowKit
set_option linter.unusedVariables false
set_option maxRecDepth 100000 in
set_option maxHeartbeats 2000000 in
theorem Sci_zero (b : Nat) (p : Nat) (w : World) (hb : b < 18446744073709551616) (hf : fin b = true) (hp : p ≤ 200) (hm : mant b = 0) :
 Calls Tryz.prog 195 #[.float .f64 b, .int .i64 p] w fun e w' => ∃ s : ByteArray, e = .returned (.tuple #[.string s, .int .i64 0, .int .i64 0]) ∧ s.data.toList = List.replicate (p + 1) 48 ∧ Below w.heap.size w w' := by
 have HP := Lib.hid (Parts_any b w hb)
 rw [hf, hm] at HP
 generalize expo b = x at *
 clear hb hf hm
 have hpi : (p : Int) ≤ 200 := by omega
 have HRP := Lib.hid (Tryz.strings_Repeat ⟨#[48]⟩ (p + 1) w (by omega) (by show 1 * (p + 1) ≤ _; omega))
 go_enter Tryz.func195, Tryz.ntmps195
 go_wp2_with fail
 refine HP.out.mono ?_
 rintro e w1 ⟨rfl, rfl⟩
 clear HP
 go_wp2_with fail
 refine HRP.out.mono ?_
 rintro e w3 ⟨rfl, hb3⟩
 have HB3 := Lib.hid hb3
 clear hb3
 have hR : Hid ((ByteArray.mk (Lib.repeatL [48] (p + 1)).toArray).data.toList = List.replicate (p + 1) 48) := repeatL_one 48 (p + 1)
 obtain ⟨R, hR2⟩ : ∃ R : ByteArray, R = ⟨(Lib.repeatL [48] (p + 1)).toArray⟩ := ⟨_, rfl⟩
 rw [← hR2] at hR
 clear HRP
 go_wp2_with fail
 go_ret3
 exact ⟨_, rfl, repeatL_one 48 (p + 1), HB3.out⟩
end Go.Proofs.YtfdnhkjeoeffoaaGreatDoor
end

section
/- Package dec: Sci, the loop. -/
namespace Go.Proofs.YtfdnhkjeoeffoaaGreatDoor
open Go.RowKit
set_option linter.unusedVariables false
/-- what Sci answers: the digits and the power of ten: the least one from the start on at which p + 1 digits are enough -/
structure SciAt (b p : Nat) (x : Int) : Prop where
 ge : 10 ^ p ≤ scaledN b (p - x)
 lt : scaledN b (p - x) < 10 ^ (p + 1)
 least : ∃ y0, y0 ≤ x ∧ GeT (mant b * 2 ^ (expo b).toNat) (2 ^ (-(expo b)).toNat) (p - y0) (10 ^ p) ∧ ∀ y, y0 ≤ y → y < x → 10 ^ (p + 1) ≤ scaledN b (p - y)
theorem canon_ne_zero {l : List UInt8} {x : Nat} (h : Canon l x) (hx : 0 < x) : l ≠ [48] := by
 intro hl
 have h1 := h.val
 rw [hl] at h1
 have h2 : digVal [48] = 0 := by decide
 omega
set_option maxRecDepth 100000 in
set_option maxHeartbeats 4000000 in
theorem Sci_loop (b : Nat) (p : Nat) (w : World) (hb : b < 18446744073709551616) (hf : fin b = true) (hp : p ≤ 200) (hm : 0 < mant b) :
 Calls Tryz.prog 195 #[.float .f64 b, .int .i64 p] w fun e w' => ∃ (s : ByteArray) (x : Int), e = .returned (.tuple #[.string s, .int .i64 x, .int .i64 0]) ∧ Canon s.data.toList (scaledN b (p - x)) ∧ s.data.toList.length = p + 1 ∧ SciAt b p x ∧ -325 ≤ x ∧ x ≤ 309 ∧ Below w.heap.size w w' := by
 have HP := Lib.hid (Parts_any b w hb)
 rw [hf] at HP
 have hm1 := mant_lt b
 have he := expo_bounds (b := b)
 obtain ⟨hm2, hm3⟩ := nbits_pos hm
 have hm4 : nbits (mant b) ≤ 53 := nbits_le.2 (by rw [show (2 : Nat) ^ 53 = 9007199254740992 by decide]; exact hm1)
 obtain ⟨t, ht⟩ : ∃ t : Int, t = (nbits (mant b) : Int) - 1 + expo b := ⟨_, rfl⟩
 obtain ⟨x0, hx0⟩ : ∃ x0 : Int, x0 = exp0 t := ⟨_, rfl⟩
 have hx0' : (t * 30103).tdiv 100000 - 2 = x0 := hx0.symm
 have hx1 : -325 ≤ x0 := by rw [hx0]; exact (exp0_bounds (by omega) (by omega)).1
 have hx2 : x0 ≤ 306 := by rw [hx0]; exact (exp0_bounds (by omega) (by omega)).2
 have hB : 0 < 2 ^ (-(expo b)).toNat := Nat.pow_pos (by decide)
 have hA := fin_lt (m := mant b) (j := (expo b).toNat) (i := 12) (-(expo b)).toNat (by rw [show (2 : Nat) ^ 53 = 9007199254740992 by decide]; exact hm1) (by omega) (by decide)
 have hst : GeT (mant b * 2 ^ (expo b).toNat) (2 ^ (-(expo b)).toNat) ((p : Int) - x0) (10 ^ p) := by
  have h := sci_start hm2 (e := expo b) (by omega) (by omega) p
  rw [show ((nbits (mant b) - 1 : Nat) : Int) + expo b = t by omega, ← hx0] at h
  exact h
 have HX : Hid (∀ x : Int, x0 ≤ x → (∀ y, x0 ≤ y → y < x → 10 ^ (p + 1) ≤ scaledN b (p - y)) → x ≤ 309) := by
  intro x h1 h2
  rcases Int.lt_or_le x0 x with h | h
  ·have h3 := h2 (x - 1) (by omega) (by omega)
   rw [scaledN_rat] at h3
   have := sci_high (H := 25 * 12 + 9) hB hA h3
   omega
  ·omega
 have HRD : Hid (∀ (x : Int) (l : List UInt8), x0 ≤ x → (∀ y, x0 ≤ y → y < x → 10 ^ (p + 1) ≤ scaledN b (p - y)) → Canon l (scaledN b (p - x)) →
  (p + 1 < l.length ∧ 10 ^ (p + 1) ≤ scaledN b (p - x)) ∨ (l.length = p + 1 ∧ l ≠ [48] ∧ SciAt b p x)) := by
  intro x l h1 h2 hc
  rcases Nat.lt_or_ge (scaledN b (p - x)) (10 ^ (p + 1)) with h | h
  ·have h3 : 10 ^ p ≤ scaledN b (p - x) := by
    rw [scaledN_rat]
    refine sci_down hB ?_
    rcases Int.lt_or_le x0 x with h4 | h4
    ·refine .inr ?_
     have h5 := h2 (x - 1) (by omega) (by omega)
     rw [scaledN_rat] at h5
     rwa [show (p : Int) - x + 1 = p - (x - 1) by omega]
    ·refine .inl ?_
     rwa [show x = x0 by omega]
   refine .inr ⟨Nat.le_antisymm (canon_len hc h (by omega)) (canon_len_gt hc h3), canon_ne_zero hc (Nat.lt_of_lt_of_le (Nat.pow_pos (by decide)) h3), h3, h, x0, h1, hst, h2⟩
  ·exact .inl ⟨canon_len_gt hc h, h⟩
 have HS : Hid (∀ (x : Int) (W : World), x0 ≤ x → x ≤ 309 → Calls Tryz.prog 113 #[.int .u64 (mant b : Nat), .int .i64 (expo b), .int .i64 (p - x)] W fun r w' => ∃ v, r = .returned v ∧ NatV w' v (scaledN b (p - x)) ∧ Below W.heap.size W w') :=
  fun x W h1 h2 => scaled_b b (p - x) W (by omega) (by omega)
 have HT : Hid (∀ (x : Int) (W : World) (v : Value), x0 ≤ x → x ≤ 309 → NatV W v (scaledN b (p - x)) → Calls Tryz.prog 112 #[v] W fun e w' => ∃ s : ByteArray, e = .returned (.tuple #[.string s, .int .i64 0]) ∧ Canon s.data.toList (scaledN b (p - x)) ∧ s.data.toList.length ≤ 4001 ∧ Below W.heap.size W w') :=
  fun x W v h1 h2 h => text_b (by omega) (by omega) h
 have HF := Lib.hid (fun W => FromV (mant b) _ rfl (by omega) W)
 have HBT : Hid (∀ (v : Value) (W : World), NatV W v (mant b) → Calls Tryz.prog 244 #[v] W fun r W' => r = .returned (.int .i64 (nbits (mant b) : Nat)) ∧ W = W') :=
  fun v W h => Bits_V v _ W h (limbs_of_bits (by omega))
 have hm0 : (mant b : Int) ≠ 0 := by omega
 generalize scaledN b = N at *
 generalize nbits (mant b) = nm at *
 generalize mant b = m at *
 generalize expo b = x at *
 clear hb hf hB hA hst hx0 hm hm2
 have hpi : (p : Int) ≤ 200 := by omega
 go_enter Tryz.func195, Tryz.ntmps195
 go_wp2_with fail
 refine HP.out.mono ?_
 rintro e w1 ⟨rfl, rfl⟩
 clear HP
 go_wp2_with fail
 refine (HF.out w).mono ?_
 rintro e w1 ⟨v1, rfl, hn1, hb1⟩
 have HBT1 := Lib.hid (HBT.out v1 w1 hn1)
 have HB1 := Lib.hid hb1
 have hs1 := hb1.size
 clear hn1 hb1 HBT HF
 go_wp2_with fail
 refine HBT1.out.mono ?_
 rintro e w2 ⟨rfl, rfl⟩
 clear HBT1
 have et : (nm : Int) - 1 + x = t := ht.symm
 clear ht
 have het : (t * 30103).tdiv 100000 = x0 + 2 := by omega
 go_wp2_with fail
 go_loopw [10] (fun ev wr => ∃ (y : Int), x0 ≤ y ∧ y ≤ 309 ∧ ev = .int .i64 y ∧ Below w.heap.size w wr ∧ w.heap.size ≤ wr.heap.size ∧ ∀ z, x0 ≤ z → z < y → 10 ^ (p + 1) ≤ N (p - z)) (fun ev _ => (400 - intOf ev).toNat)
 case atStart =>
  refine ⟨x0, Int.le_refl _, by omega, ?_, HB1.out, hs1, fun z h1 h2 => by omega⟩
  first | rfl | (congr 1; omega)
 case round =>
  obtain ⟨y, hy1, hy2, rfl, hbw, hsw, hl⟩ := hrel
  have HB := Lib.hid hbw; have HL := Lib.hid hl
  clear hbw hl HB1 het et
  have hc1 : x0 ≤ y := hy1
  go_wp2_with fail
  refine (HS.out y wr hy1 hy2).mono ?_
  rintro e w3 ⟨v3, rfl, hn3, hb3⟩
  have HT3 := Lib.hid (HT.out y w3 v3 hy1 hy2 hn3)
  have HB3 := Lib.hid (HB.out.trans (hb3.mono hsw))
  have hs3 := hb3.size
  clear hn3 hb3 HB
  go_wp2_with fail
  refine HT3.out.mono ?_
  rintro e w4 ⟨s, rfl, hc, hl4, hb4⟩
  have HB4 := Lib.hid (HB3.out.trans (hb4.mono (by omega)))
  have hs4 := hb4.size
  have HC := Lib.hid hc
  have hR := HRD.out y s.data.toList hy1 HL.out hc
  have hsz : s.size = s.data.toList.length := by simp
  obtain ⟨n, hn⟩ : ∃ n, n = s.size := ⟨_, rfl⟩
  rw [← hsz, ← hn] at hR hl4
  have hn1 : s.size = n := hn.symm
  clear hc hb4 HB3 HT3 hsz hn
  rcases hR with ⟨h1, h2⟩ | ⟨h1, h2, h3⟩
  ·have h1' : (p : Int) + 1 < (n : Int) := by omega
   have HG := Lib.hid h2
   clear h2 h1
   have HL2 : Hid (∀ z, x0 ≤ z → z < y + 1 → 10 ^ (p + 1) ≤ N (p - z)) := by
    intro z hz1 hz2
    rcases Int.lt_or_le z y with h | h
    ·exact HL.out z hz1 h
    ·rw [show z = y by omega]; exact HG.out
   have hy3 : y + 1 ≤ 309 := HX.out (y + 1) (by omega) HL2.out
   go_wp2_with fail
   go_roundw
   case rel => exact ⟨y + 1, by omega, hy3, rfl, HB4.out, by omega, HL2.out⟩
   case measure => show (400 - (y + 1)).toNat < (400 - y).toNat; omega
  ·have h1' : (n : Int) = (p : Int) + 1 := by omega
   have hne : (s.toList == [48]) = false := beq_eq_false_iff_ne.2 (by rw [ByteArray.toList_eq]; exact h2)
   have HG := Lib.hid h3
   clear h2 h1 h3
   have HN : Hid (s.data.toList.length = p + 1) := by
    have hsz : s.size = s.data.toList.length := by simp
    show _ = _
    omega
   go_wp2_with fail
   go_ret3
   exact ⟨s, y, rfl, HC.out, HN.out, HG.out, by omega, hy2, HB4.out⟩
end Go.Proofs.YtfdnhkjeoeffoaaGreatDoor
end

section
/- Package dec: Read. -/
namespace Go.Proofs.YtfdnhkjeoeffoaaGreatDoor
open Go.RowKit
set_option linter.unusedVariables false
theorem Trim_digs (s : ByteArray) (w : World) (hs : s.size ≤ 9223372036854775807) :
 Calls Tryz.prog 111 #[.string s, .string ⟨#[48, 49, 50, 51, 52, 53, 54, 55, 56, 57]⟩] w fun e w' => e = .returned (.string ⟨(Lib.trimS s.data.toList digs).toArray⟩) ∧ Below w.heap.size w w' :=
 Any.strings_Trim_laid Tryz.lays160 (by kernel_rfl) s ⟨#[48, 49, 50, 51, 52, 53, 54, 55, 56, 57]⟩ w hs (by decide) (ascii_of_all (by decide))
theorem Inf_pos (w : World) : Calls Tryz.prog 227 #[.int .i64 1] w fun e w' => e = .returned (.float .f64 9218868437227405312) ∧ w' = w := by
 go_enter Tryz.func227, Tryz.ntmps227
 go_wp2_with fail
 go_ret
 exact ⟨rfl, rfl⟩
theorem Trim_ok (s : ByteArray) (w : World) (hs : s.size ≤ 9223372036854775807) (h : Digits s.data.toList) :
 Calls Tryz.prog 111 #[.string s, .string ⟨#[48, 49, 50, 51, 52, 53, 54, 55, 56, 57]⟩] w fun e w' => e = .returned (.string ⟨#[]⟩) ∧ Below w.heap.size w w' := by
 have h1 := Trim_digs s w hs
 rw [trimS_digits h] at h1
 exact h1
set_option maxRecDepth 100000 in
set_option maxHeartbeats 4000000 in
theorem Read_ok (s : ByteArray) (x : Int) (w : World) (hn : s.data.toList ≠ []) (hd : Digits s.data.toList) (hl : s.data.toList.length ≤ 1024) (hx1 : -9223372036854775808 ≤ x) (hx2 : x ≤ 9223372036854775807) :
 Calls Tryz.prog 170 #[.string s, .int .i64 x] w fun e w' => e = .returned (.tuple #[.float .f64 (readB s.data.toList x), .int .i64 0]) ∧ Below w.heap.size w w' := by
 have hsz : s.size = s.data.toList.length := by simp
 have HT := Lib.hid (Trim_ok s w (by omega) hd)
 have h0 : s.toList.isEmpty = false := by
  rw [ByteArray.toList_eq]
  simpa using hn
 have hTL : Hid (∀ W, Calls Tryz.prog 106 #[.string s, .string ⟨#[48]⟩] W fun e w' => e = .returned (.string ⟨(bare s.data.toList).toArray⟩) ∧ w' = W) := fun W => Tryz.strings_TrimLeft_one s 48 (by decide) W
 obtain ⟨t, ht⟩ : ∃ t : ByteArray, t = ⟨(bare s.data.toList).toArray⟩ := ⟨_, rfl⟩
 rw [← ht] at hTL
 have htl : t.data.toList = bare s.data.toList := by rw [ht]
 obtain ⟨n, hn0⟩ : ∃ n, n = t.size := ⟨_, rfl⟩
 have hn1 : t.size = n := hn0.symm
 have hn2 : (bare s.data.toList).length = n := by rw [← htl, hn0]; simp
 have hn3 : n ≤ 1024 := by have := bare_length s.data.toList; omega
 have hdt : Digits t.data.toList := by rw [htl]; exact bare_digits hd
 have hR : Hid (readB s.data.toList x = if n = 0 ∨ x < -4000 then 0 else if 2000 < x ∨ 310 < (n : Int) + x then 9218868437227405312 else if (n : Int) + x < -330 then 0 else near (digVal t.data.toList * 10 ^ x.toNat) (10 ^ (-x).toNat)) := by
  show _ = _
  unfold readB
  rw [hn2, htl]
 have HD0 : Hid (n ≠ 0 → 0 < digVal t.data.toList) := fun h => by rw [htl]; exact bare_pos hd (by rw [hn2]; exact h)
 generalize readB s.data.toList x = R at *
 have HDT := Lib.hid hdt
 have hlt : t.data.toList.length = n := by rw [htl, hn2]
 have HLT := Lib.hid hlt
 generalize hLe : s.data.toList = L at *
 have HLe := Lib.hid hLe
 have HD := Lib.hid hd
 clear hd hn hLe ht htl hn0 hn2 hdt hlt
 go_enter Tryz.func170, Tryz.ntmps170
 go_wp2_with fail
 refine HT.out.mono ?_
 rintro e w1 ⟨rfl, hb⟩
 have HB := Lib.hid hb
 have hs1 := hb.size
 clear hb HT
 have hls : (s.size : Int) ≤ 1024 := by omega
 go_wp2_with (refine wpList_bytes _ rfl _ rfl s rfl ?_; rw [HLe.out, hsz]; intro cap1 w2 hl2 hb2 hs2)
 have HB2 := Lib.hid (HB.out.trans (hb2.mono hs1))
 generalize hg1 : w1.heap.size = g1 at *
 have HL1 := Lib.hid hl2
 clear hg1 hl2 hb2 HB hls
 go_wp2_with fail
 go_loop [28] (fun i => ∃ k : Nat, k ≤ L.length ∧ i = .int .i64 k) (fun i => L.length - (intOf i).toNat)
 case atStart => exact ⟨0, Nat.zero_le _, rfl⟩
 case round =>
  obtain ⟨k, hk, rfl⟩ := hrel
  by_cases hlt : k < L.length
  ·have hc := HL1.out k hlt
   rw [Nat.zero_add] at hc
   have hdd := HD.out _ (List.getElem_mem hlt)
   generalize L[k].toNat = c at *
   go_wp2_with fail
   go_round
   case rel => exact ⟨k + 1, by omega, by go_num⟩
   case measure => simp [intOf]; omega
  ·obtain rfl : k = L.length := by omega
   clear HL1
   go_wp2_with fail
   refine (hTL.out w2).mono ?_
   rintro e w3 ⟨rfl, rfl⟩
   clear hTL
   have HB3 := Lib.hid (HB2.out)
   have hs3 := hs2
   have hbs := HB2.out.size
   clear HB2 hs2 HLe hsz h0 hk hlt HD hl
   by_cases hc0 : n = 0 ∨ x < -4000
   ·obtain rfl : R = 0 := by rw [hR.out, if_pos hc0]
    rcases hc0 with h | h
    ·clear hn3
     subst h
     go_wp2_with fail
     go_ret2
     exact ⟨rfl, HB3.out⟩
    ·by_cases h2 : n = 0
     ·subst h2
      go_wp2_with fail
      go_ret2
      exact ⟨rfl, HB3.out⟩
     ·have h3 : (n : Int) ≠ 0 := by omega
      go_wp2_with fail
      go_ret2
      exact ⟨rfl, HB3.out⟩
   ·have h3 : (n : Int) ≠ 0 := by omega
    have h4 : -4000 ≤ x := by omega
    have hD0 := HD0.out (by omega)
    have hno : ¬ (((n : Int) == 0) = true ∨ x < -4000) := by rw [beq_iff_eq]; omega
    by_cases hc1 : 2000 < x ∨ 310 < (n : Int) + x
    ·obtain rfl : R = 9218868437227405312 := by rw [hR.out, if_neg hc0, if_pos hc1]
     clear hR hc0
     by_cases h5 : 2000 < x
     ·clear hc1
      go_wp2_with fail
      refine (Inf_pos w3).mono ?_
      rintro e w4 ⟨rfl, rfl⟩
      go_wp2_with fail
      go_ret2
      exact ⟨rfl, HB3.out⟩
     ·have h6 : 310 < (n : Int) + x := by omega
      clear hc1
      go_wp2_with fail
      refine (Inf_pos w3).mono ?_
      rintro e w4 ⟨rfl, rfl⟩
      go_wp2_with fail
      go_ret2
      exact ⟨rfl, HB3.out⟩
    ·have h5 : x ≤ 2000 := by omega
     have h6 : (n : Int) + x ≤ 310 := by omega
     by_cases hc2 : (n : Int) + x < -330
     ·obtain rfl : R = 0 := by rw [hR.out, if_neg hc0, if_neg hc1, if_pos hc2]
      clear hR hc0
      go_wp2_with fail
      go_ret2
      exact ⟨rfl, HB3.out⟩
     ·have hR2 : R = near (digVal t.data.toList * 10 ^ x.toNat) (10 ^ (-x).toNat) := by rw [hR.out, if_neg hc0, if_neg hc1, if_neg hc2]
      have HRR := Lib.hid hR2
      have h7 : -330 ≤ (n : Int) + x := by omega
      clear hR hc0 hc1 hc2 hR2
      have hDl : digVal t.data.toList < 10 ^ n := by rw [← HLT.out]; exact digVal_lt HDT.out
      have hB1 : nbits (digVal t.data.toList) ≤ 4100 := read_d hDl hn3
      have hB2 := read_x hDl hn3 h6
      have hB3 := read_v hDl h6
      have hB4 : nbits (10 ^ x.toNat) ≤ 5700 := read_pow (by omega)
      have hB5 : nbits (10 ^ (-x).toNat) ≤ 5700 := read_pow (by omega)
      have hne : t.data.toList ≠ [] := by intro h; have := HLT.out; rw [h] at this; simp at this; omega
      have HPA := Lib.hid (fun W => Parse_any t W hne HDT.out (limbs_of_bits (by omega)) (by have := HLT.out; omega))
      have hp1 : 0 < (10 : Nat) ^ (-x).toNat := Nat.pow_pos (by decide)
      generalize digVal t.data.toList = D at *
      have P1 := Lib.hid (fun W => pow10_any x.toNat W (limbs_of_bits (by omega)) (by omega))
      have P2 := Lib.hid (fun W => pow10_any (-x).toNat W (limbs_of_bits (by omega)) (by omega))
      have M1 := Lib.hid (fun W va vb h1 h2 => Mul_any va vb D (10 ^ x.toNat) W h1 h2 (limbs_of_bits (by omega)) (limbs_of_bits (by omega)) (limbs_of_bits (by omega)))
      have hNE : Hid (∀ (W : World) (va vb : Value), NatV W va (D * 10 ^ x.toNat) → NatV W vb (10 ^ (-x).toNat) → Calls Tryz.prog 228 #[va, vb] W fun e W' => e = .returned (.float .f64 R) ∧ Below W.heap.size W W') := by
       intro W va vb h1 h2
       refine (nearest_any va vb _ _ W h1 h2 hp1 (by omega) (by omega) hB3).mono ?_
       rintro e W' ⟨E, hE, rfl, hb⟩
       rw [nearBits_near (Nat.mul_pos hD0 (Nat.pow_pos (by decide))) hp1 hE]
       exact ⟨by rw [HRR.out], hb⟩
      obtain ⟨k1, hk1⟩ : ∃ k : Nat, k = x.toNat := ⟨_, rfl⟩
      obtain ⟨k2, hk2⟩ : ∃ k : Nat, k = (-x).toNat := ⟨_, rfl⟩
      have e1 : max x 0 = (k1 : Int) := by omega
      have e2 : max (-x) 0 = (k2 : Int) := by omega
      rw [← hk1] at P1 M1 hNE
      rw [← hk2] at P2 hNE
      generalize 10 ^ k1 = p1 at *
      generalize 10 ^ k2 = p2 at *
      clear hDl hB1 hB2 hB3 hB4 hB5 hne hp1 HRR hk1 hk2
      go_wp2_with fail
      refine (HPA.out w3).mono ?_
      rintro e w4 ⟨v4, rfl, hv4, hb4⟩
      have HV4 := Lib.hid hv4
      have HB4 := Lib.hid (HB3.out.trans (hb4.mono hbs))
      have hs4 := hb4.size
      clear hv4 hb4 HB3 HPA
      go_wp2_with fail
      refine (P1.out w4).mono ?_
      rintro e w5 ⟨v5, rfl, hv5, hb5⟩
      have HM := Lib.hid (M1.out w5 v4 v5 (HV4.out.below hb5) hv5)
      have HB5 := Lib.hid (HB4.out.trans (hb5.mono (by omega)))
      have hs5 := hb5.size
      clear hv5 hb5 HB4 HV4 P1 M1
      go_wp2_with fail
      refine HM.out.mono ?_
      rintro e w6 ⟨v6, rfl, hv6, hb6⟩
      have HV6 := Lib.hid hv6
      have HB6 := Lib.hid (HB5.out.trans (hb6.mono (by omega)))
      have hs6 := hb6.size
      clear hv6 hb6 HB5 HM
      go_wp2_with fail
      refine (P2.out w6).mono ?_
      rintro e w7 ⟨v7, rfl, hv7, hb7⟩
      have HN := Lib.hid (hNE.out w7 v6 v7 (HV6.out.below hb7) hv7)
      have HB7 := Lib.hid (HB6.out.trans (hb7.mono (by omega)))
      have hs7 := hb7.size
      clear hv7 hb7 HB6 HV6 P2 hNE
      go_wp2_with fail
      refine HN.out.mono ?_
      rintro e w8 ⟨rfl, hb8⟩
      have HB8 := Lib.hid (HB7.out.trans (hb8.mono (by omega)))
      clear hb8 HN HB7
      go_wp2_with fail
      go_ret2
      exact ⟨rfl, HB8.out⟩
end Go.Proofs.YtfdnhkjeoeffoaaGreatDoor
end

section
/- thresherlaw03: text, same. -/
namespace Go.Proofs.YtfdnhkjeoeffoaaGreatDoor
open Go.RowKit
set_option linter.unusedVariables false
/-- the sign of a digit -/
def dig (r : Nat) : UInt8 := UInt8.ofNat (48 + r)
theorem dig_nat (r : Nat) (h : r < 10) : (dig r).toNat = 48 + r := by
 unfold dig; rw [UInt8.toNat_ofNat', Nat.mod_eq_of_lt (by omega)]
/-- the digits of n so far: the least of them are r, m is what is left -/
structure Left (n m : Nat) (l r : List UInt8) : Prop where
 eq : l = dig (m % 10) :: r
 val : n = m * 10 ^ r.length + digVal r
 dig : Digits r
 pos : r = [] ∨ 0 < m
theorem Left.start (n : Nat) : Left n n [Go.Proofs.YtfdnhkjeoeffoaaGreatDoor.dig (n % 10)] [] := ⟨rfl, by simp [digVal], by intro c hc; simp at hc, .inl rfl⟩
theorem Left.digits {n m : Nat} {l r : List UInt8} (h : Left n m l r) : Digits l := by
 rw [h.eq]
 intro c hc
 rcases List.mem_cons.1 hc with rfl | h2
 ·rw [dig_nat _ (by omega)]; omega
 ·exact h.dig c h2
theorem Left.digVal {n m : Nat} {l r : List UInt8} (h : Left n m l r) : digVal l = (m % 10) * 10 ^ r.length + Go.Proofs.YtfdnhkjeoeffoaaGreatDoor.digVal r := by
 rw [h.eq, digVal_cons, dig_nat _ (by omega)]
 congr 2
 omega
theorem Left.step {n m : Nat} {l r : List UInt8} (h : Left n m l r) (hm : 10 ≤ m) : Left n (m / 10) (Go.Proofs.YtfdnhkjeoeffoaaGreatDoor.dig (m / 10 % 10) :: l) l := by
 refine ⟨rfl, ?_, h.digits, .inr (by omega)⟩
 rw [h.digVal]
 have h1 := h.val
 have e : l.length = r.length + 1 := by rw [h.eq]; rfl
 rw [e, Nat.pow_succ]
 generalize 10 ^ r.length = P at *
 have e2 : m = 10 * (m / 10) + m % 10 := by omega
 rw [h1]
 generalize m / 10 = a at *
 generalize m % 10 = b at *
 subst e2
 have e3 : (10 * a + b) * P = a * (P * 10) + b * P := by rw [Nat.add_mul, Nat.mul_comm 10 a, Nat.mul_assoc, Nat.mul_comm 10 P]
 omega
theorem Left.short {n m : Nat} {l r : List UInt8} (h : Left n m l r) (hn : n < 18446744073709551616) : l.length ≤ 20 := by
 have e : l.length = r.length + 1 := by rw [h.eq]; rfl
 rcases h.pos with h1 | h1
 ·rw [e, h1]; decide
 ·have h2 : 10 ^ r.length ≤ n := by
   rw [h.val]
   have : 1 * 10 ^ r.length ≤ m * 10 ^ r.length := Nat.mul_le_mul_right _ h1
   omega
  have h3 : r.length < 20 := (Nat.pow_lt_pow_iff_right (a := 10) (by decide)).1 (Nat.lt_of_le_of_lt h2 (Nat.lt_of_lt_of_le hn (by decide)))
  omega
end Go.Proofs.YtfdnhkjeoeffoaaGreatDoor
end

section
/- thresherlaw03: fixed; a number has one text. -/
namespace Go.Proofs.YtfdnhkjeoeffoaaGreatDoor
open Go.RowKit
set_option linter.unusedVariables false
theorem digits_unique : ∀ l l' : List UInt8, Digits l → Digits l' → l.length = l'.length → digVal l = digVal l' → l = l'
 | [], [], _, _, _, _ => rfl
 | [], _ :: _, _, _, h, _ => by simp at h
 | _ :: _, [], _, _, h, _ => by simp at h
 | c :: r, c' :: r', hd, hd', hl, hv => by
   have hl2 : r.length = r'.length := by simpa using hl
   have h1 := hd c (by simp)
   have h1' := hd' c' (by simp)
   have hr : Digits r := fun x hx => hd x (by simp [hx])
   have hr' : Digits r' := fun x hx => hd' x (by simp [hx])
   rw [digVal_cons, digVal_cons, hl2] at hv
   have h2 := digVal_lt hr
   have h2' := digVal_lt hr'
   rw [hl2] at h2
   have hP : 0 < 10 ^ r'.length := Nat.pow_pos (by decide)
   generalize 10 ^ r'.length = P at *
   have ha : (digVal r + P * (c.toNat - 48)) / P = (digVal r' + P * (c'.toNat - 48)) / P := by
    rw [Nat.mul_comm P, Nat.mul_comm P, Nat.add_comm, hv, Nat.add_comm]
   rw [Nat.add_mul_div_left _ _ hP, Nat.add_mul_div_left _ _ hP, Nat.div_eq_of_lt h2, Nat.div_eq_of_lt h2'] at ha
   have hc : c = c' := UInt8.toNat_inj.1 (by omega)
   subst hc
   rw [digits_unique r r' hr hr' hl2 (by omega)]
theorem canon_low {l : List UInt8} {x : Nat} (h : Canon l x) (hl : 1 < l.length) : 10 ^ (l.length - 1) ≤ x := by
 cases h1 : l with
 | nil => exact absurd h1 h.ne
 | cons c r =>
   have h2 := h.dig c (by rw [h1]; simp)
   have h3 : c.toNat ≠ 48 := fun h4 => by
    have := h.top c r h1 h4
    rw [h1, this] at hl; simp at hl
   have h5 := h.val
   rw [h1, digVal_cons] at h5
   have h6 : 1 * 10 ^ r.length ≤ (c.toNat - 48) * 10 ^ r.length := Nat.mul_le_mul_right _ (by omega)
   simp only [List.length_cons, Nat.add_sub_cancel]
   omega
theorem canon_length {l l' : List UInt8} {x : Nat} (h : Canon l x) (h' : Canon l' x) : l.length ≤ l'.length := by
 rcases Nat.lt_or_ge l'.length l.length with h1 | h1
 ·exfalso
  have h0 : 0 < l'.length := List.length_pos_iff.2 h'.ne
  have h2 := canon_low h (by omega)
  have h3 := digVal_lt h'.dig
  rw [h'.val] at h3
  have h4 : 10 ^ l'.length ≤ 10 ^ (l.length - 1) := Nat.pow_le_pow_right (by decide) (by omega)
  omega
 ·exact h1
/-- a number has one text -/
theorem canon_unique {l l' : List UInt8} {x : Nat} (h : Canon l x) (h' : Canon l' x) : l = l' :=
 digits_unique l l' h.dig h'.dig (Nat.le_antisymm (canon_length h h') (canon_length h' h)) (by rw [h.val, h'.val])
theorem canon_mk {l : List UInt8} {x : Nat} (h : (l.all fun c => decide (48 ≤ c.toNat) && decide (c.toNat ≤ 57)) = true) (hne : l ≠ []) (hv : digVal l = x) (ht : l.length = 1 ∨ l.head? ≠ some 48) : Canon l x := by
 refine ⟨hne, ?_, hv, ?_⟩
 ·intro c hc
  have := List.all_eq_true.1 h c hc
  simpa using this
 ·intro c r hl hc
  rcases ht with h1 | h1
  ·rw [hl] at h1; simpa using h1
  ·rw [hl] at h1
   exact absurd (by simp; exact UInt8.toNat_inj.1 hc) h1
theorem toBytes {s : ByteArray} {l : List UInt8} (h : s.data.toList = l) : s = ⟨l.toArray⟩ := by
 cases s; simp at h; subst h; rfl
end Go.Proofs.YtfdnhkjeoeffoaaGreatDoor
end

section
/- Plain: how the model reads a float's bits, and compares them. -/
namespace Go.Proofs.YtfdnhkjeoeffoaaGreatDoor
open Go
/-- the float in steps of the least one -/
def vl (b : Nat) : Nat := mof b * 2 ^ jof b
theorem vl_lt {x y : Nat} (h : x < y) : vl x < vl y := by
 unfold vl
 have hx := bits_parts x
 have hy := bits_parts y
 have h1 := mof_lt x
 have h2 := mof_lt y
 have h3 := mof_ge x
 have h4 := mof_ge y
 rcases Nat.lt_trichotomy (jof x) (jof y) with hj | hj | hj
 ·have h5 : 2 ^ 52 ≤ mof y := by rcases h4 with h | h; omega; exact h
  calc mof x * 2 ^ jof x < 2 ^ 53 * 2 ^ jof x := Nat.mul_lt_mul_of_pos_right h1 (pow2_pos _)
   _ = 2 ^ 52 * 2 ^ (jof x + 1) := by rw [two53, Nat.pow_succ 2 (jof x), Nat.mul_assoc, Nat.mul_comm 2]
   _ ≤ 2 ^ 52 * 2 ^ jof y := Nat.mul_le_mul_left _ (Nat.pow_le_pow_right (by decide) hj)
   _ ≤ mof y * 2 ^ jof y := Nat.mul_le_mul_right _ h5
 ·rw [hj]
  exact Nat.mul_lt_mul_of_pos_right (by rw [hj] at hx; omega) (pow2_pos _)
 ·exfalso
  have h5 : (jof y + 1) * 2 ^ 52 ≤ jof x * 2 ^ 52 := Nat.mul_le_mul_right _ hj
  rw [Nat.add_mul] at h5
  have h6 : 2 ^ 52 ≤ mof x := by rcases h3 with h | h; omega; exact h
  have h7 : (2 : Nat) ^ 53 = 2 ^ 52 + 2 ^ 52 := by decide
  omega
theorem vl_le {x y : Nat} (h : x ≤ y) : vl x ≤ vl y := by
 rcases Nat.eq_or_lt_of_le h with rfl | h
 ·exact Nat.le_refl _
 ·exact Nat.le_of_lt (vl_lt h)
theorem read_inf : FloatKind.f64.format.read 9218868437227405312 = .infinity false := by decide
theorem read_fin {b : Nat} (h : b < 9218868437227405312) : FloatKind.f64.format.read b = .number false (mof b) ((jof b : Int) - 1074) := by
 have e1 : FloatKind.f64.format.signWeight = 9223372036854775808 := by decide
 have e2 : FloatKind.f64.format.binade = 4503599627370496 := by decide
 have e3 : FloatKind.f64.format.infRung = 9218868437227405312 := by decide
 have e4 : FloatKind.f64.format.leastPlace = -1074 := by decide
 have e5 : (b / 9223372036854775808 % 2 == 1) = false := by rw [Nat.div_eq_of_lt (by omega)]; rfl
 have e6 : b % 9223372036854775808 = b := Nat.mod_eq_of_lt (by omega)
 unfold Ieee.Format.read
 simp only [e1, e2, e3, e4, e5, e6]
 have e7 : (2 : Nat) ^ 52 = 4503599627370496 := by decide
 unfold mof jof
 rw [e7]
 by_cases hs : b < 4503599627370496
 ·rw [if_pos hs, if_pos (by omega)]
  congr 1
  rw [Nat.div_eq_of_lt hs]
  rfl
 ·rw [if_neg hs, if_pos h, if_neg (by omega)]
  congr 1
  all_goals omega
theorem order_fin {x y : Nat} (hx : x < 9218868437227405312) (hy : y < 9218868437227405312) : FloatKind.f64.format.order x y = some (compare x y) := by
 unfold Ieee.Format.order
 rw [read_fin hx, read_fin hy]
 unfold Ieee.Datum.order
 simp only
 congr 1
 obtain ⟨c, hc⟩ : ∃ c, c = min (jof x) (jof y) := ⟨_, rfl⟩
 have e1 : ((jof x : Int) - 1074 - min ((jof x : Int) - 1074) ((jof y : Int) - 1074)).toNat = jof x - c := by omega
 have e2 : ((jof y : Int) - 1074 - min ((jof x : Int) - 1074) ((jof y : Int) - 1074)).toNat = jof y - c := by omega
 rw [e1, e2]
 unfold Ieee.signed
 simp only [Bool.false_eq_true, if_false]
 rw [Nat.shiftLeft_eq, Nat.shiftLeft_eq]
 have h1 : mof x * 2 ^ (jof x - c) * 2 ^ c = vl x := by unfold vl; rw [Nat.mul_assoc, ← Nat.pow_add, Nat.sub_add_cancel (by omega)]
 have h2 : mof y * 2 ^ (jof y - c) * 2 ^ c = vl y := by unfold vl; rw [Nat.mul_assoc, ← Nat.pow_add, Nat.sub_add_cancel (by omega)]
 have hp := pow2_pos c
 generalize mof x * 2 ^ (jof x - c) = a at *
 generalize mof y * 2 ^ (jof y - c) = b at *
 rcases Nat.lt_trichotomy x y with h | h | h
 ·have h3 := vl_lt h
  rw [← h1, ← h2] at h3
  have h4 := Nat.lt_of_mul_lt_mul_right h3
  rw [Int.compare_eq_lt.2 (by omega), Nat.compare_eq_lt.2 h]
 ·subst h
  have h4 : a = b := Nat.eq_of_mul_eq_mul_right hp (h1.trans h2.symm)
  subst h4
  rw [Int.compare_eq_eq.2 rfl, Nat.compare_eq_eq.2 rfl]
 ·have h3 := vl_lt h
  rw [← h1, ← h2] at h3
  have h4 := Nat.lt_of_mul_lt_mul_right h3
  rw [Int.compare_eq_gt.2 (by omega), Nat.compare_eq_gt.2 h]
/-- floats that are not negative, and no NaN, are compared as their bits -/
theorem order_pos {x y : Nat} (hx : x ≤ 9218868437227405312) (hy : y ≤ 9218868437227405312) : FloatKind.f64.format.order x y = some (compare x y) := by
 rcases Nat.eq_or_lt_of_le hx with h1 | h1 <;> rcases Nat.eq_or_lt_of_le hy with h2 | h2
 ·subst h1 h2; decide
 ·subst h1
  unfold Ieee.Format.order
  rw [read_inf, read_fin h2, Nat.compare_eq_gt.2 h2]
  rfl
 ·subst h2
  unfold Ieee.Format.order
  rw [read_inf, read_fin h1, Nat.compare_eq_lt.2 h1]
  rfl
 ·exact order_fin h1 h2
theorem order_lt {x y : Nat} (hx : x ≤ 9218868437227405312) (hy : y ≤ 9218868437227405312) (h : x < y) : FloatKind.f64.format.order x y = some .lt := by rw [order_pos hx hy, Nat.compare_eq_lt.2 h]
theorem order_gt {x y : Nat} (hx : x ≤ 9218868437227405312) (hy : y ≤ 9218868437227405312) (h : y < x) : FloatKind.f64.format.order x y = some .gt := by rw [order_pos hx hy, Nat.compare_eq_gt.2 h]
theorem order_eq {x : Nat} (hx : x ≤ 9218868437227405312) : FloatKind.f64.format.order x x = some .eq := by rw [order_pos hx hx, Nat.compare_eq_eq.2 rfl]
end Go.Proofs.YtfdnhkjeoeffoaaGreatDoor
end

section
/- thresherlaw03: DecRises. -/
namespace Go.Proofs.YtfdnhkjeoeffoaaGreatDoor
open Go.RowKit
set_option linter.unusedVariables false
theorem readB_le (l : List UInt8) (e : Int) : readB l e ≤ 9218868437227405312 := by
 unfold readB
 split
 ·omega
 ·split
  ·omega
  ·split
   ·omega
   ·exact near_le _ _
end Go.Proofs.YtfdnhkjeoeffoaaGreatDoor
end

section
/- Plain: seventeen digits tell a float; digits of a float near it. -/
namespace Go.Proofs.YtfdnhkjeoeffoaaGreatDoor
open Go
theorem fin_lt_inf {b : Nat} (hb : b < 9223372036854775808) : fin b = true ↔ b < 9218868437227405312 := by
 unfold fin
 rw [Nat.mod_eq_of_lt hb]
 simp
 omega
/-- the float as the fraction that the digits are rounded from -/
def numP (b : Nat) (k : Int) : Nat := mant b * 10 ^ k.toNat * 2 ^ (expo b).toNat
def denQ (b : Nat) (k : Int) : Nat := 10 ^ (-k).toNat * 2 ^ (-(expo b)).toNat
theorem denQ_pos (b : Nat) (k : Int) : 0 < denQ b k := Nat.mul_pos (Nat.pow_pos (by decide)) (pow2_pos _)
theorem scaledN_spec (b : Nat) (k : Int) : 2 * numP b k ≤ (2 * scaledN b k + 1) * denQ b k ∧ 2 * scaledN b k * denQ b k ≤ 2 * numP b k + denQ b k := rnd_spec (denQ_pos b k)
end Go.Proofs.YtfdnhkjeoeffoaaGreatDoor
end

section
/- Plain: half a digit below and above what is written. -/
namespace Go.Proofs.YtfdnhkjeoeffoaaGreatDoor
open Go
end Go.Proofs.YtfdnhkjeoeffoaaGreatDoor
end

section
/- thresherlaw03: DecBack; math.IsNaN, math.IsInf. -/
namespace Go.Proofs.YtfdnhkjeoeffoaaGreatDoor
open Go.RowKit
set_option linter.unusedVariables false
theorem read_nan {b : Nat} (h : 9218868437227405312 < b) (h2 : b < 9223372036854775808) : ∃ f, FloatKind.f64.format.read b = .nan false f := by
 have e1 : FloatKind.f64.format.signWeight = 9223372036854775808 := by decide
 have e2 : FloatKind.f64.format.binade = 4503599627370496 := by decide
 have e3 : FloatKind.f64.format.infRung = 9218868437227405312 := by decide
 have e5 : (b / 9223372036854775808 % 2 == 1) = false := by rw [Nat.div_eq_of_lt (by omega)]; rfl
 have e6 : b % 9223372036854775808 = b := Nat.mod_eq_of_lt (by omega)
 unfold Ieee.Format.read
 simp only [e1, e2, e3, e5, e6]
 rw [if_neg (by omega), if_neg (by omega), if_neg (by omega)]
 exact ⟨_, rfl⟩
theorem order_nan {b : Nat} (c : Nat) (h : 9218868437227405312 < b) (h2 : b < 9223372036854775808) : FloatKind.f64.format.order b c = none := by
 obtain ⟨f, hf⟩ := read_nan h h2
 unfold Ieee.Format.order
 rw [hf]
 cases FloatKind.f64.format.read c <;> rfl
end Go.Proofs.YtfdnhkjeoeffoaaGreatDoor
end

section
/- thresherlaw03: below. -/
namespace Go.Proofs.YtfdnhkjeoeffoaaGreatDoor
open Go.RowKit
set_option linter.unusedVariables false
/-- the block of a string's bytes -/
structure RowM (w : World) (g : Nat) (L : List UInt8) : Prop where
 row : ∃ cur, w.heap[g]? = some (.cells cur 5 (cur.size, cur.size + 1)) ∧ ∀ i (h : i < L.length), cur[i]? = some (.int .u8 (L[i].toNat : Nat))
theorem RowM.ltg {w : World} {g : Nat} {L : List UInt8} (h : RowM w g L) : g < w.heap.size := by
 obtain ⟨cur, hg, ht⟩ := h.row
 exact lt_of_heap hg
theorem RowM.cell {w : World} {g : Nat} {L : List UInt8} (h : RowM w g L) (i : Nat) (hi : i < L.length) : w.cell? ⟨g, i, none⟩ = some (.int .u8 (L[i].toNat : Nat)) := by
 obtain ⟨cur, hg, ht⟩ := h.row
 simp [World.cell?, hg, ht i hi]
theorem RowM.frozen {w : World} {g : Nat} {L : List UInt8} (h : RowM w g L) (i : Nat) (hi : i < L.length) : w.frozen? ⟨g, i, none⟩ = false := by
 obtain ⟨cur, hg, ht⟩ := h.row
 have h1 : i < cur.size := by
  rcases Nat.lt_or_ge i cur.size with h | h
  ·exact h
  ·have := ht i hi
   rw [Array.getElem?_eq_none (by omega)] at this; cases this
 simp [World.frozen?, hg]
 omega
theorem RowM.set {w : World} {g : Nat} {L : List UInt8} (h : RowM w g L) (i y : Nat) (hi : i < L.length) (hy : y < 256) : RowM (w.setCell ⟨g, i, none⟩ (.int .u8 (y : Nat))) g (L.set i (UInt8.ofNat y)) := by
 obtain ⟨cur, hg, ht⟩ := h.row
 refine ⟨cur.setIfInBounds i (.int .u8 (y : Nat)), by rw [setCell_heap_same hg i _]; simp, fun j hj => ?_⟩
 rw [List.length_set] at hj
 rw [List.getElem_set, Array.getElem?_setIfInBounds]
 have h1 : i < cur.size := by
  rcases Nat.lt_or_ge i cur.size with h | h
  ·exact h
  ·have := ht i hi
   rw [Array.getElem?_eq_none (by omega)] at this; cases this
 by_cases hij : i = j
 ·subst hij
  rw [if_pos rfl, if_pos h1, if_pos rfl, UInt8.toNat_ofNat', Nat.mod_eq_of_lt hy]
 ·rw [if_neg hij, if_neg hij]
  exact ht j hj
/-- the row while the noughts at its end are made nines -/
def bel (l : List UInt8) (k : Nat) : List UInt8 := l.take k ++ List.replicate (l.length - k) 57
end Go.Proofs.YtfdnhkjeoeffoaaGreatDoor
end

section
/- Plain: whole numbers below 2^53 as floats. -/
namespace Go.Proofs.YtfdnhkjeoeffoaaGreatDoor
open Go
theorem kk_pos : 0 < kk := by unfold kk; exact pow2_pos _
theorem places {k : Nat} (h : k ≤ 52) : 52 - k + (k + 1022) = bias := by
 obtain ⟨d, hd⟩ : ∃ d, d = 52 - k := ⟨_, rfl⟩
 rw [← hd]
 have h2 : d + k = 52 := by omega
 rw [← Nat.add_assoc, h2]
 rfl
theorem whole_bits {n : Nat} (h : n < 9007199254740992) : FloatKind.f64.nearest (n : Int) < 9218868437227405312 ∧ mof (FloatKind.f64.nearest (n : Int)) * 2 ^ jof (FloatKind.f64.nearest (n : Int)) = n * kk := by
 have e2 : FloatKind.f64.format.binade = 4503599627370496 := by decide
 have e3 : FloatKind.f64.format.infRung = 9218868437227405312 := by decide
 have e4 : FloatKind.f64.format.leastPlace = -1074 := by decide
 have e5 : FloatKind.f64.format.fractionBits = 52 := by decide
 have e6 : FloatKind.f64.nearest (n : Int) = FloatKind.f64.format.nearest false n 0 := by
  unfold FloatKind.nearest FloatKind.encode Ieee.Format.write
  simp
  rw [decide_eq_false (by omega)]
 rw [e6]
 unfold Ieee.Format.nearest
 by_cases h0 : n = 0
 ·subst h0
  rw [if_pos rfl]
  have e7 : FloatKind.f64.format.word false 0 = 0 := by decide
  rw [e7]
  refine ⟨by decide, ?_⟩
  rw [show mof 0 = 0 by decide, Nat.zero_mul, Nat.zero_mul]
 ·rw [if_neg h0]
  have hlog := Nat.log2_lt h0 (k := 53)
  have hl1 : n.log2 < 53 := hlog.2 h
  have hl2 : 2 ^ n.log2 ≤ n := Nat.log2_self_le h0
  have hl3 : n < 2 ^ (n.log2 + 1) := Nat.lt_log2_self
  generalize n.log2 = k at *
  simp only [e2, e3, e4, e5]
  have e8 : max ((0 : Int) + (k : Int) - (52 : Nat)) (-1074) = (k : Int) - 52 := by omega
  rw [e8]
  have e9 : ((0 : Int) - ((k : Int) - 52)).toNat = 52 - k := by omega
  have e10 : ((k : Int) - 52 - 0).toNat = 0 := by omega
  have e11 : ((k : Int) - 52 - -1074).toNat = k + 1022 := by omega
  rw [e9, e10, e11]
  obtain ⟨m, hm⟩ : ∃ m, m = n * 2 ^ (52 - k) := ⟨_, rfl⟩
  have ecut : Ieee.Toward.even.cut false (n <<< (52 - k)) 0 = m := by
   rw [Nat.shiftLeft_eq, ← hm]
   unfold Ieee.Toward.cut
   simp [Nat.mod_one]
  rw [ecut]
  have hm1 : 2 ^ 52 ≤ m := by
   have h1 : 2 ^ k * 2 ^ (52 - k) ≤ n * 2 ^ (52 - k) := Nat.mul_le_mul_right _ hl2
   rw [← Nat.pow_add, show k + (52 - k) = 52 by omega] at h1
   omega
  have hm2 : m < 2 ^ 53 := by
   have h1 : n * 2 ^ (52 - k) < 2 ^ (k + 1) * 2 ^ (52 - k) := Nat.mul_lt_mul_of_pos_right hl3 (pow2_pos _)
   rw [← Nat.pow_add, show k + 1 + (52 - k) = 53 by omega] at h1
   omega
  have e7 : (2 : Nat) ^ 52 = 4503599627370496 := by decide
  have e7b : (2 : Nat) ^ 53 = 9007199254740992 := by decide
  rw [e7] at hm1
  rw [e7b] at hm2
  have hlt : (k + 1022) * 4503599627370496 + m < 9218868437227405312 := by omega
  have ew : FloatKind.f64.format.word false (min ((k + 1022) * 4503599627370496 + m) 9218868437227405312) = (k + 1022) * 4503599627370496 + m := by
   unfold Ieee.Format.word
   rw [Nat.min_eq_left (Nat.le_of_lt hlt)]
   rfl
  rw [ew]
  refine ⟨hlt, ?_⟩
  have hj : jof ((k + 1022) * 4503599627370496 + m) = k + 1022 := by unfold jof; rw [e7]; omega
  have hmm : mof ((k + 1022) * 4503599627370496 + m) = m := by unfold mof; rw [e7, if_neg (by omega)]; omega
  rw [hj, hmm, hm, Nat.mul_assoc, ← Nat.pow_add]
  have eb := places (show k ≤ 52 by omega)
  exact congrArg (fun z => n * 2 ^ z) eb
theorem fixedL_zero {l : List UInt8} (h : l ≠ []) : fixedL l 0 = l := by
 have h1 : ¬ l.length ≤ 0 := by have := List.length_pos_iff.2 h; omega
 simp [fixedL, h1]
end Go.Proofs.YtfdnhkjeoeffoaaGreatDoor
end

section
/- thresherlaw03: DecWhole. -/
namespace Go.Proofs.YtfdnhkjeoeffoaaGreatDoor
open Go.RowKit
set_option linter.unusedVariables false
end Go.Proofs.YtfdnhkjeoeffoaaGreatDoor
end

section
/- Package num: signed, Trunc. -/
namespace Go.Proofs.YtfdnhkjeoeffoaaGreatDoor
open Go.RowKit
set_option linter.unusedVariables false
theorem top_bit {b : Nat} (h : b < 18446744073709551616) : b &&& 2 ^ 63 = b / 9223372036854775808 * 9223372036854775808 := by
 have e63 : (2 : Nat) ^ 63 = 9223372036854775808 := by decide
 refine Nat.eq_of_testBit_eq fun i => ?_
 rw [Nat.testBit_and, Nat.testBit_two_pow]
 rcases Nat.lt_or_ge b 9223372036854775808 with h1 | h1
 ·rw [Nat.div_eq_of_lt h1, Nat.zero_mul, Nat.zero_testBit]
  by_cases hi : 63 = i
  ·subst hi
   rw [Nat.testBit_lt_two_pow (by omega)]; rfl
  ·rw [decide_eq_false hi, Bool.and_false]
 ·have h2 : b / 9223372036854775808 = 1 := by omega
  rw [h2, Nat.one_mul, ← e63, Nat.testBit_two_pow]
  by_cases hi : 63 = i
  ·subst hi
   obtain ⟨r, hr⟩ : ∃ r, b = 2 ^ 63 + r := ⟨b - 2 ^ 63, by omega⟩
   rw [hr, Nat.testBit_two_pow_add_eq, Nat.testBit_lt_two_pow (by omega)]; rfl
  ·rw [decide_eq_false hi, Bool.and_false]
theorem and63 (b : Nat) (h : b < 18446744073709551616) : bits .and .u64 (b : Int) 9223372036854775808 = ((b / 9223372036854775808 * 9223372036854775808 : Nat) : Int) := by
 have h1 := u64_and_nat b 9223372036854775808 h (by decide)
 rw [show b &&& 9223372036854775808 = b / 9223372036854775808 * 9223372036854775808 from top_bit h] at h1
 exact h1
theorem or63 (x s : Nat) (h : x < 9223372036854775808) (hs : s < 2) : bits .or .u64 (x : Int) ((s * 9223372036854775808 : Nat) : Int) = ((x + s * 9223372036854775808 : Nat) : Int) := by
 have h1 := u64_or_nat x (s * 9223372036854775808) (by omega) (by omega)
 rw [h1]
 congr 1
 rw [Nat.or_comm, Nat.add_comm, Nat.mul_comm, show (9223372036854775808 : Nat) = 2 ^ 63 by decide]
 exact (Nat.two_pow_add_eq_or_of_lt h s).symm
theorem Abs_any (b : Nat) (w : World) (h : b < 18446744073709551616) : Calls Tryz.prog 50 #[.float .f64 b] w fun e w' => e = .returned (.float .f64 (b % 9223372036854775808)) ∧ w = w' := by
 have hm := mask63 b h
 generalize b % 9223372036854775808 = c at *
 clear h
 go_enter Tryz.func50, Tryz.ntmps50
 go_wp2_with fail
 go_ret
 exact ⟨rfl, rfl⟩
theorem signed_any (x like : Nat) (w : World) (hx : x < 9223372036854775808) (hl : like < 18446744073709551616) :
 Calls Tryz.prog 56 #[.float .f64 x, .float .f64 like] w fun e w' => e = .returned (.float .f64 (x + like / 9223372036854775808 * 9223372036854775808)) ∧ w = w' := by
 have h1 := and63 like hl
 have h2 := or63 x (like / 9223372036854775808) hx (by omega)
 generalize like / 9223372036854775808 * 9223372036854775808 = c at *
 generalize x + c = d at *
 clear hx hl
 go_enter Tryz.func56, Tryz.ntmps56
 go_wp2_with fail
 go_ret
 exact ⟨rfl, rfl⟩
/-- what stands ahead of the point -/
def truncB (b : Nat) : Nat :=
 if fin b = false ∨ 0 ≤ expo b then b
 else FloatKind.f64.nearest ((mant b / 2 ^ (-(expo b)).toNat : Nat) : Int) + b / 9223372036854775808 * 9223372036854775808
theorem shr_min {m k : Nat} (h : m < 9007199254740992) : m / 2 ^ (min k 63) = m / 2 ^ k := by
 rcases Nat.lt_or_ge k 64 with h1 | h1
 ·rw [Nat.min_eq_left (by omega)]
 ·rw [Nat.min_eq_right (by omega)]
  have h2 := p2_le (a := 53) (b := 63) (by omega)
  have h3 := p2_le (a := 53) (b := k) (by omega)
  have h4 : (2 : Nat) ^ 53 = 9007199254740992 := by decide
  rw [Nat.div_eq_of_lt (by omega), Nat.div_eq_of_lt (by omega)]
set_option maxRecDepth 100000 in
set_option maxHeartbeats 4000000 in
theorem Trunc_any (b : Nat) (w : World) (hb : b < 18446744073709551616) :
 Calls Tryz.prog 19 #[.float .f64 b] w fun e w' => e = .returned (.float .f64 (truncB b)) ∧ w = w' := by
 have HP := Lib.hid (Parts_any b w hb)
 have hm := mant_lt b
 have hx := expo_bounds (b := b)
 have hT : Hid (truncB b = if fin b = false ∨ 0 ≤ expo b then b else FloatKind.f64.nearest ((mant b / 2 ^ (-(expo b)).toNat : Nat) : Int) + b / 9223372036854775808 * 9223372036854775808) := rfl
 generalize truncB b = T at *
 generalize mant b = m at *
 generalize expo b = x at *
 generalize fin b = f at *
 go_enter Tryz.func19, Tryz.ntmps19
 go_wp2_with fail
 refine HP.out.mono ?_
 rintro e w1 ⟨rfl, rfl⟩
 clear HP
 cases f
 ·have hT2 : Hid (T = b) := by show _ = _; rw [hT.out, if_pos (.inl rfl)]
  clear hT
  go_wp2_with fail
  go_ret
  exact ⟨by rw [hT2.out]; rfl, rfl⟩
 ·rcases Int.lt_or_le x 0 with h0 | h0
  ·obtain ⟨q, hq⟩ : ∃ q, q = m / 2 ^ (-x).toNat := ⟨_, rfl⟩
   have hT2 : Hid (T = FloatKind.f64.nearest (q : Int) + b / 9223372036854775808 * 9223372036854775808) := by
    show _ = _; rw [hT.out, if_neg (by simp; omega), hq]
   obtain ⟨k, hk⟩ : ∃ k : Nat, k = (-x).toNat := ⟨_, rfl⟩
   have ek : -x = (k : Int) := by omega
   obtain ⟨k2, hk2⟩ : ∃ k2 : Nat, k2 = min k 63 := ⟨_, rfl⟩
   have ek2 : min (k : Int) 63 = (k2 : Int) := by omega
   have hq2 : m / 2 ^ k2 = q := by rw [hk2, shr_min hm, hq, hk]
   have eF : (m : Int) / 2 ^ k2 = (q : Int) := by rw [← hq2, Int.natCast_ediv, Int.natCast_pow]; rfl
   have hqm : q < 9007199254740992 := by rw [← hq2]; exact Nat.lt_of_le_of_lt (Nat.div_le_self _ _) hm
   obtain ⟨F, hF⟩ : ∃ F, F = floatOfInt FloatKind.f64 (q : Int) := ⟨_, rfl⟩
   have eF2 : floatOfInt FloatKind.f64 (q : Int) = F := hF.symm
   have hFl : F < 9223372036854775808 := by
    have h := (whole_bits hqm).1
    rw [hF]
    exact Nat.lt_trans h (by decide)
   have HS := Lib.hid (signed_any F b w hFl hb)
   have hT3 : Hid (T = F + b / 9223372036854775808 * 9223372036854775808) := by show _ = _; rw [hT2.out, hF]; rfl
   clear hT hq hk hk2 hq2 hT2 hF
   go_wp2_with fail
   refine HS.out.mono ?_
   rintro e w1 ⟨rfl, rfl⟩
   go_wp2_with fail
   go_ret
   exact ⟨by rw [hT3.out]; rfl, rfl⟩
  ·have hT2 : Hid (T = b) := by show _ = _; rw [hT.out, if_pos (.inr h0)]
   clear hT
   go_wp2_with fail
   go_ret
   exact ⟨by rw [hT2.out]; rfl, rfl⟩
end Go.Proofs.YtfdnhkjeoeffoaaGreatDoor
end

section
/- Package num: Whole; floats with a sign compared. -/
namespace Go.Proofs.YtfdnhkjeoeffoaaGreatDoor
open Go.RowKit
set_option linter.unusedVariables false
theorem read_neg {a : Nat} (h : a < 9218868437227405312) : FloatKind.f64.format.read (a + 9223372036854775808) = .number true (mof a) ((jof a : Int) - 1074) := by
 have e1 : FloatKind.f64.format.signWeight = 9223372036854775808 := by decide
 have e2 : FloatKind.f64.format.binade = 4503599627370496 := by decide
 have e3 : FloatKind.f64.format.infRung = 9218868437227405312 := by decide
 have e4 : FloatKind.f64.format.leastPlace = -1074 := by decide
 have e5 : ((a + 9223372036854775808) / 9223372036854775808 % 2 == 1) = true := by
  rw [Nat.add_div_right _ (by decide), Nat.div_eq_of_lt (by omega)]; rfl
 have e6 : (a + 9223372036854775808) % 9223372036854775808 = a := by rw [Nat.add_mod_right]; exact Nat.mod_eq_of_lt (by omega)
 unfold Ieee.Format.read
 simp only [e1, e2, e3, e4, e5, e6]
 have e7 : (2 : Nat) ^ 52 = 4503599627370496 := by decide
 unfold mof jof
 rw [e7]
 clear e5 e6
 by_cases hs : a < 4503599627370496
 ·rw [if_pos hs, if_pos (Nat.div_eq_of_lt hs), Nat.div_eq_of_lt hs]
  rfl
 ·have h8 : 4503599627370496 + a % 4503599627370496 = a % 4503599627370496 + 4503599627370496 := Nat.add_comm _ _
  have h9 : -1074 + ((a / 4503599627370496 - 1 : Nat) : Int) = ((a / 4503599627370496 - 1 : Nat) : Int) - 1074 := by omega
  have h10 : a / 4503599627370496 ≠ 0 := by omega
  rw [if_neg hs, if_pos h, if_neg h10, h8, h9]
/-- how a datum's number compares: the values over the least step -/
theorem order_num (s t : Bool) (a c : Nat) : Ieee.Datum.order (.number s (mof a) ((jof a : Int) - 1074)) (.number t (mof c) ((jof c : Int) - 1074)) = some (compare (if s then -(vl a : Int) else (vl a : Int)) (if t then -(vl c : Int) else (vl c : Int))) := by
 unfold Ieee.Datum.order
 simp only
 congr 1
 obtain ⟨d, hd⟩ : ∃ d, d = min (jof a) (jof c) := ⟨_, rfl⟩
 have e1 : ((jof a : Int) - 1074 - min ((jof a : Int) - 1074) ((jof c : Int) - 1074)).toNat = jof a - d := by omega
 have e2 : ((jof c : Int) - 1074 - min ((jof a : Int) - 1074) ((jof c : Int) - 1074)).toNat = jof c - d := by omega
 rw [e1, e2]
 unfold Ieee.signed
 rw [Nat.shiftLeft_eq, Nat.shiftLeft_eq]
 have h1 : mof a * 2 ^ (jof a - d) * 2 ^ d = vl a := by unfold vl; rw [Nat.mul_assoc, ← Nat.pow_add, Nat.sub_add_cancel (by omega)]
 have h2 : mof c * 2 ^ (jof c - d) * 2 ^ d = vl c := by unfold vl; rw [Nat.mul_assoc, ← Nat.pow_add, Nat.sub_add_cancel (by omega)]
 have hp := pow2_pos d
 generalize mof a * 2 ^ (jof a - d) = x at *
 generalize mof c * 2 ^ (jof c - d) = y at *
 generalize 2 ^ d = P at *
 have key : ∀ u v : Int, compare (u * P) (v * P) = compare u v := by
  intro u v
  have hP : (0 : Int) < (P : Int) := by omega
  rcases Int.lt_trichotomy u v with h | h | h
  ·rw [Int.compare_eq_lt.2 h, Int.compare_eq_lt.2 (Int.mul_lt_mul_of_pos_right h hP)]
  ·rw [h, Int.compare_eq_eq.2 rfl, Int.compare_eq_eq.2 rfl]
  ·rw [Int.compare_eq_gt.2 h, Int.compare_eq_gt.2 (Int.mul_lt_mul_of_pos_right h hP)]
 rw [← key, ← h1, ← h2]
 congr 1
 ·cases s
  ·simp
  ·simp [Int.neg_mul]
 ·cases t
  ·simp
  ·simp [Int.neg_mul]
theorem mant_mod (b : Nat) : mant (b % 9223372036854775808) = mant b ∧ expo (b % 9223372036854775808) = expo b ∧ fin (b % 9223372036854775808) = fin b := by
 refine ⟨?_, ?_, ?_⟩
 ·unfold mant; rw [Nat.mod_mod]
  have e : b % 9223372036854775808 % 4503599627370496 = b % 4503599627370496 := Nat.mod_mod_of_dvd _ (by decide)
  rw [e]
 ·unfold expo; rw [Nat.mod_mod]
 ·unfold fin; rw [Nat.mod_mod]
end Go.Proofs.YtfdnhkjeoeffoaaGreatDoor
end
