/- The document's answer of package dec (thresherref03): Parts, above. -/
import Derived.Test.YtcmpdamfeoaapaaGreatDoorQ7
import Derived.Test.YtcmpdamfeoaapaaGreatDoorR15
namespace Go.Proofs.YtcmpdamfeoaapaaGreatDoor
open Go.RowKit
set_option linter.unusedVariables false

set_option maxRecDepth 100000 in
set_option maxHeartbeats 4000000 in
theorem Parts3_any (b : Nat) (w : World) (hb : b < 18446744073709551616) :
    Calls Tryz.prog 67 #[.float .f64 b] w fun e w' => e = .returned (.tuple #[.int .u64 (mant b : Nat), .int .i64 (expo b), .bool (fin b)]) ∧ w = w' := by
  have e1 : ((b % 9223372036854775808 / 4503599627370496 : Nat) : Int) = (b : Int) % 9223372036854775808 / 4503599627370496 := by omega
  have e2 : ((b % 4503599627370496 : Nat) : Int) = (b : Int) % 9223372036854775808 % 4503599627370496 := by omega
  by_cases h1 : b % 9223372036854775808 / 4503599627370496 = 2047
  · have HM : Hid (mant b = 0 ∧ expo b = 0 ∧ fin b = false) := by refine ⟨?_, ?_, ?_⟩ <;> simp [mant, expo, fin, h1]
    have t1 : ((b : Int) % 9223372036854775808 / 4503599627370496 == 2047) = true := by rw [beq_iff_eq]; omega
    clear e1 e2 h1
    go_enter Tryz.func67, Tryz.ntmps67
    go_wp2_with fail
    go_ret3
    exact ⟨by rw [HM.out.1, HM.out.2.1, HM.out.2.2]; rfl, rfl⟩
  · by_cases h2 : b % 9223372036854775808 / 4503599627370496 = 0
    · have HM : Hid ((mant b : Int) = (b : Int) % 9223372036854775808 % 4503599627370496 ∧ expo b = -1074 ∧ fin b = true) := by
        refine ⟨?_, ?_, ?_⟩
        · rw [← e2]; simp [mant, h2]
        · simp [expo, h2]
        · simp [fin, h2]
      have t1 : ((b : Int) % 9223372036854775808 / 4503599627370496 == 2047) = false := beq_eq_false_iff_ne.2 (by omega)
      have t2 : ((b : Int) % 9223372036854775808 / 4503599627370496 == 0) = true := by rw [beq_iff_eq]; omega
      clear e1 e2 h1 h2
      go_enter Tryz.func67, Tryz.ntmps67
      go_wp2_with fail
      go_ret3
      exact ⟨by rw [HM.out.1, HM.out.2.1, HM.out.2.2]; rfl, rfl⟩
    · have HM : Hid ((mant b : Int) = (b : Int) % 4503599627370496 + 4503599627370496 ∧ expo b = (b : Int) % 9223372036854775808 / 4503599627370496 - 1075 ∧ fin b = true) := by
        refine ⟨?_, ?_, ?_⟩
        · unfold mant; rw [if_neg h1, if_neg h2]; omega
        · rw [← e1]; unfold expo; rw [if_neg h1, if_neg h2]
        · simp [fin, h1]
      have t1 : ((b : Int) % 9223372036854775808 / 4503599627370496 == 2047) = false := beq_eq_false_iff_ne.2 (by omega)
      have t2 : ((b : Int) % 9223372036854775808 / 4503599627370496 == 0) = false := beq_eq_false_iff_ne.2 (by omega)
      clear e1 e2 h1 h2
      go_enter Tryz.func67, Tryz.ntmps67
      go_wp2_with fail
      go_ret3
      exact ⟨by rw [HM.out.1, HM.out.2.1, HM.out.2.2]; rfl, rfl⟩
theorem lim4_mul {x y i j : Nat} (hx : (lim4 x).length ≤ i) (hy : (lim4 y).length ≤ j) : (lim4 (x * y)).length ≤ i + j := by
  refine lim4_length_le ?_
  rw [Nat.pow_add]
  have h1 := lt_of_lim4_length hx
  have h2 := lt_of_lim4_length hy
  exact Nat.mul_lt_mul_of_lt_of_le h1 (Nat.le_of_lt h2) (Nat.pow_pos (by decide))
theorem lim4_u64 {x : Nat} (h : x < 18446744073709551616) : (lim4 x).length ≤ 5 := lim4_length_le (Nat.lt_trans h (by decide))
set_option maxRecDepth 100000 in
set_option maxHeartbeats 4000000 in
theorem above_any (vd : Value) (D : Nat) (x : Int) (b : Nat) (w : World) (hd : NumV w vd D) (hD : (lim4 D).length ≤ 300) (hx1 : -1500 ≤ x) (hx2 : x ≤ 400) (hb : b < 9218868437227405312) :
    Calls Tryz.prog 179 #[vd, .int .i64 x, .int .u64 (b : Nat)] w fun e w' => e = .returned (.int .i64 (cmpN (2 * (D * 10 ^ x.toNat * kk)) (gm b * 10 ^ (-x).toNat))) ∧ Below w.heap.size w w' := by
  have HP := Lib.hid (fun W => Parts3_any b W (by omega))
  have hC := Lib.hid (cmp_mid (D := D) (x := x) hb)
  have hm := mant_lt b
  have he := expo_bounds (b := b)
  have HD := Lib.hid hd
  obtain ⟨vp, hvp⟩ : ∃ vp, vp = vd := ⟨_, rfl⟩
  clear hd hvp
  generalize mant b = m at *
  generalize expo b = E at *
  generalize fin b = F at *
  generalize cmpN (2 * (D * 10 ^ x.toNat * kk)) (gm b * 10 ^ (-x).toNat) = R at *
  go_enter Tryz.func179, Tryz.ntmps179
  go_wp2_with fail
  refine (HP.out _).mono ?_
  rintro e _ ⟨rfl, rfl⟩
  go_wp2_with fail
  refine (Small_any m _ (by omega)).mono ?_
  rintro e w1 ⟨v1, rfl, n1, b1⟩
  have N1 := Lib.hid n1; have B1 := Lib.hid b1
  have s1 := b1.size
  clear n1 b1
  go_wp2_with fail
  refine (Small_any 2 _ (by omega)).mono ?_
  rintro e w2 ⟨v2, rfl, n2, b2⟩
  have N2 := Lib.hid n2; have N1' := Lib.hid (N1.out.below b2); have B2 := Lib.hid (B1.out.trans (b2.mono s1))
  have s2 := B2.out.size
  clear n2 b2 B1 N1 s1
  go_wp2_with fail
  refine (Mul4_any _ _ m 2 _ N1'.out N2.out (Nat.le_trans (lim4_u64 (by omega)) (by omega)) (Nat.le_trans (lim4_u64 (by omega)) (by omega))).mono ?_
  rintro e w3 ⟨v3, rfl, n3, b3⟩
  have N3 := Lib.hid n3; have B3 := Lib.hid (B2.out.trans (b3.mono s2))
  have s3 := B3.out.size
  clear n3 b3 B2 N1' N2 s2
  go_wp2_with fail
  refine (Small_any 1 _ (by omega)).mono ?_
  rintro e w4 ⟨v4, rfl, n4, b4⟩
  have N4 := Lib.hid n4; have N3' := Lib.hid (N3.out.below b4); have B4' := Lib.hid (B3.out.trans (b4.mono s3))
  have s4 := B4'.out.size
  clear n4 b4 B3 N3 s3
  go_wp2_with fail
  refine (Add4_any _ _ (m * 2) 1 _ N3'.out N4.out (Nat.le_trans (lim4_u64 (by omega)) (by omega)) (Nat.le_trans (lim4_u64 (by omega)) (by omega))).mono ?_
  rintro e w5 ⟨v5, rfl, n5, b5⟩
  have N5 := Lib.hid n5; have B5 := Lib.hid (B4'.out.trans (b5.mono s4))
  have s5 := B5.out.size
  clear n5 b5 B4' N3' N4 s4
  go_wp2_with fail
  refine (Pow4i_10 _ _ (by omega) (by omega)).mono ?_
  rintro e w6 ⟨v6, rfl, n6, b6⟩
  rw [show (max x 0).toNat = x.toNat by omega] at n6
  have N6 := Lib.hid n6; have N5' := Lib.hid (N5.out.below b6); have HD6 := Lib.hid ((HD.out.below B5.out).below b6); have B6 := Lib.hid (B5.out.trans (b6.mono s5))
  have s6 := B6.out.size
  clear n6 b6 B5 N5 s5 HD
  go_wp2_with fail
  refine (Pow4i_2 _ _ (by omega) (by omega)).mono ?_
  rintro e w7 ⟨v7, rfl, n7, b7⟩
  rw [show (max (-(E - 1)) 0).toNat = (-(E - 1)).toNat by omega] at n7
  have N7 := Lib.hid n7; have N6' := Lib.hid (N6.out.below b7); have N57 := Lib.hid (N5'.out.below b7); have HD7 := Lib.hid (HD6.out.below b7); have B7 := Lib.hid (B6.out.trans (b7.mono s6))
  have s7 := B7.out.size
  clear n7 b7 B6 N5' N6 HD6 s6
  go_wp2_with fail
  have l6 : (lim4 (10 ^ x.toNat)).length ≤ 401 := Nat.le_trans (lim4_pow (by decide)) (by omega)
  have l7 : (lim4 (2 ^ (-(E - 1)).toNat)).length ≤ 1100 := Nat.le_trans (lim4_pow (by decide)) (by omega)
  refine (Mul4_any _ _ (10 ^ x.toNat) (2 ^ (-(E - 1)).toNat) _ N6'.out N7.out (by omega) (by omega)).mono ?_
  rintro e w8 ⟨v8, rfl, n8, b8⟩
  have N8 := Lib.hid n8; have N58 := Lib.hid (N57.out.below b8); have HD8 := Lib.hid (HD7.out.below b8); have B8 := Lib.hid (B7.out.trans (b8.mono s7))
  have s8 := B8.out.size
  clear n8 b8 B7 N57 N6' N7 HD7 s7
  go_wp2_with fail
  have l8 : (lim4 (10 ^ x.toNat * 2 ^ (-(E - 1)).toNat)).length ≤ 1600 := Nat.le_trans (lim4_mul l6 l7) (by omega)
  refine (Mul4_any _ _ D (10 ^ x.toNat * 2 ^ (-(E - 1)).toNat) _ HD8.out N8.out (by omega) (by omega)).mono ?_
  rintro e w9 ⟨v9, rfl, n9, b9⟩
  have N9 := Lib.hid n9; have N59 := Lib.hid (N58.out.below b9); have B9 := Lib.hid (B8.out.trans (b9.mono s8))
  have s9 := B9.out.size
  clear n9 b9 B8 N58 N8 HD8 s8 l6 l7 l8
  go_wp2_with fail
  refine (Pow4i_10 _ _ (by omega) (by omega)).mono ?_
  rintro e w10 ⟨v10, rfl, n10, b10⟩
  rw [show (max (-x) 0).toNat = (-x).toNat by omega] at n10
  have N10 := Lib.hid n10; have N9' := Lib.hid (N9.out.below b10); have N5a := Lib.hid (N59.out.below b10); have B10 := Lib.hid (B9.out.trans (b10.mono s9))
  have s10 := B10.out.size
  clear n10 b10 B9 N9 N59 s9
  go_wp2_with fail
  refine (Pow4i_2 _ _ (by omega) (by omega)).mono ?_
  rintro e w11 ⟨v11, rfl, n11, b11⟩
  rw [show (max (E - 1) 0).toNat = (E - 1).toNat by omega] at n11
  have N11 := Lib.hid n11; have N9b := Lib.hid (N9'.out.below b11); have N5b := Lib.hid (N5a.out.below b11); have N10' := Lib.hid (N10.out.below b11); have B11 := Lib.hid (B10.out.trans (b11.mono s10))
  have s11 := B11.out.size
  clear n11 b11 B10 N9' N5a N10 s10
  go_wp2_with fail
  have l6 : (lim4 (10 ^ (-x).toNat)).length ≤ 1501 := Nat.le_trans (lim4_pow (by decide)) (by omega)
  have l7 : (lim4 (2 ^ (E - 1).toNat)).length ≤ 1000 := Nat.le_trans (lim4_pow (by decide)) (by omega)
  refine (Mul4_any _ _ (10 ^ (-x).toNat) (2 ^ (E - 1).toNat) _ N10'.out N11.out (by omega) (by omega)).mono ?_
  rintro e w12 ⟨v12, rfl, n12, b12⟩
  have N12 := Lib.hid n12; have N9c := Lib.hid (N9b.out.below b12); have N5c := Lib.hid (N5b.out.below b12); have B12 := Lib.hid (B11.out.trans (b12.mono s11))
  have s12 := B12.out.size
  clear n12 b12 B11 N9b N5b N10' N11 s11
  go_wp2_with fail
  have l8 : (lim4 (10 ^ (-x).toNat * 2 ^ (E - 1).toNat)).length ≤ 2600 := Nat.le_trans (lim4_mul l6 l7) (by omega)
  refine (Mul4_any _ _ (m * 2 + 1) (10 ^ (-x).toNat * 2 ^ (E - 1).toNat) _ N5c.out N12.out (Nat.le_trans (lim4_u64 (by omega)) (by omega)) (by omega)).mono ?_
  rintro e w13 ⟨v13, rfl, n13, b13⟩
  have N13 := Lib.hid n13; have N9d := Lib.hid (N9c.out.below b13); have B13 := Lib.hid (B12.out.trans (b13.mono s12))
  have s13 := B13.out.size
  clear n13 b13 B12 N9c N5c N12 s12 l6 l7 l8
  go_wp2_with fail
  refine (Cmp4_V _ _ _ _ _ N9d.out N13.out).mono ?_
  rintro e w14 ⟨rfl, b14⟩
  rw [hC.out]
  have B14 := Lib.hid (B13.out.trans (b14.mono s13))
  clear b14
  go_wp2_with fail
  go_ret
  exact ⟨rfl, B14.out⟩
end Go.Proofs.YtcmpdamfeoaapaaGreatDoor
