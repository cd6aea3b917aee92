/- Package dec: pow10, shifted, word. -/
import Derived.Test.YtcipmfjefmjacaaGreatDoorN16
namespace Go.Proofs.YtcipmfjefmjacaaGreatDoor
open Go.RowKit
set_option linter.unusedVariables false

theorem limbs_le_of_le {x y k : Nat} (h : x ≤ y) (hy : (limbs y).length ≤ k) : (limbs x).length ≤ k :=
  limbs_length_le (Nat.lt_of_le_of_lt h (lt_of_limbs_length hy))

theorem FromV (n : Nat) (m : Int) (hm : m = (n : Int)) (hn : n < 18446744073709551616) (w : World) :
    Calls Tryz.prog 103 #[.int .u64 m] w fun e w' => ∃ v, e = .returned v ∧ NatV w' v n ∧ Below w.heap.size w w' := by
  subst hm
  refine (From_any n hn w).mono ?_
  rintro e w' ⟨a, cap, rfl, hl, hb⟩
  exact ⟨_, rfl, ⟨a, cap, rfl, hl⟩, hb⟩

theorem pow10_sub {k j : Nat} (h : j ≤ k) (hk : (limbs (10 ^ k)).length ≤ 256) : (limbs (10 ^ j)).length ≤ 256 :=
  limbs_le_of_le (Nat.pow_le_pow_right (by decide) h) hk

set_option maxRecDepth 100000 in
set_option maxHeartbeats 4000000 in
theorem pow10_any (k : Nat) (w : World) (hk : (limbs (10 ^ k)).length ≤ 256) (hk2 : k ≤ 100000) :
    Calls Tryz.prog 92 #[.int .i64 k] w fun e w' => ∃ v, e = .returned v ∧ NatV w' v (10 ^ k) ∧ Below w.heap.size w w' := by
  have HK := Lib.hid hk
  clear hk
  go_enter Tryz.func92, Tryz.ntmps92
  go_wp2_with fail
  refine (FromV 1 1 rfl (by decide) w).mono ?_
  rintro e w1 ⟨v1, rfl, hn1, hb1⟩
  have HN1 := Lib.hid hn1
  have HB1 := Lib.hid hb1
  clear hn1 hb1
  go_wp2_with fail
  go_loopw [0, 3] (fun i v wr => ∃ (r j : Nat), r + j = k ∧ i = .int .i64 r ∧ NatV wr v (10 ^ j) ∧ Below w.heap.size w wr) (fun i _ _ => (intOf i).toNat)
  case atStart => exact ⟨k, 0, rfl, rfl, HN1.out, HB1.out⟩
  case round =>
    obtain ⟨r, j, hrj, rfl, hn, hb⟩ := hrel
    have HN := Lib.hid hn
    have HB := Lib.hid hb
    have hbs := hb.size
    clear hn hb HN1 HB1
    by_cases h9 : 9 ≤ r
    · have e9 : (9 : Int) ≤ (r : Int) := by omega
      go_wp2_with fail
      refine (FromV 1000000000 1000000000 rfl (by decide) wr).mono ?_
      rintro e w1 ⟨v1, rfl, hn1, hb1⟩
      have HN1 := Lib.hid hn1
      have HNj := Lib.hid (HN.out.below hb1)
      have HB1 := Lib.hid (HB.out.trans (hb1.mono hbs))
      have hbs1 := hb1.size
      clear hn1 hb1 HN HB
      go_wp2_with fail
      have e10 : 10 ^ j * 1000000000 = 10 ^ (j + 9) := by rw [Nat.pow_add]
      have HM := Mul_any _ _ _ _ w1 HNj.out HN1.out (pow10_sub (k := k) (by omega) HK.out) (limbs_length_le (by decide)) (by rw [e10]; exact pow10_sub (k := k) (by omega) HK.out)
      rw [e10] at HM
      refine HM.mono ?_
      rintro e w2 ⟨v2, rfl, hn2, hb2⟩
      have HN2 := Lib.hid hn2
      have HB2 := Lib.hid (HB1.out.trans (hb2.mono (by omega)))
      clear hn2 hb2 HM HN1 HNj HB1 e10
      go_wp2_with fail
      go_roundw
      case rel => exact ⟨r - 9, j + 9, by omega, by go_num, HN2.out, HB2.out⟩
      case measure => simp [intOf]; omega
    · have e9 : ¬ (9 : Int) ≤ (r : Int) := by omega
      go_wp2_with fail
      obtain ⟨wo, rfl⟩ : ∃ wo : World, wo = wr := ⟨_, rfl⟩
      go_loopw [0, 3] (fun i v wr => ∃ (r j : Nat), r + j = k ∧ i = .int .i64 r ∧ NatV wr v (10 ^ j) ∧ Below w.heap.size w wr) (fun i _ _ => (intOf i).toNat)
      case atStart => exact ⟨r, j, hrj, rfl, HN.out, HB.out⟩
      case round =>
        obtain ⟨r, j, hrj, rfl, hn, hb⟩ := hrel
        have HN := Lib.hid hn
        have HB := Lib.hid hb
        have hbs := hb.size
        clear hn hb
        by_cases h0 : 0 < r
        · have e9 : (0 : Int) < (r : Int) := by omega
          go_wp2_with fail
          refine (FromV 10 10 rfl (by decide) wr).mono ?_
          rintro e w1 ⟨v1, rfl, hn1, hb1⟩
          have HN1 := Lib.hid hn1
          have HNj := Lib.hid (HN.out.below hb1)
          have HB1 := Lib.hid (HB.out.trans (hb1.mono hbs))
          have hbs1 := hb1.size
          clear hn1 hb1
          go_wp2_with fail
          have e10 : 10 ^ j * 10 = 10 ^ (j + 1) := by rw [Nat.pow_add]
          have HM := Mul_any _ _ _ _ w1 HNj.out HN1.out (pow10_sub (k := k) (by omega) HK.out) (limbs_length_le (by decide)) (by rw [e10]; exact pow10_sub (k := k) (by omega) HK.out)
          rw [e10] at HM
          refine HM.mono ?_
          rintro e w2 ⟨v2, rfl, hn2, hb2⟩
          have HN2 := Lib.hid hn2
          have HB2 := Lib.hid (HB1.out.trans (hb2.mono (by omega)))
          clear hn2 hb2 HM HN1 HNj HB1 e10
          go_wp2_with fail
          go_roundw
          case rel => exact ⟨r - 1, j + 1, by omega, by go_num, HN2.out, HB2.out⟩
          case measure => simp [intOf]; omega
        · obtain rfl : r = 0 := by omega
          obtain rfl : j = k := by omega
          go_wp2_with fail
          go_ret
          exact ⟨_, rfl, HN.out, HB.out⟩

theorem Shl_zero (va : Value) (w : World) (hx : NatV w va 0) (kk : Nat) : Calls Tryz.prog 128 #[va, .int .i64 kk] w fun e w' => e = .returned (.tuple #[.slice none 0 0, .int .i64 0]) ∧ w = w' := by
  obtain ⟨a, ca, rfl, ha⟩ := hx
  have V1 := Lib.hid (valid_any a ca 0 w ha (by rw [limbs_zero]; simp))
  rw [limbs_zero] at *
  clear ha
  go_enter Tryz.func128, Tryz.ntmps128
  go_wp2_with fail
  refine V1.out.mono ?_
  rintro e w1 ⟨rfl, rfl⟩
  clear V1
  go_wp2_with fail
  go_ret2
  exact ⟨rfl, rfl⟩
theorem NatV.zero (w : World) : NatV w (.slice none 0 0) 0 := ⟨none, 0, by rw [limbs_zero]; rfl, by rw [limbs_zero]; exact Lies.nil w none 0 (by decide) (by simp)⟩

theorem shifted_any (va : Value) (x : Nat) (k : Int) (w : World) (hx : NatV w va x) (hk : k ≤ 8192) (hk0 : -100000 ≤ k) (hf : (limbs (x * 2 ^ k.toNat)).length ≤ 256) :
    Calls Tryz.prog 106 #[va, .int .i64 k] w fun e w' => ∃ v, e = .returned v ∧ NatV w' v (x * 2 ^ k.toNat) ∧ Below w.heap.size w w' := by
  have hm : max k 0 = (k.toNat : Int) := by omega
  have hkb : k.toNat ≤ 8192 := by omega
  generalize k.toNat = kk at *
  have HX := Lib.hid hx
  have HF := Lib.hid hf
  clear hx hf
  go_enter Tryz.func106, Tryz.ntmps106
  go_wp2_with fail
  rcases Nat.eq_zero_or_pos x with h0 | h0
  · have HX0 := HX.out
    rw [h0] at HX0
    refine (Shl_zero va w HX0 kk).mono ?_
    rintro e w1 ⟨rfl, rfl⟩
    have hz : x * 2 ^ kk = 0 := by rw [h0]; simp
    clear HX0
    go_wp2_with fail
    go_ret
    exact ⟨_, rfl, by rw [hz]; exact NatV.zero _, Below.refl _ _⟩
  · refine (Shl_any va x kk w HX.out h0 (by omega) HF.out).mono ?_
    rintro e w1 ⟨v1, rfl, hn1, hb1⟩
    have HN1 := Lib.hid hn1
    have HB1 := Lib.hid hb1
    clear hn1 hb1
    go_wp2_with fail
    go_ret
    exact ⟨_, rfl, HN1.out, HB1.out⟩

/-- word: the value modulo 2^64 -/
theorem word_step {X : List Nat} {k : Nat} (hk : k < X.length) (hX : ∀ x ∈ X, x < B32) : val (X.drop k) % 18446744073709551616 = (val (X.drop (k + 1)) % 18446744073709551616 * 4294967296 % 18446744073709551616) ||| X[k] := by
  rw [List.drop_eq_getElem_cons hk, val]
  have h1 := hX _ (List.getElem_mem hk)
  rw [B32] at *
  have h2 : val (X.drop (k + 1)) % 18446744073709551616 * 4294967296 % 18446744073709551616 = 2 ^ 32 * (val (X.drop (k + 1)) % 18446744073709551616 % 4294967296) := by omega
  rw [h2, ← Nat.two_pow_add_eq_or_of_lt (by omega)]
  omega

set_option maxRecDepth 100000 in
set_option maxHeartbeats 4000000 in
theorem word_any (va : Value) (x : Nat) (w : World) (hx : NatV w va x) (hX : (limbs x).length ≤ 256) :
    Calls Tryz.prog 107 #[va] w fun e w' => e = .returned (.int .u64 ((x % 18446744073709551616 : Nat) : Int)) ∧ w = w' := by
  obtain ⟨a, ca, rfl, ha⟩ := hx
  have hle := ha.le
  have HA := Lib.hid ha
  have hv : Hid (val (limbs x) = x) := val_limbs x
  have hlt := Lib.hid (limbs_lt x)
  clear ha
  generalize limbs x = X at *
  go_enter Tryz.func107, Tryz.ntmps107
  go_wp2_with fail
  go_loop [3, 4] (fun n i => ∃ k : Nat, k ≤ X.length ∧ i = .int .i64 ((k : Int) - 1) ∧ n = .int .u64 ((val (X.drop k) % 18446744073709551616 : Nat) : Int)) (fun _ i => (intOf i + 1).toNat)
  case atStart => exact ⟨X.length, Nat.le_refl _, rfl, by simp [val]⟩
  case round =>
    obtain ⟨k, hk, rfl, rfl⟩ := hrel
    cases k with
    | zero =>
      have hxv : Hid (val (X.drop 0) % 18446744073709551616 = x % 18446744073709551616) := by show _ = _; rw [List.drop_zero, hv.out]
      generalize val (X.drop 0) % 18446744073709551616 = y at *
      go_wp2_with fail
      go_ret
      exact ⟨by rw [hxv.out]; simp, rfl⟩
    | succ k =>
      obtain ⟨b, off, rfl, hc⟩ := HA.out.at_ k (by omega)
      have hst := word_step (show k < X.length by omega) hlt.out
      have hxk : X[k] < 4294967296 := hlt.out _ (List.getElem_mem _)
      obtain ⟨n, hn⟩ : ∃ n, n = val (X.drop (k + 1)) % 18446744073709551616 := ⟨_, rfl⟩
      obtain ⟨m, hm⟩ : ∃ m, m = val (X.drop k) % 18446744073709551616 := ⟨_, rfl⟩
      have hn64 : n < 18446744073709551616 := by rw [hn]; exact Nat.mod_lt _ (by decide)
      rw [← hn, ← hm] at hst
      rw [← hn]
      have HM := Lib.hid hm
      clear hn hm
      generalize X[k] = xk at *
      have e1 : bits .or .u64 (IntKind.wrap .u64 ((n : Int) * 4294967296)) (xk : Int) = (m : Int) := by
        have h := u64_or_nat (n * 4294967296 % 18446744073709551616) xk (Nat.mod_lt _ (by decide)) (by omega)
        rw [← hst] at h
        rw [← h, IntKind.wrap_u64]; simp
      clear hst
      go_wp2_with fail
      go_round
      case rel => exact ⟨k, by omega, by go_num, by rw [HM.out]⟩
      case measure => simp [intOf]
end Go.Proofs.YtcipmfjefmjacaaGreatDoor
