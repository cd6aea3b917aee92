/- What NumPowers's code computes: it answers true. -/
import Derived.Test.YtkpikkeblogdcaaDoorM8
namespace Go.Proofs.YtkpikkeblogdcaaDoor
open Go.RowKit
set_option linter.unusedVariables false

/-- what of a power is to be seen at each of the few inputs -/
def tabX (x : Int) (n : Nat) : Bool :=
  match powO 64 n 4607182418800017408 (FloatKind.f64.nearest x) with
  | some o => (match powR (FloatKind.f64.nearest (n : Int)) o with
    | some r => FloatKind.f64.format.order r (FloatKind.f64.nearest (x ^ n)) == some .eq
    | none => false)
  | none => false
def tabN (n : Nat) : Bool :=
  powOk (FloatKind.f64.nearest (n : Int)) && (powK (FloatKind.f64.nearest (n : Int)) == some (n : Int)) &&
  (powOk (FloatKind.f64.nearest (-(n : Int))) && (powK (FloatKind.f64.nearest (-(n : Int))) == some (n : Int)))
def tabH (n : Nat) : Bool :=
  match FloatKind.f64.format.add (FloatKind.f64.nearest (n : Int)) 4602678819172646912 with
  | some h => decide (h < 18446744073709551616) && !powOk h
  | none => false
def tabW (n : Nat) : Bool :=
  match powO 64 n 4607182418800017408 4611686018427387904 with
  | some o => (match powR (FloatKind.f64.nearest (-(n : Int))) o with
    | some w => (match powR (FloatKind.f64.nearest (n : Int)) o with
      | some v => (match FloatKind.f64.format.mul w v with
        | some q => FloatKind.f64.format.order q 4607182418800017408 == some .eq
        | none => false)
      | none => false)
    | none => false)
  | none => false
theorem tabX_all : ((List.range 19).all fun i => (List.range 16).all fun n => tabX ((i : Int) - 9) n) = true := by kernel_rfl
theorem tabN_all : ((List.range 16).all fun n => tabN n && tabH n && tabW n) = true := by kernel_rfl

theorem tabX_get {x : Int} {n : Nat} (h1 : -9 ≤ x) (h2 : x ≤ 9) (hn : n ≤ 15) : ∃ o r, powO 64 n 4607182418800017408 (FloatKind.f64.nearest x) = some o ∧ powR (FloatKind.f64.nearest (n : Int)) o = some r ∧ FloatKind.f64.format.order r (FloatKind.f64.nearest (x ^ n)) = some .eq := by
  have h3 := List.all_eq_true.1 (List.all_eq_true.1 tabX_all (x + 9).toNat (List.mem_range.2 (by omega))) n (List.mem_range.2 (by omega))
  rw [show (((x + 9).toNat : Int) - 9) = x by omega] at h3
  unfold tabX at h3
  split at h3
  · rename_i o ho
    split at h3
    · rename_i r hr
      exact ⟨o, r, ho, hr, by simpa using h3⟩
    · cases h3
  · cases h3
theorem tabN_get {n : Nat} (hn : n ≤ 15) : (powOk (FloatKind.f64.nearest (n : Int)) = true ∧ powK (FloatKind.f64.nearest (n : Int)) = some (n : Int) ∧ powOk (FloatKind.f64.nearest (-(n : Int))) = true ∧ powK (FloatKind.f64.nearest (-(n : Int))) = some (n : Int))
    ∧ (∃ h, FloatKind.f64.format.add (FloatKind.f64.nearest (n : Int)) 4602678819172646912 = some h ∧ h < 18446744073709551616 ∧ powOk h = false)
    ∧ ∃ o w v q, powO 64 n 4607182418800017408 4611686018427387904 = some o ∧ powR (FloatKind.f64.nearest (-(n : Int))) o = some w ∧ powR (FloatKind.f64.nearest (n : Int)) o = some v ∧ FloatKind.f64.format.mul w v = some q ∧ FloatKind.f64.format.order q 4607182418800017408 = some .eq := by
  have h3 := List.all_eq_true.1 tabN_all n (List.mem_range.2 (by omega))
  rw [Bool.and_eq_true, Bool.and_eq_true] at h3
  obtain ⟨⟨h4, h5⟩, h6⟩ := h3
  refine ⟨?_, ?_, ?_⟩
  · unfold tabN at h4
    rw [Bool.and_eq_true, Bool.and_eq_true, Bool.and_eq_true, beq_iff_eq, beq_iff_eq] at h4
    exact ⟨h4.1.1, h4.1.2, h4.2.1, h4.2.2⟩
  · unfold tabH at h5
    split at h5
    · rename_i h hh
      rw [Bool.and_eq_true, decide_eq_true_eq, Bool.not_eq_true'] at h5
      exact ⟨h, hh, h5.1, h5.2⟩
    · cases h5
  · unfold tabW at h6
    split at h6
    · rename_i o ho
      split at h6
      · rename_i w hw
        split at h6
        · rename_i v hv
          split at h6
          · rename_i q hq
            exact ⟨o, w, v, q, ho, hw, hv, hq, by simpa using h6⟩
          · cases h6
        · cases h6
      · cases h6
    · cases h6
theorem pow_small {x : Int} {n : Nat} (h1 : x.natAbs ≤ 9) (hn : n ≤ 15) : (x ^ n).natAbs ≤ 205891132094649 := by
  rw [Int.natAbs_pow]
  calc x.natAbs ^ n ≤ 9 ^ n := Nat.pow_le_pow_left h1 n
    _ ≤ 9 ^ 15 := Nat.pow_le_pow_right (by decide) hn
    _ = 205891132094649 := by decide

set_option maxRecDepth 100000 in
set_option maxHeartbeats 4000000 in
theorem powers_any (x0 n0 : Int) (w : World) (hx1 : -9223372036854775808 ≤ x0) (hx2 : x0 ≤ 9223372036854775807) (hn1 : -9223372036854775808 ≤ n0) (hn2 : n0 ≤ 9223372036854775807) :
    Calls Tryd.prog 12 #[.int .i64 x0, .int .i64 n0] w fun e w' => e = .returned (.bool true) ∧ Below w.heap.size w w' := by
  obtain ⟨X, hX⟩ : ∃ X, X = x0.tmod 10 := ⟨_, rfl⟩
  have hXl : X.natAbs ≤ 9 := by
    have h : x0.natAbs % 10 < 10 := Nat.mod_lt _ (by decide)
    have h2 : (x0.tmod 10).natAbs = x0.natAbs % 10 := Int.natAbs_tmod ..
    rw [hX]; omega
  have eX : x0.tmod 10 = X := hX.symm
  obtain ⟨n, hn⟩ : ∃ n : Nat, n = (min (max n0 0) 15).toNat := ⟨_, rfl⟩
  have en : min (max n0 0) 15 = (n : Int) := by omega
  have hnl : n ≤ 15 := by omega
  obtain ⟨⟨q1, q2, q3, q4⟩, ⟨h, q5, q6, q7⟩, o2, wv, v, q, q8, q9, q10, q11, q12⟩ := tabN_get hnl
  obtain ⟨o, r, p1, p2, p3⟩ := tabX_get (x := X) (by omega) (by omega) hnl
  obtain ⟨FX, hFX⟩ : ∃ F, floatOfInt FloatKind.f64 X = F := ⟨_, rfl⟩
  obtain ⟨Fn, hFn⟩ : ∃ F, floatOfInt FloatKind.f64 (n : Int) = F := ⟨_, rfl⟩
  obtain ⟨Fm, hFm⟩ : ∃ F, floatOfInt FloatKind.f64 (-(n : Int)) = F := ⟨_, rfl⟩
  obtain ⟨Fp, hFp⟩ : ∃ F, floatOfInt FloatKind.f64 (X ^ n) = F := ⟨_, rfl⟩
  rw [show FloatKind.f64.nearest X = FX from hFX] at p1
  rw [show FloatKind.f64.nearest (n : Int) = Fn from hFn] at *
  rw [show FloatKind.f64.nearest (-(n : Int)) = Fm from hFm] at *
  rw [show FloatKind.f64.nearest (X ^ n) = Fp from hFp] at p3
  have gn : Fn < 18446744073709551616 := by
    have h3 := (nearest_sv (n := (n : Int)) (by omega)).1
    rw [show FloatKind.f64.nearest (n : Int) = Fn from hFn] at h3
    exact h3
  have gm : Fm < 18446744073709551616 := by
    have h3 := (nearest_sv (n := -(n : Int)) (by omega)).1
    rw [show FloatKind.f64.nearest (-(n : Int)) = Fm from hFm] at h3
    exact h3
  have HP1 := Lib.hid (fun W => Pow_ok FX Fn n o r W gn q1 q2 p1 p2)
  have HP2 := Lib.hid (fun W => Pow_no FX h W q6 q7)
  have HP3 := Lib.hid (fun W => Pow_ok 4611686018427387904 Fm n o2 wv W gm q3 q4 q8 q9)
  have HP4 := Lib.hid (fun W => Pow_ok 4611686018427387904 Fn n o2 v W gn q1 q2 q8 q10)
  have m1 : ∀ t w, (binOp .add t (.float .f64 Fn) (.float .f64 4602678819172646912)).run Tryd.prog w = .ok (.float .f64 h) w := fun t w => run_float_arith w .add t .f64 Fn _ h q5
  have m2 : ∀ t w, (binOp .mul t (.float .f64 wv) (.float .f64 v)).run Tryd.prog w = .ok (.float .f64 q) w := fun t w => run_float_arith w .mul t .f64 wv v q q11
  have o0 : FloatKind.f64.format.order 0 0 = some .eq := by kernel_rfl
  have HXl := Lib.hid hXl
  have HFp := Lib.hid hFp
  have xb1 : -9 ≤ X := by omega
  have xb2 : X ≤ 9 := by omega
  clear hX hn hXl q1 q2 q3 q4 q5 q6 q7 q8 q9 q10 q11 p1 p2 gn gm hFp hx1 hx2 hn1 hn2
  obtain ⟨Ni, hNi⟩ : ∃ Ni : Int, Ni = (n : Int) := ⟨_, rfl⟩
  have HNi := Lib.hid hNi
  rw [← hNi] at en hFn hFm
  have nb1 : 0 ≤ Ni := by omega
  have nb2 : Ni ≤ 15 := by omega
  clear hNi
  go_enter Tryd.func12, Tryd.ntmps12
  go_wp2_with fail
  refine (fixed4_any w).mono ?_
  rintro e w1 ⟨rfl, hb⟩
  have HB := Lib.hid hb
  clear hb
  go_wp2_with fail
  obtain ⟨wo, rfl⟩ : ∃ wo : World, wo = w1 := ⟨_, rfl⟩
  go_loop [5, 6] (fun pv iv => ∃ (i : Nat), pv = .int .i64 (X ^ i) ∧ iv = .int .i64 i ∧ i ≤ n) (fun _ iv => n - (intOf iv).toNat)
  case atStart => exact ⟨0, by simp, rfl, Nat.zero_le _⟩
  case round =>
    obtain ⟨i, rfl, rfl, h1⟩ := hrel
    rcases Nat.lt_or_ge i n with hi | hi
    · have c1 := pow_small HXl.out (show i + 1 ≤ 15 by omega)
      obtain ⟨P, hP⟩ : ∃ P, P = X ^ i := ⟨_, rfl⟩
      have HPw : Hid (P * X = X ^ (i + 1)) := by show _ = _; rw [hP, Int.pow_succ]
      have c2 : P * X ≤ 205891132094649 := by rw [HPw.out]; omega
      have c3 : -205891132094649 ≤ P * X := by rw [HPw.out]; omega
      rw [← hP]
      have hiN : (i : Int) < Ni := by rw [HNi.out]; omega
      clear c1 hP
      go_wp2_with fail
      go_round
      case rel => exact ⟨i + 1, by rw [HPw.out], rfl, hi⟩
      case measure => simp only [intOf]; omega
    · have hin : i = n := by omega
      subst hin
      have hiN : Ni ≤ (i : Int) := by rw [HNi.out]; omega
      have hF := HFp.out
      obtain ⟨P, hP⟩ : ∃ P, P = X ^ i := ⟨_, rfl⟩
      rw [← hP] at hF ⊢
      clear hP HFp
      go_wp2_with fail
      refine (HP1.out _).mono ?_
      rintro e _ ⟨rfl, rfl⟩
      go_wp2_with fail
      refine (HP2.out _).mono ?_
      rintro e _ ⟨rfl, rfl⟩
      go_wp2_with fail
      refine (HP3.out _).mono ?_
      rintro e _ ⟨rfl, rfl⟩
      go_wp2_with fail
      refine (HP4.out _).mono ?_
      rintro e _ ⟨rfl, rfl⟩
      go_wp2_with fail
      go_ret
      exact ⟨rfl, HB.out⟩
end Go.Proofs.YtkpikkeblogdcaaDoor
