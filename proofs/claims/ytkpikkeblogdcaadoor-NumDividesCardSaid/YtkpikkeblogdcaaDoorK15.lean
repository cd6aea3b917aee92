/- What NumDivides's code computes: it answers true. -/
import Derived.Test.YtkpikkeblogdcaaDoorM8
namespace Go.Proofs.YtkpikkeblogdcaaDoor
open Go.RowKit
set_option linter.unusedVariables false

/-- a float's bits, and the whole number that it is -/
structure Good (x : Nat) (A : Int) : Prop where
  lt : x < 18446744073709551616
  fin : x % 9223372036854775808 < 9218868437227405312
  val : sv x = A * (kk : Int)
theorem Good.int {A : Int} (h : A.natAbs < 9007199254740992) : Good (FloatKind.f64.nearest A) A := by
  obtain ⟨h1, h2, h3⟩ := nearest_sv h
  exact ⟨h1, h2, h3⟩
theorem Good.same {x y : Nat} {A : Int} (hx : Good x A) (hy : Good y A) : FloatKind.f64.format.order x y = some .eq :=
  order_sv_eq hx.lt hy.lt hx.fin hy.fin (hx.val.trans hy.val.symm)
theorem Good.isFin {x : Nat} {A : Int} (hx : Good x A) : Go.Proofs.YtkpikkeblogdcaaDoor.fin x = true := by
  rw [← (mant_mod x).2.2]
  exact (fin_lt_inf (Nat.mod_lt _ (by decide))).2 hx.fin
theorem Good.mant {x : Nat} {A : Int} (hx : Good x A) (hA : A ≠ 0) : Go.Proofs.YtkpikkeblogdcaaDoor.mant x ≠ 0 := by
  intro h
  obtain ⟨h1, _⟩ := vl_parts hx.isFin
  rw [h, Nat.zero_mul] at h1
  have h2 := hx.val
  unfold sv at h2
  rw [← h1] at h2
  have h3 : A * (kk : Int) = 0 := by rw [← h2]; split <;> rfl
  have h4 : (0 : Int) < (kk : Int) := Int.natCast_pos.2 kk_pos
  rcases Int.mul_eq_zero.1 h3 with h5 | h5
  · exact hA h5
  · rw [h5] at h4; exact absurd h4 (by decide)
theorem Good.neg {x : Nat} {A : Int} (hx : Good x A) : Good (Op.negFloat .f64 x) (-A) := by
  have h1 := hx.fin
  have h2 := hx.lt
  have h3 := hx.val
  rcases Nat.lt_or_ge x 9223372036854775808 with h | h
  · rw [negF h]
    rw [Nat.mod_eq_of_lt h] at h1
    refine ⟨by omega, by omega, ?_⟩
    unfold sv at h3 ⊢
    rw [if_pos (by omega), Nat.mod_eq_of_lt h] at h3
    rw [if_neg (by omega), Nat.add_mod_right, Nat.mod_eq_of_lt h, h3, Int.neg_mul]
  · obtain ⟨r, rfl⟩ : ∃ r, x = r + 9223372036854775808 := ⟨x - 9223372036854775808, by omega⟩
    have hr : r < 9223372036854775808 := by omega
    have e : Op.negFloat .f64 (r + 9223372036854775808) = r := by
      rw [← negF hr]
      show (r ^^^ 2 ^ 63) ^^^ 2 ^ 63 = r
      rw [Nat.xor_assoc, Nat.xor_self, Nat.xor_zero]
    rw [e]
    rw [Nat.add_mod_right, Nat.mod_eq_of_lt hr] at h1
    refine ⟨by omega, by omega, ?_⟩
    unfold sv at h3 ⊢
    rw [if_neg (by omega), Nat.add_mod_right, Nat.mod_eq_of_lt hr] at h3
    rw [if_pos (by omega), Nat.mod_eq_of_lt hr, Int.neg_mul, ← h3, Int.neg_neg]

theorem Mod_int (x y : Nat) (A B : Int) (w : World) (hx : Good x A) (hy : Good y B) (hB : B ≠ 0) :
    Calls Tryd.prog 33 #[.float .f64 x, .float .f64 y] w fun e w' => ∃ r, e = .returned (.float .f64 r) ∧ Good r (A.tmod B) ∧ w = w' := by
  refine (Mod_fin x y w hx.lt hy.lt hx.isFin hy.isFin (hy.mant hB)).mono ?_
  rintro e w' ⟨⟨r, rfl, hr⟩, rfl⟩
  obtain ⟨h1, h2, h3⟩ := ModR_sv hx.lt hr
  refine ⟨r, rfl, ⟨h1, h2, ?_⟩, rfl⟩
  rw [h3, hx.val, hy.val, Int.mul_comm A, Int.mul_comm B, Int.mul_tmod_mul_of_pos _ _ (Int.natCast_pos.2 kk_pos), Int.mul_comm]

set_option maxRecDepth 100000 in
set_option maxHeartbeats 4000000 in
theorem divides_any (a0 b0 : Int) (w : World) (ha1 : -9223372036854775808 ≤ a0) (ha2 : a0 ≤ 9223372036854775807) (hb1 : -9223372036854775808 ≤ b0) (hb2 : b0 ≤ 9223372036854775807) :
    Calls Tryd.prog 10 #[.int .i64 a0, .int .i64 b0] w fun e w' => e = .returned (.bool true) ∧ Below w.heap.size w w' := by
  obtain ⟨A, hA⟩ : ∃ A, A = a0.tmod 9007199254740992 := ⟨_, rfl⟩
  obtain ⟨B, hB⟩ : ∃ B, B = b0.tmod 9007199254740992 := ⟨_, rfl⟩
  have hAl : A.natAbs < 9007199254740992 := by rw [hA, Int.natAbs_tmod]; exact Nat.mod_lt _ (by decide)
  have hBl : B.natAbs < 9007199254740992 := by rw [hB, Int.natAbs_tmod]; exact Nat.mod_lt _ (by decide)
  have eA : a0.tmod 9007199254740992 = A := hA.symm
  have eB : b0.tmod 9007199254740992 = B := hB.symm
  clear hA hB
  have k1 : -9007199254740992 < A := by omega
  have k2 : A < 9007199254740992 := by omega
  have k3 : -9007199254740992 < B := by omega
  have k4 : B < 9007199254740992 := by omega
  obtain ⟨C, hC⟩ : ∃ C, C = A.tmod B := ⟨_, rfl⟩
  have eC : A.tmod B = C := hC.symm
  have hCl : C.natAbs < 9007199254740992 := by
    rw [hC, Int.natAbs_tmod]; exact Nat.lt_of_le_of_lt (Nat.mod_le _ _) hAl
  clear hC
  have GA := Lib.hid (Good.int hAl)
  have GB := Lib.hid (Good.int hBl)
  have GC := Lib.hid (Good.int hCl)
  have GnA := Lib.hid (Good.int (A := -A) (by omega))
  have GnB := Lib.hid (Good.int (A := -B) (by omega))
  obtain ⟨FA, hFA⟩ : ∃ F, floatOfInt FloatKind.f64 A = F := ⟨_, rfl⟩
  obtain ⟨FB, hFB⟩ : ∃ F, floatOfInt FloatKind.f64 B = F := ⟨_, rfl⟩
  obtain ⟨FC, hFC⟩ : ∃ F, floatOfInt FloatKind.f64 C = F := ⟨_, rfl⟩
  obtain ⟨FnA, hFnA⟩ : ∃ F, floatOfInt FloatKind.f64 (-A) = F := ⟨_, rfl⟩
  obtain ⟨FnB, hFnB⟩ : ∃ F, floatOfInt FloatKind.f64 (-B) = F := ⟨_, rfl⟩
  rw [show FloatKind.f64.nearest A = FA from hFA] at GA
  rw [show FloatKind.f64.nearest B = FB from hFB] at GB
  rw [show FloatKind.f64.nearest C = FC from hFC] at GC
  rw [show FloatKind.f64.nearest (-A) = FnA from hFnA] at GnA
  rw [show FloatKind.f64.nearest (-B) = FnB from hFnB] at GnB
  clear hAl hBl hCl
  go_enter Tryd.func10, Tryd.ntmps10
  go_wp2_with fail
  refine (fixed4_any w).mono ?_
  rintro e w1 ⟨rfl, hb⟩
  have HB := Lib.hid hb
  clear hb
  by_cases hb0 : B = 0
  · subst hb0
    have hN : FloatKind.f64.format.order 9221120237041090561 9221120237041090561 = none := by kernel_rfl
    have HM := Lib.hid (fun W => Mod_bad FA 0 W GA.out.lt (by decide) (by
      unfold modBad
      rw [GA.out.isFin]
      decide))
    clear eC hFB hFC hFnA hFnB
    go_wp2_with fail
    refine (HM.out _).mono ?_
    rintro e w2 ⟨rfl, rfl⟩
    go_wp2_with fail
    go_ret
    exact ⟨rfl, HB.out⟩
  · have hb0' : (B == 0) = false := beq_eq_false_iff_ne.2 hb0
    have HM1 := Lib.hid (fun W => Mod_int FA FB A B W GA.out GB.out hb0)
    have HM2 := Lib.hid (fun r W (h : Good r C) => Mod_int r FB C B W h GB.out hb0)
    have HM3 := Lib.hid (fun W => Mod_int FA FnB A (-B) W GA.out GnB.out (by omega))
    have HM4 := Lib.hid (fun W => Mod_int FnA FB (-A) B W GnA.out GB.out hb0)
    have t2 : C.tmod B = C := by rw [← eC, Int.tmod_tmod]
    have t3 : A.tmod (-B) = C := by rw [Int.tmod_neg, eC]
    have t4 : (-A).tmod B = -C := by rw [Int.neg_tmod, eC]
    rw [eC] at HM1
    rw [t2] at HM2
    rw [t3] at HM3
    rw [t4] at HM4
    clear t2 t3 t4
    go_wp2_with fail
    refine (HM1.out _).mono ?_
    rintro e _ ⟨r, rfl, hr, rfl⟩
    have HR := Lib.hid hr
    have o1 := hr.same GC.out
    have HMr := Lib.hid (fun W => HM2.out r W hr)
    clear hr HM1 HM2
    go_wp2_with fail
    refine (HMr.out _).mono ?_
    rintro e _ ⟨r2, rfl, hr2, rfl⟩
    have o2 := hr2.same HR.out
    clear hr2 HMr
    go_wp2_with fail
    refine (HM3.out _).mono ?_
    rintro e _ ⟨r3, rfl, hr3, rfl⟩
    have o3 := hr3.same HR.out
    clear hr3 HM3
    go_wp2_with fail
    refine (HM4.out _).mono ?_
    rintro e _ ⟨r4, rfl, hr4, rfl⟩
    have o4 := hr4.same HR.out.neg
    clear hr4 HM4
    go_wp2_with fail
    go_ret
    exact ⟨rfl, HB.out⟩
end Go.Proofs.YtkpikkeblogdcaaDoor
