/- The document's example of package num. -/
import Derived.Test.YtcmpdamfeoaapaaGreatDoorK13
import Derived.Test.YtcmpdamfeoaapaaGreatDoorK12
import Derived.Test.YtcmpdamfeoaapaaGreatDoorM4
namespace Go.Proofs.YtcmpdamfeoaapaaGreatDoor
open Go.RowKit
set_option linter.unusedVariables false

theorem ex_prefB : prefB [32, 32, 45, 49, 50, 46, 53, 101, 49, 107, 103] = 13861868546813853696 := by kernel_rfl
theorem ex_prefN : prefN [32, 32, 45, 49, 50, 46, 53, 101, 49, 107, 103] = 9 := by kernel_rfl
theorem ex_base : baseO [49, 70, 103] 0 0 = some (4629418941960159232, 2) := by kernel_rfl
theorem ex_looks1 : looksL [32, 51, 32] = true := by kernel_rfl
theorem ex_looks2 : looksL [51, 120] = false := by kernel_rfl
theorem ex_whole : wholeOk 14054727237768577024 = true := by kernel_rfl
theorem ex_digits : scaledN 14054727237768577024 0 = 1000000000000000 := by kernel_rfl
theorem ex_rest : vl 4619567317775286272 % vl 4613937818241073152 = vl 4607182418800017408 := Nat.eq_of_beq_eq_true (by kernel_rfl)

theorem Prefix_ex (w : World) : Calls Tryz.prog 10 #[.string ⟨#[32, 32, 45, 49, 50, 46, 53, 101, 49, 107, 103]⟩] w fun e w' => e = .returned (.tuple #[.float .f64 13861868546813853696, .int .i64 9]) ∧ Below w.heap.size w w' := by
  have h := Prefix_any ⟨#[32, 32, 45, 49, 50, 46, 53, 101, 49, 107, 103]⟩ w (by decide)
  rw [show (⟨#[32, 32, 45, 49, 50, 46, 53, 101, 49, 107, 103]⟩ : ByteArray).data.toList = [32, 32, 45, 49, 50, 46, 53, 101, 49, 107, 103] from rfl, ex_prefB, ex_prefN] at h
  exact h
theorem Looks_ex1 (w : World) : Calls Tryz.prog 15 #[.string ⟨#[32, 51, 32]⟩] w fun e w' => e = .returned (.bool true) ∧ Below w.heap.size w w' := by
  have h := Looks_any ⟨#[32, 51, 32]⟩ w (by decide)
  rw [show (⟨#[32, 51, 32]⟩ : ByteArray).data.toList = [32, 51, 32] from rfl, ex_looks1] at h
  exact h
theorem Looks_ex2 (w : World) : Calls Tryz.prog 15 #[.string ⟨#[51, 120]⟩] w fun e w' => e = .returned (.bool false) ∧ Below w.heap.size w w' := by
  have h := Looks_any ⟨#[51, 120]⟩ w (by decide)
  rw [show (⟨#[51, 120]⟩ : ByteArray).data.toList = [51, 120] from rfl, ex_looks2] at h
  exact h
theorem Literal_ex (w : World) : Calls Tryz.prog 12 #[.string ⟨#[48, 120, 49, 70, 103]⟩] w fun e w' => e = .returned (.tuple #[.float .f64 4629418941960159232, .int .i64 4]) ∧ w = w' :=
  Literal_hex ⟨#[48, 120, 49, 70, 103]⟩ 4629418941960159232 2 w (by decide) (by decide) ex_base (by decide) (by decide)
theorem Whole_ex (w : World) : Calls Tryz.prog 26 #[.float .f64 14054727237768577024] w fun e w' => e = .returned (.tuple #[.string ⟨#[45, 49, 48, 48, 48, 48, 48, 48, 48, 48, 48, 48, 48, 48, 48, 48, 48]⟩, .bool true]) ∧ Below w.heap.size w w' := by
  refine (Whole_yes 14054727237768577024 w (by decide) ex_whole).mono ?_
  rintro e w' ⟨s, rfl, ⟨l, hc, hs⟩, hb⟩
  rw [ex_digits] at hc
  have hl := canon_unique hc (canon_mk (l := [49, 48, 48, 48, 48, 48, 48, 48, 48, 48, 48, 48, 48, 48, 48, 48]) (by decide) (by simp) (by decide) (.inr (by decide)))
  rw [if_pos (by kernel_rfl), hl] at hs
  rw [toBytes hs]
  exact ⟨rfl, hb⟩
theorem Mod_ex (w : World) : Calls Tryz.prog 32 #[.float .f64 13842939354630062080, .float .f64 4613937818241073152] w fun e w' => e = .returned (.float .f64 13830554455654793216) ∧ w = w' := by
  refine (Mod_fin 13842939354630062080 4613937818241073152 w (by decide) (by decide) (by decide) (by decide) (by decide)).mono ?_
  rintro e w' ⟨⟨r, rfl, B, hB, hr, hv⟩, rfl⟩
  have h1 : 13842939354630062080 % 9223372036854775808 = 4619567317775286272 := by decide
  have h2 : 4613937818241073152 % 9223372036854775808 = 4613937818241073152 := by decide
  have h3 : 13842939354630062080 / 9223372036854775808 = 1 := by decide
  rw [h1, h2, ex_rest] at hv
  rw [h3, vl_inj hv] at hr
  rw [hr]
  exact ⟨rfl, rfl⟩

set_option maxRecDepth 100000 in
set_option maxHeartbeats 2000000 in
theorem fixed4_any (w : World) : Calls Tryz.prog 9 #[] w fun e w' => e = .returned (.bool true) ∧ Below w.heap.size w w' := by
  have o1 : FloatKind.f64.format.order 13861868546813853696 13861868546813853696 = some .eq := by kernel_rfl
  have o2 : FloatKind.f64.format.order 4629418941960159232 4629418941960159232 = some .eq := by kernel_rfl
  have o3 : FloatKind.f64.format.order 13830554455654793216 13830554455654793216 = some .eq := by kernel_rfl
  go_enter Tryz.func9, Tryz.ntmps9
  go_wp2_with fail
  refine (Prefix_ex w).mono ?_
  rintro e w1 ⟨rfl, hb1⟩
  have HB1 := Lib.hid hb1
  have hs1 := hb1.size
  clear hb1
  go_wp2_with fail
  refine (Literal_ex _).mono ?_
  rintro e w2 ⟨rfl, rfl⟩
  go_wp2_with fail
  refine (Whole_ex _).mono ?_
  rintro e w2 ⟨rfl, hb2⟩
  have HB2 := Lib.hid (HB1.out.trans (hb2.mono hs1))
  have hs2 := hb2.size
  clear hb2 HB1
  go_wp2_with fail
  refine (Mod_ex _).mono ?_
  rintro e w3 ⟨rfl, rfl⟩
  go_wp2_with fail
  refine (Looks_ex1 _).mono ?_
  rintro e w3 ⟨rfl, hb3⟩
  have HB3 := Lib.hid (HB2.out.trans (hb3.mono (by omega)))
  have hs3 := hb3.size
  clear hb3 HB2
  go_wp2_with fail
  refine (Looks_ex2 _).mono ?_
  rintro e w4 ⟨rfl, hb4⟩
  have HB4 := Lib.hid (HB3.out.trans (hb4.mono (by omega)))
  clear hb4 HB3
  go_wp2_with fail
  go_ret
  exact ⟨rfl, HB4.out⟩
end Go.Proofs.YtcmpdamfeoaapaaGreatDoor
