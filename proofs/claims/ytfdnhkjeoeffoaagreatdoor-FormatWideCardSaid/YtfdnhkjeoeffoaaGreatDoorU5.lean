/- The law's example of package format. -/
import Derived.Test.YtfdnhkjeoeffoaaGreatDoorM7
import Derived.Test.YtfdnhkjeoeffoaaGreatDoorM12
import Derived.Test.YtfdnhkjeoeffoaaGreatDoorZ1
namespace Go.Proofs.YtfdnhkjeoeffoaaGreatDoor
open Go.RowKit
set_option linter.unusedVariables false

theorem ex5_parse : parseA ⟨#[97, 37, 43, 48, 56, 46, 50, 102, 98]⟩ 1 = #[.bool false, .bool true, .bool false, .bool false, .bool true, .int .i64 8, .int .i64 2, .int .u8 102, .bool false, .bool false, .int .i64 8] := by kernel_rfl
theorem ex5_err : parseE ⟨#[97, 37, 43, 48, 56, 46, 50, 102, 98]⟩ 1 = 0 := by kernel_rfl
theorem ex5_canon : Canon [51, 49, 52] (scaledN 4614256650576692846 2) := by
  rw [show scaledN 4614256650576692846 2 = 314 from by kernel_rfl]
  exact canon_mk (by decide) (by decide) (by decide) (by decide)
theorem ex5_text : textS true 5 2 115 ⟨#[97, 195, 169, 122]⟩ false = ⟨#[97, 195, 169, 32, 32, 32]⟩ := by kernel_rfl
theorem ex5_texte : textE 5 2 115 = 0 := by kernel_rfl
theorem ex5_sci : SciAt 4591870180066957722 5 (-1) where
  ge := of_decide_eq_true (by kernel_rfl)
  lt := of_decide_eq_true (by kernel_rfl)
  least := ⟨-1, Int.le_refl _, by unfold GeT; exact of_decide_eq_true (by kernel_rfl), fun y h1 h2 => by omega⟩
theorem ex5_dl : dl (scaledN 4591870180066957722 6) = [49, 48, 48, 48, 48, 48] := by
  rw [show scaledN 4591870180066957722 6 = 100000 from by kernel_rfl]
  exact dl_eq (canon_mk (by decide) (by decide) (by decide) (by decide))
theorem ex5_e : sciE 4591870180066957722 5 = -1 := by
  unfold sciE
  rw [if_neg (of_decide_eq_true (p := ¬ (mant 4591870180066957722 = 0)) (by kernel_rfl)), sciX_eq ex5_sci]
theorem ex5_gen : genO 4591870180066957722 5 false = ⟨#[48, 46, 49]⟩ := by
  have hB : genB 4591870180066957722 5 = false := by unfold genB; rw [ex5_e]; decide
  have hF : genF 4591870180066957722 5 = ⟨#[48, 46, 49, 48, 48, 48, 48, 48]⟩ := by
    unfold genF
    rw [ex5_e, show (((5 : Nat) : Int) - -1).toNat = 6 from rfl]
    unfold fixT
    rw [show ((6 : Nat) : Int) = 6 from rfl, ex5_dl]
    kernel_rfl
  unfold genO genH genT
  rw [hB, hF]
  simp only [Bool.false_eq_true, if_false]
  rw [if_pos (by decide)]
  exact of_decide_eq_true (by kernel_rfl)
theorem ex5_conv : convO 4591870180066957722 = ⟨#[48, 46, 49]⟩ := by
  unfold convO
  rw [if_neg (by rw [c01_whole]; decide), if_pos (by decide), ex5_gen]
  kernel_rfl
set_option maxHeartbeats 8000000 in
set_option maxRecDepth 1000000 in
theorem fixed5_any (w : World) (hE : ErrOk w) (hT : PowOk w) (hU : U8Ok w) : Calls Tryz.prog 23 #[] w fun e w' => e = .returned (.bool true) ∧ Below w.heap.size w w' := by
  have HP := Lib.hid (FParse_any ⟨#[97, 37, 43, 48, 56, 46, 50, 102, 98]⟩ 1 w (by decide) hE)
  rw [ex5_parse, ex5_err] at HP
  have HN := Lib.hid (fun W => Number_f false true false true 8 2 4614256650576692846 [51, 49, 52] W (by decide) (by decide) (by decide) ex5_canon (by decide) (by decide) (by decide))
  rw [show (⟨(padL false true 8 (signL true false (decide (9223372036854775808 ≤ 4614256650576692846))) (fixedL [51, 49, 52] 2)).toArray⟩ : ByteArray) = ⟨#[43, 48, 48, 48, 51, 46, 49, 52]⟩ from by kernel_rfl] at HN
  have HTx := Lib.hid (fun W h => FText_any true false false false false 5 2 115 ⟨#[97, 195, 169, 122]⟩ false W (by decide) h)
  rw [ex5_text, ex5_texte] at HTx
  have HC := Lib.hid (fun W h1 h2 => Conv_g6 4591870180066957722 W (by decide) h1 h2)
  rw [ex5_conv] at HC
  unfold specA at HN HTx
  have HE := Lib.hid hE
  have HT := Lib.hid hT
  have HU := Lib.hid hU
  clear hE hT hU
  go_enter Tryz.func23, Tryz.ntmps23
  go_wp2_with fail
  refine HP.out.mono ?_
  rintro e v1 ⟨rfl, hb⟩
  have HV1 := Lib.hid (hb.alloc hb.size (.cells #[.bool false, .bool true, .bool false, .bool false, .bool true, .int .i64 8, .int .i64 2, .int .u8 102, .bool false, .bool false, .int .i64 8] 101))
  clear hb
  go_wp2_with fail
  refine (HN.out _).mono ?_
  rintro e v2 ⟨rfl, hb⟩
  have c10 : v2.cell? ⟨v1.heap.size, 10, none⟩ = some (.int .i64 8) := cell_next hb (by rw [Lib.cell_of_heap (heap_alloc_at v1 _)]; rfl)
  have HV2 := Lib.hid (HV1.out.trans (hb.mono HV1.out.size))
  clear hb
  go_wp2_with fail
  refine (HTx.out _ (HU.out.below HV2.out)).mono ?_
  rintro e v3 ⟨rfl, hb⟩
  have c10 := cell_next hb c10
  have HV3 := Lib.hid (HV2.out.trans (hb.mono HV2.out.size))
  clear hb
  go_wp2_with fail
  refine (HC.out _ (HE.out.below HV3.out) (HT.out.below HV3.out)).mono ?_
  rintro e v4 ⟨rfl, hb⟩
  have HV4 := Lib.hid (HV3.out.trans (hb.mono HV3.out.size))
  clear hb
  go_wp2_with fail
  go_ret
  exact ⟨rfl, HV4.out⟩
end Go.Proofs.YtfdnhkjeoeffoaaGreatDoor
