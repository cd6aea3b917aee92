/- Package format: Conv by the pattern of seventeen digits, of a finite float. -/
import Derived.Test.YtcmpdamfeoaapaaGreatDoorM11
namespace Go.Proofs.YtcmpdamfeoaapaaGreatDoor
open Go.RowKit
set_option linter.unusedVariables false

/-- a finite float by the pattern "%.17g" -/
noncomputable def convS (b : Nat) : ByteArray :=
  if wholeOk b then ⟨((if (FloatKind.f64.format.order b 0 == some .lt) = true then 45 :: dl (scaledN b 0) else dl (scaledN b 0))).toArray⟩
  else ⟨(padL false false 0 (signL false false (decide (9223372036854775808 ≤ b))) (genO b 16 false).data.toList).toArray⟩
theorem parse_g17 : parseA ⟨#[37, 46, 49, 55, 103]⟩ 0 = pieceA false false false false false 0 17 (103 : Nat) false false (5 : Nat) := by kernel_rfl
set_option maxHeartbeats 4000000 in
set_option maxRecDepth 1000000 in
theorem Conv_g17 (b : Nat) (w : World) (hb : b < 18446744073709551616) (hf : fin b = true) (hE : ErrOk w) (hT : PowOk w) : Calls Tryz.prog 55 #[.float .f64 b, .string ⟨#[37, 46, 49, 55, 103]⟩] w fun e w' => e = .returned (.string (convS b)) ∧ Below w.heap.size w w' := by
  cases hw : wholeOk b
  · have HW := Lib.hid (fun W => Whole_no b W hb hw)
    have HP := Lib.hid (fun W => Parts_any b W hb)
    rw [hf] at HP
    have HB : Hid (Calls Tryz.prog 107 #[.float .f64 b, .string ⟨#[37, 46, 49, 55, 103]⟩] w fun e w' => e = .returned (.tuple #[.string (convS b), .bool true]) ∧ Below w.heap.size w w') := by
      have hc : convS b = ⟨(padL false false 0 (signL false false (decide (9223372036854775808 ≤ b))) (genO b 16 false).data.toList).toArray⟩ := by unfold convS; rw [hw]; rfl
      rw [hc]
      refine by_two ⟨#[37, 46, 49, 55, 103]⟩ b false false false false false 0 17 103 _ w (by decide) (by decide) hE (by decide) parse_g17 (by kernel_rfl) (by decide) (fun W hW => ?_)
      refine (Number_g false false false false false 0 16 b W hb hf (by decide) (by decide) (by decide) (hT.below hW)).mono ?_
      rintro e w' ⟨rfl, hs, hbw⟩
      refine ⟨rfl, ?_, hbw⟩
      have h1 := padL_len false false 0 (signL false false (decide (9223372036854775808 ≤ b))) (genO b 16 false).data.toList
      have h2 := signL_len false false (decide (9223372036854775808 ≤ b))
      rw [sz_list] at hs
      have h3 : (0 : Int).toNat = 0 := rfl
      omega
    generalize convS b = O at *
    clear hw hf hE hT
    go_enter Tryz.func55, Tryz.ntmps55
    go_wp2_with fail
    refine (HW.out _).mono ?_
    rintro e _ ⟨rfl, rfl⟩
    go_wp2_with fail
    refine (HP.out _).mono ?_
    rintro e _ ⟨rfl, rfl⟩
    go_wp2_with fail
    refine HB.out.mono ?_
    rintro e w1 ⟨rfl, hb⟩
    have HBw := Lib.hid hb
    clear hb
    go_wp2_with fail
    go_ret
    exact ⟨rfl, HBw.out⟩
  · have HW : Hid (∀ W, Calls Tryz.prog 26 #[.float .f64 b] W fun e w' => e = .returned (.tuple #[.string (convS b), .bool true]) ∧ Below W.heap.size W w') := fun W => by
      refine (Whole_yes b W hb hw).mono ?_
      rintro e w' ⟨s, rfl, ⟨l, hc, hs⟩, hbw⟩
      have hO : convS b = s := by
        unfold convS
        rw [hw, dl_eq hc, ← hs]
        exact bytes_self s
      rw [hO]
      exact ⟨rfl, hbw⟩
    generalize convS b = O at *
    clear hw hE hT
    go_enter Tryz.func55, Tryz.ntmps55
    go_wp2_with fail
    refine (HW.out _).mono ?_
    rintro e w1 ⟨rfl, hb⟩
    have HBw := Lib.hid hb
    clear hb
    go_wp2_with fail
    go_ret
    exact ⟨rfl, HBw.out⟩
end Go.Proofs.YtcmpdamfeoaapaaGreatDoor
