/- Package num: Mod where there is none, and of an infinite divisor. -/
import Derived.Test.YtcmpdamfeoaapaaGreatDoorK10
namespace Go.Proofs.YtcmpdamfeoaapaaGreatDoor
open Go.RowKit
set_option linter.unusedVariables false

/-- is there no rest? -/
def modBad (x y : Nat) : Bool := !(fin x) || (FloatKind.f64.format.order y y != some .eq || (fin y && (mant y == 0)))

theorem NaN_any (w : World) : Calls Tryz.prog 71 #[] w fun e w' => e = .returned (.float .f64 9221120237041090561) ∧ w = w' := by
  go_enter Tryz.func71, Tryz.ntmps71
  go_wp2_with fail
  go_ret
  exact ⟨rfl, rfl⟩

set_option maxRecDepth 100000 in
set_option maxHeartbeats 4000000 in
theorem Mod_bad (x y : Nat) (w : World) (hx : x < 18446744073709551616) (hy : y < 18446744073709551616) (h : modBad x y = true) :
    Calls Tryz.prog 32 #[.float .f64 x, .float .f64 y] w fun e w' => e = .returned (.float .f64 9221120237041090561) ∧ w = w' := by
  have HP := Lib.hid (Parts_any x w hx)
  have HQ := Lib.hid (Parts_any y w hy)
  have HN := Lib.hid (NaN_any w)
  unfold modBad at h
  have eb : ((mant y : Int) == 0) = (mant y == 0) := by
    by_cases hm : mant y = 0
    · rw [hm]; rfl
    · rw [beq_eq_false_iff_ne.2 hm, beq_eq_false_iff_ne.2 (by omega)]
  clear hx hy
  generalize mant x = a at *
  generalize mant y = b at *
  generalize expo x = p at *
  generalize expo y = q at *
  generalize fin x = f at *
  generalize fin y = g at *
  obtain ⟨Bi, hBi⟩ : ∃ Bi : Int, Bi = (b : Int) := ⟨_, rfl⟩
  rw [← hBi] at HQ eb
  clear hBi
  cases f
  · clear h
    go_enter Tryz.func32, Tryz.ntmps32
    go_wp2_with fail
    refine HP.out.mono ?_
    rintro e w1 ⟨rfl, rfl⟩
    go_wp2_with fail
    refine HQ.out.mono ?_
    rintro e w1 ⟨rfl, rfl⟩
    go_wp2_with fail
    refine HN.out.mono ?_
    rintro e w1 ⟨rfl, rfl⟩
    go_wp2_with fail
    go_ret
    exact ⟨rfl, rfl⟩
  · rcases ho : (FloatKind.f64.format.order y y != some .eq) with _ | _
    · rw [ho] at h
      have ho2 : FloatKind.f64.format.order y y = some .eq := by simpa using ho
      have h2 : g = true ∧ (Bi == 0) = true := by rw [eb]; simpa using h
      obtain ⟨rfl, h3⟩ := h2
      have h4 : Bi = 0 := by simpa using h3
      subst h4
      clear h eb h3
      go_enter Tryz.func32, Tryz.ntmps32
      go_wp2_with fail
      refine HP.out.mono ?_
      rintro e w1 ⟨rfl, rfl⟩
      go_wp2_with fail
      refine HQ.out.mono ?_
      rintro e w1 ⟨rfl, rfl⟩
      go_wp2_with fail
      refine HN.out.mono ?_
      rintro e w1 ⟨rfl, rfl⟩
      go_wp2_with fail
      go_ret
      exact ⟨rfl, rfl⟩
    · clear h eb
      go_enter Tryz.func32, Tryz.ntmps32
      go_wp2_with fail
      refine HP.out.mono ?_
      rintro e w1 ⟨rfl, rfl⟩
      go_wp2_with fail
      refine HQ.out.mono ?_
      rintro e w1 ⟨rfl, rfl⟩
      go_wp2_with fail
      refine HN.out.mono ?_
      rintro e w1 ⟨rfl, rfl⟩
      go_wp2_with fail
      go_ret
      exact ⟨rfl, rfl⟩
end Go.Proofs.YtcmpdamfeoaapaaGreatDoor
