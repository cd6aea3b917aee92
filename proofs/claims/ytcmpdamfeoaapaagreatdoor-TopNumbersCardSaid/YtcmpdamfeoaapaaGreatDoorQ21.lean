/- Package cell: Valid, True; the document's Same of floats. -/
import Derived.Test.YtcmpdamfeoaapaaGreatDoorM9
namespace Go.Proofs.YtcmpdamfeoaapaaGreatDoor
open Go.RowKit
set_option linter.unusedVariables false

/-- not nought -/
def nzF (x : Nat) : Bool := FloatKind.f64.format.order x 0 != some .eq
theorem Same4_self (x : Nat) (w : World) : Calls Tryz.prog 14 #[.float .f64 x, .float .f64 x] w fun e w' => e = .returned (.bool true) ∧ w = w' := by
  cases hb : (FloatKind.f64.format.order x x != some .eq)
  · go_enter Tryz.func14, Tryz.ntmps14
    go_wp2_with fail
    go_ret
    exact ⟨rfl, rfl⟩
  · go_enter Tryz.func14, Tryz.ntmps14
    go_wp2_with fail
    go_ret
    exact ⟨rfl, rfl⟩
theorem Valid_str (s : ByteArray) (w : World) : Calls Tryz.prog 38 #[.agg #[.int .i64 2, .float .f64 0, .string s]] w fun e w' => e = .returned (.bool true) ∧ Below w.heap.size w w' := by
  go_enter Tryz.func38, Tryz.ntmps38
  go_wp2_with fail
  go_ret
  exact ⟨rfl, (Below.refl _ _).alloc (Nat.le_refl _) _⟩
theorem Valid_in (s : ByteArray) (w : World) (hs : s.size ≤ 140737488355328) (hl : looksL s.data.toList = true) : Calls Tryz.prog 38 #[.agg #[.int .i64 3, .float .f64 (prefB s.data.toList), .string s]] w fun e w' => e = .returned (.bool true) ∧ Below w.heap.size w w' := by
  have HP := Lib.hid (fun W => Prefix_any s W hs)
  have HL := Lib.hid (fun W => Looks_any s W hs)
  rw [hl] at HL
  generalize prefB s.data.toList = x at *
  generalize prefN s.data.toList = n at *
  clear hl
  go_enter Tryz.func38, Tryz.ntmps38
  go_wp2_with fail
  refine (HP.out _).mono ?_
  rintro e w1 ⟨rfl, hb1⟩
  have c1 : w1.cell? ⟨w.heap.size, 1, none⟩ = some (.float .f64 x) := (hb1.cell (p := ⟨w.heap.size, 1, none⟩) (by simp)).trans (by simp [go_sem])
  have c2 : w1.cell? ⟨w.heap.size, 2, none⟩ = some (.string s) := (hb1.cell (p := ⟨w.heap.size, 2, none⟩) (by simp)).trans (by simp [go_sem])
  have B0 : Below w.heap.size w (w.alloc (.cells #[.int .i64 3, .float .f64 x, .string s] 35)) := (Below.refl _ _).alloc (Nat.le_refl _) _
  have HB1 := Lib.hid (B0.trans (hb1.mono B0.size))
  have hs1 : w.heap.size < w1.heap.size := by have := hb1.size; simp at this; omega
  clear hb1 B0
  go_wp2_with fail
  go_region_held3 (fun w' => w'.cell? ⟨w.heap.size, 1, none⟩ = some (.float .f64 x) ∧ w'.cell? ⟨w.heap.size, 2, none⟩ = some (.string s)) (first | exact ⟨c1, c2⟩ | exact ⟨d1, d2⟩)
    (first
      | (go_at_call 15; refine (HL.out _).mono ?_; rintro e w2 ⟨rfl, hb2⟩
         have d1 := cell_next hb2 c1
         have d2 := cell_next hb2 c2
         have HB2 := Lib.hid (below_next (Nat.le_refl _) HB1.out hb2 (by first | exact .inl rfl | exact .inr rfl))))
  all_goals
    go_wp2_with fail
    go_ret
    exact ⟨by simp, HB2.out⟩
theorem True_str (s : ByteArray) (w : World) : Calls Tryz.prog 25 #[.agg #[.int .i64 2, .float .f64 0, .string s]] w fun e w' => e = .returned (.bool (!s.toList.isEmpty)) ∧ Below w.heap.size w w' := by
  go_enter Tryz.func25, Tryz.ntmps25
  go_wp2_with fail
  go_ret
  exact ⟨by simp, (Below.refl _ _).alloc (Nat.le_refl _) _⟩
theorem True_num (x : Nat) (s : ByteArray) (w : World) : Calls Tryz.prog 25 #[.agg #[.int .i64 3, .float .f64 x, .string s]] w fun e w' => e = .returned (.bool (nzF x)) ∧ Below w.heap.size w w' := by
  unfold nzF
  go_enter Tryz.func25, Tryz.ntmps25
  go_wp2_with fail
  go_ret
  exact ⟨by simp, (Below.refl _ _).alloc (Nat.le_refl _) _⟩
end Go.Proofs.YtcmpdamfeoaapaaGreatDoor
