/- Package cell: Compare. -/
import Derived.Test.YtcmpdamfeoaapaaGreatDoorP8
import Derived.Deep.RegionHeld3
namespace Go.Proofs.YtcmpdamfeoaapaaGreatDoor
open Go.RowKit
set_option linter.unusedVariables false

set_option maxHeartbeats 8000000 in
set_option maxRecDepth 1000000 in
theorem Compare_nums (k1 k2 : Int) (x y : Nat) (s t c : ByteArray) (w : World) (h1 : k1 = 1 ∨ k1 = 3) (h2 : k2 = 1 ∨ k2 = 3) (hx : FloatKind.f64.format.order x x = some .eq) (hy : FloatKind.f64.format.order y y = some .eq) :
    Calls Tryz.prog 24 #[.agg (cellA k1 x s), .agg (cellA k2 y t), .string c] w fun e w' => e = .returned (.int .i64 (ordF x y)) ∧ Below w.heap.size w w' := by
  have HN1 := Lib.hid (fun W => Num_num k1 x s W h1)
  have HN2 := Lib.hid (fun W => Num_num k2 y t W h2)
  have HO : Hid (∀ W, Calls Tryz.prog 64 #[.float .f64 x, .float .f64 y] W fun e w' => e = .returned (.int .i64 (ordF x y)) ∧ Below W.heap.size W w') := fun W => (order_any x y W hx hy).mono fun e W' h => ⟨h.1, h.2 ▸ Below.refl _ _⟩
  generalize ordF x y = d at *
  have e1 : (k1 != 2) = true := by rcases h1 with rfl | rfl <;> rfl
  have e2 : (k2 != 2) = true := by rcases h2 with rfl | rfl <;> rfl
  unfold cellA at HN1 HN2 ⊢
  clear h1 h2 hx hy
  have hb0 : Below w.heap.size w ((w.alloc (.cells #[.int .i64 k1, .float .f64 x, .string s] 35)).alloc (.cells #[.int .i64 k2, .float .f64 y, .string t] 35)) := ((Below.refl w.heap.size w).alloc (Nat.le_refl _) _).alloc (by simp) _
  have g0 : ((w.alloc (.cells #[.int .i64 k1, .float .f64 x, .string s] 35)).alloc (.cells #[.int .i64 k2, .float .f64 y, .string t] 35)).cell? ⟨w.heap.size, 0, none⟩ = some (.int .i64 k1) := by simp [go_sem]
  have g1 : ((w.alloc (.cells #[.int .i64 k1, .float .f64 x, .string s] 35)).alloc (.cells #[.int .i64 k2, .float .f64 y, .string t] 35)).cell? ⟨w.heap.size, 1, none⟩ = some (.float .f64 x) := by simp [go_sem]
  have g2 : ((w.alloc (.cells #[.int .i64 k1, .float .f64 x, .string s] 35)).alloc (.cells #[.int .i64 k2, .float .f64 y, .string t] 35)).cell? ⟨w.heap.size, 2, none⟩ = some (.string s) := by simp [go_sem]
  have n0 : ((w.alloc (.cells #[.int .i64 k1, .float .f64 x, .string s] 35)).alloc (.cells #[.int .i64 k2, .float .f64 y, .string t] 35)).cell? ⟨w.heap.size + 1, 0, none⟩ = some (.int .i64 k2) := by simp [go_sem]
  have n1 : ((w.alloc (.cells #[.int .i64 k1, .float .f64 x, .string s] 35)).alloc (.cells #[.int .i64 k2, .float .f64 y, .string t] 35)).cell? ⟨w.heap.size + 1, 1, none⟩ = some (.float .f64 y) := by simp [go_sem]
  have n2 : ((w.alloc (.cells #[.int .i64 k1, .float .f64 x, .string s] 35)).alloc (.cells #[.int .i64 k2, .float .f64 y, .string t] 35)).cell? ⟨w.heap.size + 1, 2, none⟩ = some (.string t) := by simp [go_sem]
  have HB0 := Lib.hid hb0
  clear hb0
  go_enter Tryz.func24, Tryz.ntmps24
  go_wp2_with fail
  generalize (w.alloc (.cells #[.int .i64 k1, .float .f64 x, .string s] 35)).alloc (.cells #[.int .i64 k2, .float .f64 y, .string t] 35) = W at *
  go_region_held3 (fun w' => w'.cell? ⟨w.heap.size, 0, none⟩ = some (.int .i64 k1) ∧ w'.cell? ⟨w.heap.size, 1, none⟩ = some (.float .f64 x) ∧ w'.cell? ⟨w.heap.size, 2, none⟩ = some (.string s) ∧ w'.cell? ⟨w.heap.size + 1, 0, none⟩ = some (.int .i64 k2) ∧ w'.cell? ⟨w.heap.size + 1, 1, none⟩ = some (.float .f64 y) ∧ w'.cell? ⟨w.heap.size + 1, 2, none⟩ = some (.string t)) (first | exact ⟨g0, g1, g2, n0, n1, n2⟩ | exact ⟨p0, p1, p2, q0, q1, q2⟩)
    (first
      | (go_at_call 39; refine (HN1.out _).mono ?_; clear HN1; rintro e w2 ⟨rfl, hb2⟩; have p0 := cell_next hb2 g0; have p1 := cell_next hb2 g1; have p2 := cell_next hb2 g2; have q0 := cell_next hb2 n0; have q1 := cell_next hb2 n1; have q2 := cell_next hb2 n2; have HB2 := Lib.hid (below_next (Nat.le_refl _) HB0.out hb2 (by first | exact .inl rfl | exact .inr rfl)))
      | (go_at_call 39; refine (HN2.out _).mono ?_; clear HN2; rintro e w3 ⟨rfl, hb3⟩; have p0 := cell_next hb3 p0; have p1 := cell_next hb3 p1; have p2 := cell_next hb3 p2; have q0 := cell_next hb3 q0; have q1 := cell_next hb3 q1; have q2 := cell_next hb3 q2; have HB3 := Lib.hid (below_next (Nat.le_refl _) HB2.out hb3 (by first | exact .inl rfl | exact .inr rfl)))
      | (go_at_call 64; refine (HO.out _).mono ?_; clear HO; rintro e w4 ⟨rfl, hb4⟩; have p0 := cell_next hb4 p0; have p1 := cell_next hb4 p1; have p2 := cell_next hb4 p2; have q0 := cell_next hb4 q0; have q1 := cell_next hb4 q1; have q2 := cell_next hb4 q2; have HB4 := Lib.hid (below_next (Nat.le_refl _) HB3.out hb4 (by first | exact .inl rfl | exact .inr rfl))))
  all_goals go_wp2_with fail
  all_goals go_ret
  all_goals exact ⟨rfl, HB4.out⟩

set_option maxHeartbeats 8000000 in
set_option maxRecDepth 1000000 in
theorem Compare_strs (k1 k2 : Int) (x y : Nat) (s t c o1 o2 : ByteArray) (w : World) (hk : k1 = 2 ∨ (k1 ≠ 2 ∧ k2 = 2))
    (h1 : ∀ W, Below w.heap.size w W → Calls Tryz.prog 18 #[.agg (cellA k1 x s), .string c] W fun e w' => e = .returned (.string o1) ∧ Below W.heap.size W w')
    (h2 : ∀ W, Below w.heap.size w W → Calls Tryz.prog 18 #[.agg (cellA k2 y t), .string c] W fun e w' => e = .returned (.string o2) ∧ Below W.heap.size W w') :
    Calls Tryz.prog 24 #[.agg (cellA k1 x s), .agg (cellA k2 y t), .string c] w fun e w' => e = .returned (.int .i64 (Lib.compareBytes o1.data.toList o2.data.toList)) ∧ Below w.heap.size w w' := by
  have HS1 := Lib.hid h1
  have HS2 := Lib.hid h2
  have HC : Hid (∀ W, Calls Tryz.prog 65 #[.string o1, .string o2] W fun e w' => e = .returned (.int .i64 (Lib.compareBytes o1.data.toList o2.data.toList)) ∧ Below W.heap.size W w') := fun W => (Tryz.strings_Compare o1 o2 W).mono fun e W' h => ⟨h.1, h.2 ▸ Below.refl _ _⟩
  generalize Lib.compareBytes o1.data.toList o2.data.toList = d at *
  unfold cellA at HS1 HS2 ⊢
  clear h1 h2
  rcases hk with rfl | ⟨hk, rfl⟩
  · skip
    have hb0 : Below w.heap.size w ((w.alloc (.cells #[.int .i64 2, .float .f64 x, .string s] 35)).alloc (.cells #[.int .i64 k2, .float .f64 y, .string t] 35)) := ((Below.refl w.heap.size w).alloc (Nat.le_refl _) _).alloc (by simp) _
    have g0 : ((w.alloc (.cells #[.int .i64 2, .float .f64 x, .string s] 35)).alloc (.cells #[.int .i64 k2, .float .f64 y, .string t] 35)).cell? ⟨w.heap.size, 0, none⟩ = some (.int .i64 2) := by simp [go_sem]
    have g1 : ((w.alloc (.cells #[.int .i64 2, .float .f64 x, .string s] 35)).alloc (.cells #[.int .i64 k2, .float .f64 y, .string t] 35)).cell? ⟨w.heap.size, 1, none⟩ = some (.float .f64 x) := by simp [go_sem]
    have g2 : ((w.alloc (.cells #[.int .i64 2, .float .f64 x, .string s] 35)).alloc (.cells #[.int .i64 k2, .float .f64 y, .string t] 35)).cell? ⟨w.heap.size, 2, none⟩ = some (.string s) := by simp [go_sem]
    have n0 : ((w.alloc (.cells #[.int .i64 2, .float .f64 x, .string s] 35)).alloc (.cells #[.int .i64 k2, .float .f64 y, .string t] 35)).cell? ⟨w.heap.size + 1, 0, none⟩ = some (.int .i64 k2) := by simp [go_sem]
    have n1 : ((w.alloc (.cells #[.int .i64 2, .float .f64 x, .string s] 35)).alloc (.cells #[.int .i64 k2, .float .f64 y, .string t] 35)).cell? ⟨w.heap.size + 1, 1, none⟩ = some (.float .f64 y) := by simp [go_sem]
    have n2 : ((w.alloc (.cells #[.int .i64 2, .float .f64 x, .string s] 35)).alloc (.cells #[.int .i64 k2, .float .f64 y, .string t] 35)).cell? ⟨w.heap.size + 1, 2, none⟩ = some (.string t) := by simp [go_sem]
    have HB0 := Lib.hid hb0
    clear hb0
    go_enter Tryz.func24, Tryz.ntmps24
    go_wp2_with fail
    generalize (w.alloc (.cells #[.int .i64 2, .float .f64 x, .string s] 35)).alloc (.cells #[.int .i64 k2, .float .f64 y, .string t] 35) = W at *
    go_region_held3 (fun w' => w'.cell? ⟨w.heap.size, 0, none⟩ = some (.int .i64 2) ∧ w'.cell? ⟨w.heap.size, 1, none⟩ = some (.float .f64 x) ∧ w'.cell? ⟨w.heap.size, 2, none⟩ = some (.string s) ∧ w'.cell? ⟨w.heap.size + 1, 0, none⟩ = some (.int .i64 k2) ∧ w'.cell? ⟨w.heap.size + 1, 1, none⟩ = some (.float .f64 y) ∧ w'.cell? ⟨w.heap.size + 1, 2, none⟩ = some (.string t)) (first | exact ⟨g0, g1, g2, n0, n1, n2⟩ | exact ⟨p0, p1, p2, q0, q1, q2⟩)
      (first
        | (go_at_call 18; refine (HS1.out _ (by first | exact HB0.out | exact HB0.out.drew)).mono ?_; clear HS1; rintro e w2 ⟨rfl, hb2⟩; have p0 := cell_next hb2 g0; have p1 := cell_next hb2 g1; have p2 := cell_next hb2 g2; have q0 := cell_next hb2 n0; have q1 := cell_next hb2 n1; have q2 := cell_next hb2 n2; have HB2 := Lib.hid (below_next (Nat.le_refl _) HB0.out hb2 (by first | exact .inl rfl | exact .inr rfl)))
        | (go_at_call 18; refine (HS2.out _ (by first | exact HB2.out | exact HB2.out.drew)).mono ?_; clear HS2; rintro e w3 ⟨rfl, hb3⟩; have p0 := cell_next hb3 p0; have p1 := cell_next hb3 p1; have p2 := cell_next hb3 p2; have q0 := cell_next hb3 q0; have q1 := cell_next hb3 q1; have q2 := cell_next hb3 q2; have HB3 := Lib.hid (below_next (Nat.le_refl _) HB2.out hb3 (by first | exact .inl rfl | exact .inr rfl)))
        | (go_at_call 65; refine (HC.out _).mono ?_; clear HC; rintro e w4 ⟨rfl, hb4⟩; have p0 := cell_next hb4 p0; have p1 := cell_next hb4 p1; have p2 := cell_next hb4 p2; have q0 := cell_next hb4 q0; have q1 := cell_next hb4 q1; have q2 := cell_next hb4 q2; have HB4 := Lib.hid (below_next (Nat.le_refl _) HB3.out hb4 (by first | exact .inl rfl | exact .inr rfl))))
    all_goals go_wp2_with fail
    all_goals go_ret
    all_goals exact ⟨rfl, HB4.out⟩
  · have e1 : (k1 != 2) = true := by simpa using hk
    clear hk
    have hb0 : Below w.heap.size w ((w.alloc (.cells #[.int .i64 k1, .float .f64 x, .string s] 35)).alloc (.cells #[.int .i64 2, .float .f64 y, .string t] 35)) := ((Below.refl w.heap.size w).alloc (Nat.le_refl _) _).alloc (by simp) _
    have g0 : ((w.alloc (.cells #[.int .i64 k1, .float .f64 x, .string s] 35)).alloc (.cells #[.int .i64 2, .float .f64 y, .string t] 35)).cell? ⟨w.heap.size, 0, none⟩ = some (.int .i64 k1) := by simp [go_sem]
    have g1 : ((w.alloc (.cells #[.int .i64 k1, .float .f64 x, .string s] 35)).alloc (.cells #[.int .i64 2, .float .f64 y, .string t] 35)).cell? ⟨w.heap.size, 1, none⟩ = some (.float .f64 x) := by simp [go_sem]
    have g2 : ((w.alloc (.cells #[.int .i64 k1, .float .f64 x, .string s] 35)).alloc (.cells #[.int .i64 2, .float .f64 y, .string t] 35)).cell? ⟨w.heap.size, 2, none⟩ = some (.string s) := by simp [go_sem]
    have n0 : ((w.alloc (.cells #[.int .i64 k1, .float .f64 x, .string s] 35)).alloc (.cells #[.int .i64 2, .float .f64 y, .string t] 35)).cell? ⟨w.heap.size + 1, 0, none⟩ = some (.int .i64 2) := by simp [go_sem]
    have n1 : ((w.alloc (.cells #[.int .i64 k1, .float .f64 x, .string s] 35)).alloc (.cells #[.int .i64 2, .float .f64 y, .string t] 35)).cell? ⟨w.heap.size + 1, 1, none⟩ = some (.float .f64 y) := by simp [go_sem]
    have n2 : ((w.alloc (.cells #[.int .i64 k1, .float .f64 x, .string s] 35)).alloc (.cells #[.int .i64 2, .float .f64 y, .string t] 35)).cell? ⟨w.heap.size + 1, 2, none⟩ = some (.string t) := by simp [go_sem]
    have HB0 := Lib.hid hb0
    clear hb0
    go_enter Tryz.func24, Tryz.ntmps24
    go_wp2_with fail
    generalize (w.alloc (.cells #[.int .i64 k1, .float .f64 x, .string s] 35)).alloc (.cells #[.int .i64 2, .float .f64 y, .string t] 35) = W at *
    go_region_held3 (fun w' => w'.cell? ⟨w.heap.size, 0, none⟩ = some (.int .i64 k1) ∧ w'.cell? ⟨w.heap.size, 1, none⟩ = some (.float .f64 x) ∧ w'.cell? ⟨w.heap.size, 2, none⟩ = some (.string s) ∧ w'.cell? ⟨w.heap.size + 1, 0, none⟩ = some (.int .i64 2) ∧ w'.cell? ⟨w.heap.size + 1, 1, none⟩ = some (.float .f64 y) ∧ w'.cell? ⟨w.heap.size + 1, 2, none⟩ = some (.string t)) (first | exact ⟨g0, g1, g2, n0, n1, n2⟩ | exact ⟨p0, p1, p2, q0, q1, q2⟩)
      (first
        | (go_at_call 18; refine (HS1.out _ (by first | exact HB0.out | exact HB0.out.drew)).mono ?_; clear HS1; rintro e w2 ⟨rfl, hb2⟩; have p0 := cell_next hb2 g0; have p1 := cell_next hb2 g1; have p2 := cell_next hb2 g2; have q0 := cell_next hb2 n0; have q1 := cell_next hb2 n1; have q2 := cell_next hb2 n2; have HB2 := Lib.hid (below_next (Nat.le_refl _) HB0.out hb2 (by first | exact .inl rfl | exact .inr rfl)))
        | (go_at_call 18; refine (HS2.out _ (by first | exact HB2.out | exact HB2.out.drew)).mono ?_; clear HS2; rintro e w3 ⟨rfl, hb3⟩; have p0 := cell_next hb3 p0; have p1 := cell_next hb3 p1; have p2 := cell_next hb3 p2; have q0 := cell_next hb3 q0; have q1 := cell_next hb3 q1; have q2 := cell_next hb3 q2; have HB3 := Lib.hid (below_next (Nat.le_refl _) HB2.out hb3 (by first | exact .inl rfl | exact .inr rfl)))
        | (go_at_call 65; refine (HC.out _).mono ?_; clear HC; rintro e w4 ⟨rfl, hb4⟩; have p0 := cell_next hb4 p0; have p1 := cell_next hb4 p1; have p2 := cell_next hb4 p2; have q0 := cell_next hb4 q0; have q1 := cell_next hb4 q1; have q2 := cell_next hb4 q2; have HB4 := Lib.hid (below_next (Nat.le_refl _) HB3.out hb4 (by first | exact .inl rfl | exact .inr rfl))))
    all_goals go_wp2_with fail
    all_goals go_ret
    all_goals exact ⟨rfl, HB4.out⟩
end Go.Proofs.YtcmpdamfeoaapaaGreatDoor
