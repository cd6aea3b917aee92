/- The law's example of package cell; CellNames. -/
import Derived.Test.YtcmpdamfeoaapaaGreatDoorM11
namespace Go.Proofs.YtcmpdamfeoaapaaGreatDoor
open Go.RowKit
set_option linter.unusedVariables false

theorem ex_in : inA ⟨#[32, 49, 48, 32]⟩ = cellA 3 4621819117588971520 ⟨#[32, 49, 48, 32]⟩ := by kernel_rfl
theorem ex_three : prefB (⟨#[51, 120]⟩ : ByteArray).data.toList = 4613937818241073152 := by kernel_rfl
theorem ex_ord : ordF 4621819117588971520 4621256167635550208 = 1 := by decide
theorem ex_self10 : FloatKind.f64.format.order 4621819117588971520 4621819117588971520 = some .eq := by decide
theorem ex_self9 : FloatKind.f64.format.order 4621256167635550208 4621256167635550208 = some .eq := by decide
theorem ex_eq10 : (FloatKind.f64.format.order 4621819117588971520 4621819117588971520 == some .eq) = true := by decide
theorem ex_eq3 : (FloatKind.f64.format.order 4613937818241073152 4613937818241073152 == some .eq) = true := by decide

set_option maxHeartbeats 8000000 in
set_option maxRecDepth 1000000 in
theorem fixed6_any (w : World) (hE : ErrOk w) : Calls Tryz.prog 34 #[] w fun e w' => e = .returned (.bool true) ∧ Below w.heap.size w w' := by
  have HI : Hid (∀ W, Calls Tryz.prog 22 #[.string ⟨#[32, 49, 48, 32]⟩] W fun e w' => e = .returned (.agg (cellA 3 4621819117588971520 ⟨#[32, 49, 48, 32]⟩)) ∧ Below W.heap.size W w') := fun W => ex_in ▸ Input_any ⟨#[32, 49, 48, 32]⟩ W (by decide)
  have HT : Hid (∀ W, Calls Tryz.prog 37 #[.string ⟨#[57]⟩] W fun e w' => e = .returned (.agg (cellA 2 0 ⟨#[57]⟩)) ∧ Below W.heap.size W w') := fun W => CText_any ⟨#[57]⟩ W
  have H1 : Hid (∀ W, Calls Tryz.prog 19 #[.float .f64 4621256167635550208] W fun e w' => e = .returned (.agg (cellA 1 4621256167635550208 ⟨#[]⟩)) ∧ Below W.heap.size W w') := fun W => Of_any 4621256167635550208 W
  have H2 : Hid (∀ W, Calls Tryz.prog 24 #[.agg (cellA 3 4621819117588971520 ⟨#[32, 49, 48, 32]⟩), .agg (cellA 1 4621256167635550208 ⟨#[]⟩), .string ⟨#[37, 46, 54, 103]⟩] W fun e w' => e = .returned (.int .i64 1) ∧ Below W.heap.size W w') := fun W => ex_ord ▸ Compare_nums 3 1 4621819117588971520 4621256167635550208 ⟨#[32, 49, 48, 32]⟩ ⟨#[]⟩ ⟨#[37, 46, 54, 103]⟩ W (.inr rfl) (.inl rfl) ex_self10 ex_self9
  have H3 : Hid (∀ W, Calls Tryz.prog 24 #[.agg (cellA 3 4621819117588971520 ⟨#[32, 49, 48, 32]⟩), .agg (cellA 2 0 ⟨#[57]⟩), .string ⟨#[37, 46, 54, 103]⟩] W fun e w' => e = .returned (.int .i64 (-1)) ∧ Below W.heap.size W w') := fun W => Compare_strs 3 2 4621819117588971520 0 ⟨#[32, 49, 48, 32]⟩ ⟨#[57]⟩ ⟨#[37, 46, 54, 103]⟩ ⟨#[32, 49, 48, 32]⟩ ⟨#[57]⟩ W (.inr ⟨by decide, rfl⟩) (fun W' _ => Str_str 3 _ _ _ W' (.inr rfl)) (fun W' _ => Str_str 2 _ _ _ W' (.inl rfl))
  have H4 : Hid (∀ W, Calls Tryz.prog 19 #[.float .f64 4591870180066957722] W fun e w' => e = .returned (.agg (cellA 1 4591870180066957722 ⟨#[]⟩)) ∧ Below W.heap.size W w') := fun W => Of_any 4591870180066957722 W
  have H5 : Hid (∀ W, Below w.heap.size w W → Calls Tryz.prog 18 #[.agg (cellA 1 4591870180066957722 ⟨#[]⟩), .string ⟨#[37, 46, 51, 102]⟩] W fun e w' => e = .returned (.string ⟨#[48, 46, 49, 48, 48]⟩) ∧ Below W.heap.size W w') := fun W h => Str_num 4591870180066957722 ⟨#[]⟩ ⟨#[37, 46, 51, 102]⟩ ⟨#[48, 46, 49, 48, 48]⟩ W (fun W' h' => Conv_ex W' ((hE.below h).below h'))
  have H6 : Hid (∀ W, Calls Tryz.prog 37 #[.string ⟨#[51, 120]⟩] W fun e w' => e = .returned (.agg (cellA 2 0 ⟨#[51, 120]⟩)) ∧ Below W.heap.size W w') := fun W => CText_any ⟨#[51, 120]⟩ W
  have H7 : Hid (∀ W, Calls Tryz.prog 39 #[.agg (cellA 2 0 ⟨#[51, 120]⟩)] W fun e w' => e = .returned (.float .f64 4613937818241073152) ∧ Below W.heap.size W w') := fun W => ex_three ▸ Num_str 0 ⟨#[51, 120]⟩ W (by decide)
  have H8 : Hid (∀ W, Calls Tryz.prog 25 #[.agg #[.int .i64 0, .float .f64 0, .string ⟨#[]⟩]] W fun e w' => e = .returned (.bool false) ∧ Below W.heap.size W w') := fun W => True_zero W
  unfold cellA at HI HT H1 H2 H3 H4 H5 H6 H7
  have hE1 := ex_eq10
  have hE3 := ex_eq3
  clear hE
  go_enter Tryz.func34, Tryz.ntmps34
  go_wp2_with fail
  refine (HI.out _).mono ?_
  rintro e v1 ⟨rfl, hb⟩
  have HV1 := Lib.hid hb
  clear hb
  go_wp2_with fail
  refine (HT.out _).mono ?_
  rintro e v2 ⟨rfl, hb⟩
  have HV2 := Lib.hid (HV1.out.trans (hb.mono HV1.out.size))
  clear hb
  have hz2 := HV2.out.size
  have g0 : ((v2.alloc (.cells #[.int .i64 3, .float .f64 4621819117588971520, .string ⟨#[32, 49, 48, 32]⟩] 35)).alloc (.cells #[.int .i64 2, .float .f64 0, .string ⟨#[57]⟩] 35)).cell? ⟨v2.heap.size, 0, none⟩ = some (.int .i64 3) := by simp [go_sem]
  have g1 : ((v2.alloc (.cells #[.int .i64 3, .float .f64 4621819117588971520, .string ⟨#[32, 49, 48, 32]⟩] 35)).alloc (.cells #[.int .i64 2, .float .f64 0, .string ⟨#[57]⟩] 35)).cell? ⟨v2.heap.size, 1, none⟩ = some (.float .f64 4621819117588971520) := by simp [go_sem]
  have g2 : ((v2.alloc (.cells #[.int .i64 3, .float .f64 4621819117588971520, .string ⟨#[32, 49, 48, 32]⟩] 35)).alloc (.cells #[.int .i64 2, .float .f64 0, .string ⟨#[57]⟩] 35)).cell? ⟨v2.heap.size, 2, none⟩ = some (.string ⟨#[32, 49, 48, 32]⟩) := by simp [go_sem]
  have n0 : ((v2.alloc (.cells #[.int .i64 3, .float .f64 4621819117588971520, .string ⟨#[32, 49, 48, 32]⟩] 35)).alloc (.cells #[.int .i64 2, .float .f64 0, .string ⟨#[57]⟩] 35)).cell? ⟨v2.heap.size + 1, 0, none⟩ = some (.int .i64 2) := by simp [go_sem]
  have n1 : ((v2.alloc (.cells #[.int .i64 3, .float .f64 4621819117588971520, .string ⟨#[32, 49, 48, 32]⟩] 35)).alloc (.cells #[.int .i64 2, .float .f64 0, .string ⟨#[57]⟩] 35)).cell? ⟨v2.heap.size + 1, 1, none⟩ = some (.float .f64 0) := by simp [go_sem]
  have n2 : ((v2.alloc (.cells #[.int .i64 3, .float .f64 4621819117588971520, .string ⟨#[32, 49, 48, 32]⟩] 35)).alloc (.cells #[.int .i64 2, .float .f64 0, .string ⟨#[57]⟩] 35)).cell? ⟨v2.heap.size + 1, 2, none⟩ = some (.string ⟨#[57]⟩) := by simp [go_sem]
  have HB0 := Lib.hid (show Below w.heap.size w ((v2.alloc (.cells #[.int .i64 3, .float .f64 4621819117588971520, .string ⟨#[32, 49, 48, 32]⟩] 35)).alloc (.cells #[.int .i64 2, .float .f64 0, .string ⟨#[57]⟩] 35)) from (HV2.out.alloc hz2 _).alloc (by simp; omega) _)
  go_wp2_with fail
  generalize (v2.alloc (.cells #[.int .i64 3, .float .f64 4621819117588971520, .string ⟨#[32, 49, 48, 32]⟩] 35)).alloc (.cells #[.int .i64 2, .float .f64 0, .string ⟨#[57]⟩] 35) = W at *
  go_region_held3 (fun w' => w'.cell? ⟨v2.heap.size, 0, none⟩ = some (.int .i64 3) ∧ w'.cell? ⟨v2.heap.size, 1, none⟩ = some (.float .f64 4621819117588971520) ∧ w'.cell? ⟨v2.heap.size, 2, none⟩ = some (.string ⟨#[32, 49, 48, 32]⟩) ∧ w'.cell? ⟨v2.heap.size + 1, 0, none⟩ = some (.int .i64 2) ∧ w'.cell? ⟨v2.heap.size + 1, 1, none⟩ = some (.float .f64 0) ∧ w'.cell? ⟨v2.heap.size + 1, 2, none⟩ = some (.string ⟨#[57]⟩)) (first | exact ⟨g0, g1, g2, n0, n1, n2⟩ | exact ⟨p0, p1, p2, q0, q1, q2⟩)
  (first
    | (go_at_call 19; refine (H1.out _).mono ?_; clear H1; rintro e w1 ⟨rfl, hb1⟩; have p0 := cell_next hb1 g0; have p1 := cell_next hb1 g1; have p2 := cell_next hb1 g2; have q0 := cell_next hb1 n0; have q1 := cell_next hb1 n1; have q2 := cell_next hb1 n2; have HB1 := Lib.hid (below_next (Nat.le_refl _) HB0.out hb1 (by first | exact .inl rfl | exact .inr rfl)))
    | (go_at_call 24; refine (H2.out _).mono ?_; clear H2; rintro e w2 ⟨rfl, hb2⟩; have p0 := cell_next hb2 p0; have p1 := cell_next hb2 p1; have p2 := cell_next hb2 p2; have q0 := cell_next hb2 q0; have q1 := cell_next hb2 q1; have q2 := cell_next hb2 q2; have HB2 := Lib.hid (below_next (Nat.le_refl _) HB1.out hb2 (by first | exact .inl rfl | exact .inr rfl)))
    | (go_at_call 24; refine (H3.out _).mono ?_; clear H3; rintro e w3 ⟨rfl, hb3⟩; have p0 := cell_next hb3 p0; have p1 := cell_next hb3 p1; have p2 := cell_next hb3 p2; have q0 := cell_next hb3 q0; have q1 := cell_next hb3 q1; have q2 := cell_next hb3 q2; have HB3 := Lib.hid (below_next (Nat.le_refl _) HB2.out hb3 (by first | exact .inl rfl | exact .inr rfl)))
    | (go_at_call 19; refine (H4.out _).mono ?_; clear H4; rintro e w4 ⟨rfl, hb4⟩; have p0 := cell_next hb4 p0; have p1 := cell_next hb4 p1; have p2 := cell_next hb4 p2; have q0 := cell_next hb4 q0; have q1 := cell_next hb4 q1; have q2 := cell_next hb4 q2; have HB4 := Lib.hid (below_next (Nat.le_refl _) HB3.out hb4 (by first | exact .inl rfl | exact .inr rfl)))
    | (go_at_call 18; refine (H5.out _ (by first | exact HB4.out | exact HB4.out.drew)).mono ?_; clear H5; rintro e w5 ⟨rfl, hb5⟩; have p0 := cell_next hb5 p0; have p1 := cell_next hb5 p1; have p2 := cell_next hb5 p2; have q0 := cell_next hb5 q0; have q1 := cell_next hb5 q1; have q2 := cell_next hb5 q2; have HB5 := Lib.hid (below_next (Nat.le_refl _) HB4.out hb5 (by first | exact .inl rfl | exact .inr rfl)))
    | (go_at_call 37; refine (H6.out _).mono ?_; clear H6; rintro e w6 ⟨rfl, hb6⟩; have p0 := cell_next hb6 p0; have p1 := cell_next hb6 p1; have p2 := cell_next hb6 p2; have q0 := cell_next hb6 q0; have q1 := cell_next hb6 q1; have q2 := cell_next hb6 q2; have HB6 := Lib.hid (below_next (Nat.le_refl _) HB5.out hb6 (by first | exact .inl rfl | exact .inr rfl)))
    | (go_at_call 39; refine (H7.out _).mono ?_; clear H7; rintro e w7 ⟨rfl, hb7⟩; have p0 := cell_next hb7 p0; have p1 := cell_next hb7 p1; have p2 := cell_next hb7 p2; have q0 := cell_next hb7 q0; have q1 := cell_next hb7 q1; have q2 := cell_next hb7 q2; have HB7 := Lib.hid (below_next (Nat.le_refl _) HB6.out hb7 (by first | exact .inl rfl | exact .inr rfl)))
    | (go_at_call 25; refine (H8.out _).mono ?_; clear H8; rintro e w8 ⟨rfl, hb8⟩; have p0 := cell_next hb8 p0; have p1 := cell_next hb8 p1; have p2 := cell_next hb8 p2; have q0 := cell_next hb8 q0; have q1 := cell_next hb8 q1; have q2 := cell_next hb8 q2; have HB8 := Lib.hid (below_next (Nat.le_refl _) HB7.out hb8 (by first | exact .inl rfl | exact .inr rfl))))
  all_goals go_wp2_with fail
  all_goals go_ret
  all_goals exact ⟨rfl, HB8.out⟩

end Go.Proofs.YtcmpdamfeoaapaaGreatDoor
