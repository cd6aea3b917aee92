/- Package format: Conv at one pattern; package cell: its small functions. -/
import Derived.Test.YtcmpdamfeoaapaaGreatDoorP7
import Derived.Test.YtcmpdamfeoaapaaGreatDoorM5
namespace Go.Proofs.YtcmpdamfeoaapaaGreatDoor
open Go.RowKit
set_option linter.unusedVariables false

/-! 0.1 by "%.3f" -/
theorem c01_whole : wholeOk 4591870180066957722 = false := by kernel_rfl
theorem c01_canon : Canon [49, 48, 48] (scaledN 4591870180066957722 3) := by
  rw [show scaledN 4591870180066957722 3 = 100 from by kernel_rfl]
  exact canon_mk (by decide) (by decide) (by decide) (by decide)
set_option maxRecDepth 100000 in
theorem Conv_ex (w : World) (hE : ErrOk w) : Calls Tryz.prog 55 #[.float .f64 4591870180066957722, .string ⟨#[37, 46, 51, 102]⟩] w fun e w' => e = .returned (.string ⟨#[48, 46, 49, 48, 48]⟩) ∧ Below w.heap.size w w' := by
  have HW := Lib.hid (fun W => Whole_no 4591870180066957722 W (by decide) c01_whole)
  have HP := Lib.hid (fun W => Parts_any 4591870180066957722 W (by decide))
  rw [show fin 4591870180066957722 = true from by decide] at HP
  have HB : Hid (∀ W, ErrOk W → Calls Tryz.prog 107 #[.float .f64 4591870180066957722, .string ⟨#[37, 46, 51, 102]⟩] W fun e w' => e = .returned (.tuple #[.string ⟨#[48, 46, 49, 48, 48]⟩, .bool true]) ∧ Below W.heap.size W w') := fun W h =>
    by_one ⟨#[37, 46, 51, 102]⟩ 4591870180066957722 false false false false false 0 3 102 [48, 46, 49, 48, 48] W (by decide) (by decide) h (by decide) (by kernel_rfl) (by decide) (by decide)
      (fun W' => Number_f false false false false 0 3 4591870180066957722 [49, 48, 48] W' (by decide) (by decide) (by decide) c01_canon (by decide) (by decide) (by decide)) (by decide)
  have HE := Lib.hid hE
  clear hE
  go_enter Tryz.func55, Tryz.ntmps55
  go_wp2_with fail
  refine (HW.out _).mono ?_
  rintro e _ ⟨rfl, rfl⟩
  go_wp2_with fail
  refine (HP.out _).mono ?_
  rintro e _ ⟨rfl, rfl⟩
  go_wp2_with fail
  refine (HB.out _ HE.out).mono ?_
  rintro e w1 ⟨rfl, hb⟩
  have HBw := Lib.hid hb
  clear hb
  go_wp2_with fail
  go_ret
  exact ⟨rfl, HBw.out⟩

/-- a value -/
def cellA (k : Int) (x : Nat) (s : ByteArray) : Array Value := #[.int .i64 k, .float .f64 x, .string s]
set_option maxRecDepth 100000 in
theorem CText_any (s : ByteArray) (w : World) : Calls Tryz.prog 37 #[.string s] w fun e w' => e = .returned (.agg (cellA 2 0 s)) ∧ Below w.heap.size w w' := by
  unfold cellA
  go_enter Tryz.func37, Tryz.ntmps37
  go_wp2_with fail
  exact bodyPost_ret (v := .agg #[.int .i64 2, .float .f64 0, .string s]) (by simp [results, Tryz.results37, go_sem]) rfl ⟨rfl, (Below.refl _ _).alloc (Nat.le_refl _) _⟩
set_option maxRecDepth 100000 in
theorem Of_any (x : Nat) (w : World) : Calls Tryz.prog 19 #[.float .f64 x] w fun e w' => e = .returned (.agg (cellA 1 x ⟨#[]⟩)) ∧ Below w.heap.size w w' := by
  unfold cellA
  go_enter Tryz.func19, Tryz.ntmps19
  go_wp2_with fail
  exact bodyPost_ret (v := .agg #[.int .i64 1, .float .f64 x, .string ⟨#[]⟩]) (by simp [results, Tryz.results19, go_sem]) rfl ⟨rfl, (Below.refl _ _).alloc (Nat.le_refl _) _⟩
/-- what came in, as a value -/
def inA (s : ByteArray) : Array Value := if looksL s.data.toList then cellA 3 (prefB s.data.toList) s else cellA 2 0 s
set_option maxRecDepth 100000 in
theorem Input_any (s : ByteArray) (w : World) (hs : s.size ≤ 140737488355328) : Calls Tryz.prog 22 #[.string s] w fun e w' => e = .returned (.agg (inA s)) ∧ Below w.heap.size w w' := by
  have HL := Lib.hid (fun W => Looks_any s W hs)
  have HP := Lib.hid (fun W => Prefix_any s W hs)
  have HTx := Lib.hid (fun W => CText_any s W)
  have HA : Hid (inA s = if looksL s.data.toList then cellA 3 (prefB s.data.toList) s else cellA 2 0 s) := rfl
  generalize inA s = A at *
  generalize prefB s.data.toList = x at *
  generalize prefN s.data.toList = n at *
  unfold cellA at HTx HA
  cases hl : looksL s.data.toList
  · rw [hl] at HL HA
    go_enter Tryz.func22, Tryz.ntmps22
    go_wp2_with fail
    refine (HL.out _).mono ?_
    rintro e w1 ⟨rfl, hb1⟩
    have HB1 := Lib.hid (((Below.refl w.heap.size w).alloc (Nat.le_refl _) (.cells #[.int .i64 0, .float .f64 0, .string ⟨#[]⟩] 35)).trans (hb1.mono (by simp)))
    have c0 : w1.cell? ⟨w.heap.size, 0, none⟩ = some (.int .i64 0) := by rw [hb1.cell (by simp)]; simp [go_sem]
    have c1 : w1.cell? ⟨w.heap.size, 1, none⟩ = some (.float .f64 0) := by rw [hb1.cell (by simp)]; simp [go_sem]
    have c2 : w1.cell? ⟨w.heap.size, 2, none⟩ = some (.string ⟨#[]⟩) := by rw [hb1.cell (by simp)]; simp [go_sem]
    have cf : ∀ j, w1.frozen? ⟨w.heap.size, j, none⟩ = false := by intro j; rw [hb1.frozen (by simp)]; simp [go_sem]
    have hz1 := hb1.size
    rw [World.size_alloc] at hz1
    clear hb1
    go_wp2_with fail
    refine (HTx.out _).mono ?_
    rintro e w2 ⟨rfl, hb2⟩
    have HB2 := Lib.hid (HB1.out.trans (hb2.mono HB1.out.size))
    have d0 := cell_next hb2 c0
    have d1 := cell_next hb2 c1
    have d2 := cell_next hb2 c2
    have df : ∀ j, w2.frozen? ⟨w.heap.size, j, none⟩ = false := by intro j; rw [hb2.frozen (by simp; omega)]; exact cf j
    clear hb2 c0 c1 c2 cf
    go_wp2_with fail
    rw [HA.out]
    refine bodyPost_ret (v := .agg #[.int .i64 2, .float .f64 0, .string s]) (by simp [results, Tryz.results22, go_sem, *]) rfl ⟨rfl, ?_⟩
    exact ((HB2.out.setCell (p := ⟨w.heap.size, 0, none⟩) (by simp) _).setCell (p := ⟨w.heap.size, 1, none⟩) (by simp) _).setCell (p := ⟨w.heap.size, 2, none⟩) (by simp) _
  · rw [hl] at HL HA
    go_enter Tryz.func22, Tryz.ntmps22
    go_wp2_with fail
    refine (HL.out _).mono ?_
    rintro e w1 ⟨rfl, hb1⟩
    have HB1 := Lib.hid (((Below.refl w.heap.size w).alloc (Nat.le_refl _) (.cells #[.int .i64 0, .float .f64 0, .string ⟨#[]⟩] 35)).trans (hb1.mono (by simp)))
    have c0 : w1.cell? ⟨w.heap.size, 0, none⟩ = some (.int .i64 0) := by rw [hb1.cell (by simp)]; simp [go_sem]
    have c1 : w1.cell? ⟨w.heap.size, 1, none⟩ = some (.float .f64 0) := by rw [hb1.cell (by simp)]; simp [go_sem]
    have c2 : w1.cell? ⟨w.heap.size, 2, none⟩ = some (.string ⟨#[]⟩) := by rw [hb1.cell (by simp)]; simp [go_sem]
    have cf : ∀ j, w1.frozen? ⟨w.heap.size, j, none⟩ = false := by intro j; rw [hb1.frozen (by simp)]; simp [go_sem]
    have hz1 := hb1.size
    rw [World.size_alloc] at hz1
    clear hb1
    go_wp2_with fail
    refine (HP.out _).mono ?_
    rintro e w2 ⟨rfl, hb2⟩
    have HB2 := Lib.hid (HB1.out.trans (hb2.mono HB1.out.size))
    have d0 := cell_next hb2 c0
    have d1 := cell_next hb2 c1
    have d2 := cell_next hb2 c2
    have df : ∀ j, w2.frozen? ⟨w.heap.size, j, none⟩ = false := by intro j; rw [hb2.frozen (by simp; omega)]; exact cf j
    clear hb2 c0 c1 c2 cf
    go_wp2_with fail
    rw [HA.out]
    refine bodyPost_ret (v := .agg #[.int .i64 3, .float .f64 x, .string s]) (by simp [results, Tryz.results22, go_sem, *]) rfl ⟨rfl, ?_⟩
    exact ((HB2.out.setCell (p := ⟨w.heap.size, 0, none⟩) (by simp) _).setCell (p := ⟨w.heap.size, 1, none⟩) (by simp) _).setCell (p := ⟨w.heap.size, 2, none⟩) (by simp) _

/-- a value as a number: one that is a number -/
theorem Num_num (k : Int) (x : Nat) (s : ByteArray) (w : World) (hk : k = 1 ∨ k = 3) : Calls Tryz.prog 39 #[.agg (cellA k x s)] w fun e w' => e = .returned (.float .f64 x) ∧ Below w.heap.size w w' := by
  unfold cellA
  rcases hk with rfl | rfl
  · go_enter Tryz.func39, Tryz.ntmps39
    go_wp2_with fail
    go_ret
    exact ⟨rfl, (Below.refl _ _).alloc (Nat.le_refl _) _⟩
  · go_enter Tryz.func39, Tryz.ntmps39
    go_wp2_with fail
    go_ret
    exact ⟨rfl, (Below.refl _ _).alloc (Nat.le_refl _) _⟩
theorem Num_str (x : Nat) (s : ByteArray) (w : World) (hs : s.size ≤ 140737488355328) : Calls Tryz.prog 39 #[.agg (cellA 2 x s)] w fun e w' => e = .returned (.float .f64 (prefB s.data.toList)) ∧ Below w.heap.size w w' := by
  have HP := Lib.hid (fun W => Prefix_any s W hs)
  generalize prefB s.data.toList = y at *
  generalize prefN s.data.toList = n at *
  unfold cellA
  go_enter Tryz.func39, Tryz.ntmps39
  go_wp2_with fail
  refine (HP.out _).mono ?_
  rintro e w1 ⟨rfl, hb1⟩
  have HB1 := Lib.hid (((Below.refl w.heap.size w).alloc (Nat.le_refl _) (.cells #[.int .i64 2, .float .f64 x, .string s] 35)).trans (hb1.mono (by simp)))
  clear hb1
  go_wp2_with fail
  go_ret
  exact ⟨rfl, HB1.out⟩
theorem Str_str (k : Int) (x : Nat) (s c : ByteArray) (w : World) (hk : k = 2 ∨ k = 3) : Calls Tryz.prog 18 #[.agg (cellA k x s), .string c] w fun e w' => e = .returned (.string s) ∧ Below w.heap.size w w' := by
  unfold cellA
  rcases hk with rfl | rfl
  · go_enter Tryz.func18, Tryz.ntmps18
    go_wp2_with fail
    go_ret
    exact ⟨rfl, (Below.refl _ _).alloc (Nat.le_refl _) _⟩
  · go_enter Tryz.func18, Tryz.ntmps18
    go_wp2_with fail
    go_ret
    exact ⟨rfl, (Below.refl _ _).alloc (Nat.le_refl _) _⟩
theorem Str_num (x : Nat) (s c o : ByteArray) (w : World) (hC : ∀ W, Below w.heap.size w W → Calls Tryz.prog 55 #[.float .f64 x, .string c] W fun e w' => e = .returned (.string o) ∧ Below W.heap.size W w') :
    Calls Tryz.prog 18 #[.agg (cellA 1 x s), .string c] w fun e w' => e = .returned (.string o) ∧ Below w.heap.size w w' := by
  have HC := Lib.hid hC
  clear hC
  unfold cellA
  go_enter Tryz.func18, Tryz.ntmps18
  go_wp2_with fail
  have hb0 := (Below.refl w.heap.size w).alloc (Nat.le_refl _) (.cells #[.int .i64 1, .float .f64 x, .string s] 35)
  refine (HC.out _ hb0).mono ?_
  rintro e w1 ⟨rfl, hb1⟩
  have HB1 := Lib.hid (hb0.trans (hb1.mono (by simp)))
  clear hb1 hb0
  go_wp2_with fail
  go_ret
  exact ⟨rfl, HB1.out⟩
theorem True_zero (w : World) : Calls Tryz.prog 25 #[.agg #[.int .i64 0, .float .f64 0, .string ⟨#[]⟩]] w fun e w' => e = .returned (.bool false) ∧ Below w.heap.size w w' := by
  go_enter Tryz.func25, Tryz.ntmps25
  go_wp2_with fail
  go_ret
  exact ⟨rfl, (Below.refl _ _).alloc (Nat.le_refl _) _⟩

/-- the order of two floats that are numbers -/
def ordF (x y : Nat) : Int := if FloatKind.f64.format.order x y == some .lt then -1 else if FloatKind.f64.format.order x y == some .gt then 1 else 0
theorem order_any (x y : Nat) (w : World) (hx : FloatKind.f64.format.order x x = some .eq) (hy : FloatKind.f64.format.order y y = some .eq) :
    Calls Tryz.prog 64 #[.float .f64 x, .float .f64 y] w fun e w' => e = .returned (.int .i64 (ordF x y)) ∧ w = w' := by
  have ho : ordF x y = if FloatKind.f64.format.order x y == some .lt then -1 else if FloatKind.f64.format.order x y == some .gt then 1 else 0 := rfl
  have HO := Lib.hid ho
  generalize ordF x y = d at *
  clear ho
  have nx : (FloatKind.f64.format.order x x != some .eq) = false := by rw [hx]; rfl
  have ny : (FloatKind.f64.format.order y y != some .eq) = false := by rw [hy]; rfl
  cases h1 : (FloatKind.f64.format.order x y == some .lt)
  · cases h2 : (FloatKind.f64.format.order x y == some .gt)
    · rw [h1, h2] at HO
      go_enter Tryz.func64, Tryz.ntmps64
      go_wp2_with fail
      go_ret
      exact ⟨by rw [HO.out]; rfl, rfl⟩
    · rw [h1, h2] at HO
      go_enter Tryz.func64, Tryz.ntmps64
      go_wp2_with fail
      go_ret
      exact ⟨by rw [HO.out]; rfl, rfl⟩
  · rw [h1] at HO
    go_enter Tryz.func64, Tryz.ntmps64
    go_wp2_with fail
    go_ret
    exact ⟨by rw [HO.out]; rfl, rfl⟩
end Go.Proofs.YtcmpdamfeoaapaaGreatDoor
