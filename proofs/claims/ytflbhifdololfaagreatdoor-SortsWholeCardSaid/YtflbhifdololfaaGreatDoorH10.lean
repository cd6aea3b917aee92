/- Package sorts: the five comparisons (printed by mkh10.py). -/
import Derived.Test.YtflbhifdololfaaGreatDoorH9
import Derived.Test.YtflbhifdololfaaGreatDoorP22
namespace Go.Proofs.YtflbhifdololfaaGreatDoor
open Go.RowKit
set_option linter.unusedVariables false

def subC (x y : Bool) : Int := if x && y then 0 else if x then 1 else -1
def cKeys (x y : En) : Int := Lib.compareBytes x.key.data.toList y.key.data.toList
def cNums (x y : En) : Int := if ordN (prefB x.key.data.toList) (prefB y.key.data.toList) = 0 then cKeys x y else ordN (prefB x.key.data.toList) (prefB y.key.data.toList)
noncomputable def cTexts (x y : En) : Int := if x.sub || y.sub then subC x.sub y.sub else Lib.compareBytes (strC x.kind x.bits x.str).data.toList (strC y.kind y.bits y.str).data.toList
def cAmts (x y : En) : Int := if x.sub || y.sub then subC x.sub y.sub else ordN (numC x.kind x.bits x.str) (numC y.kind y.bits y.str)
noncomputable def cTypes (x y : En) : Int := if x.sub || y.sub then subC x.sub y.sub else if x.kind = 2 ∧ y.kind ≠ 2 then 1 else if y.kind = 2 ∧ x.kind ≠ 2 then -1 else cmpC x.kind x.bits x.str y.kind y.bits y.str
/-- an entry's numbers are such as fit -/
structure En.Ok (e : En) : Prop where
  key : e.key.size ≤ 140737488355328
  str : e.str.size ≤ 140737488355328
  bits : e.bits < 18446744073709551616
theorem scmp_any (a b : ByteArray) (w : World) : Calls Tryz.prog 131 #[.string a, .string b] w fun e w' => e = .returned (.int .i64 (Lib.compareBytes a.data.toList b.data.toList)) ∧ Below w.heap.size w w' :=
  (Tryz.strings_Compare a b w).mono fun e W' h => ⟨h.1, h.2 ▸ Below.refl _ _⟩

theorem box3 (w : World) (conv kx sx ky sy : ByteArray) (dx dy : Int) (bx by' : Nat) (ux uy : Bool) : ∃ W, W = ((w.alloc (.cells #[.string conv] 117)).alloc (.cells #[.string kx, .int .i64 dx, .float .f64 bx, .string sx, .bool ux] 57)).alloc (.cells #[.string ky, .int .i64 dy, .float .f64 by', .string sy, .bool uy] 57) ∧ Below w.heap.size w W ∧ W.heap.size = w.heap.size + 1 + 1 + 1 ∧
    W.cell? ⟨w.heap.size, 0, none⟩ = some (.string conv) ∧ W.cell? ⟨w.heap.size + 1, 0, none⟩ = some (.string kx) ∧ W.cell? ⟨w.heap.size + 1, 1, none⟩ = some (.int .i64 dx) ∧ W.cell? ⟨w.heap.size + 1, 2, none⟩ = some (.float .f64 bx) ∧ W.cell? ⟨w.heap.size + 1, 3, none⟩ = some (.string sx) ∧ W.cell? ⟨w.heap.size + 1, 4, none⟩ = some (.bool ux) ∧ W.cell? ⟨w.heap.size + 1 + 1, 0, none⟩ = some (.string ky) ∧ W.cell? ⟨w.heap.size + 1 + 1, 1, none⟩ = some (.int .i64 dy) ∧ W.cell? ⟨w.heap.size + 1 + 1, 2, none⟩ = some (.float .f64 by') ∧ W.cell? ⟨w.heap.size + 1 + 1, 3, none⟩ = some (.string sy) ∧ W.cell? ⟨w.heap.size + 1 + 1, 4, none⟩ = some (.bool uy) := by
  refine ⟨_, rfl, (((Below.refl _ w).alloc (Nat.le_refl _) _).alloc (by simp) _).alloc (by simp; omega) _, by simp, ?_, ?_, ?_, ?_, ?_, ?_, ?_, ?_, ?_, ?_, ?_⟩
  all_goals simp [go_sem]
set_option maxRecDepth 100000 in
theorem subs_no (conv kx sx ky sy : ByteArray) (dx dy : Int) (bx by' : Nat) (w : World) : Calls Tryz.prog 134 #[.agg #[.string conv], .agg #[.string kx, .int .i64 dx, .float .f64 bx, .string sx, .bool false], .agg #[.string ky, .int .i64 dy, .float .f64 by', .string sy, .bool false]] w fun e w' => e = .returned (.tuple #[.int .i64 0, .bool true]) ∧ Below w.heap.size w w' := by
  go_enter Tryz.func134, Tryz.ntmps134
  go_wp2_with fail
  go_ret2
  exact ⟨rfl, (((Below.refl _ w).alloc (Nat.le_refl _) _).alloc (by simp) _).alloc (by simp; omega) _⟩
set_option maxRecDepth 100000 in
theorem subs_xy (conv kx sx ky sy : ByteArray) (dx dy : Int) (bx by' : Nat) (w : World) : Calls Tryz.prog 134 #[.agg #[.string conv], .agg #[.string kx, .int .i64 dx, .float .f64 bx, .string sx, .bool true], .agg #[.string ky, .int .i64 dy, .float .f64 by', .string sy, .bool true]] w fun e w' => e = .returned (.tuple #[.int .i64 0, .bool false]) ∧ Below w.heap.size w w' := by
  go_enter Tryz.func134, Tryz.ntmps134
  go_wp2_with fail
  go_ret2
  exact ⟨rfl, (((Below.refl _ w).alloc (Nat.le_refl _) _).alloc (by simp) _).alloc (by simp; omega) _⟩
set_option maxRecDepth 100000 in
theorem subs_x (conv kx sx ky sy : ByteArray) (dx dy : Int) (bx by' : Nat) (w : World) : Calls Tryz.prog 134 #[.agg #[.string conv], .agg #[.string kx, .int .i64 dx, .float .f64 bx, .string sx, .bool true], .agg #[.string ky, .int .i64 dy, .float .f64 by', .string sy, .bool false]] w fun e w' => e = .returned (.tuple #[.int .i64 1, .bool false]) ∧ Below w.heap.size w w' := by
  go_enter Tryz.func134, Tryz.ntmps134
  go_wp2_with fail
  go_ret2
  exact ⟨rfl, (((Below.refl _ w).alloc (Nat.le_refl _) _).alloc (by simp) _).alloc (by simp; omega) _⟩
set_option maxRecDepth 100000 in
theorem subs_y (conv kx sx ky sy : ByteArray) (dx dy : Int) (bx by' : Nat) (w : World) : Calls Tryz.prog 134 #[.agg #[.string conv], .agg #[.string kx, .int .i64 dx, .float .f64 bx, .string sx, .bool false], .agg #[.string ky, .int .i64 dy, .float .f64 by', .string sy, .bool true]] w fun e w' => e = .returned (.tuple #[.int .i64 (-1), .bool false]) ∧ Below w.heap.size w w' := by
  go_enter Tryz.func134, Tryz.ntmps134
  go_wp2_with fail
  go_ret2
  exact ⟨rfl, (((Below.refl _ w).alloc (Nat.le_refl _) _).alloc (by simp) _).alloc (by simp; omega) _⟩
theorem subs_yes (conv kx sx ky sy : ByteArray) (dx dy : Int) (bx by' : Nat) (ux uy : Bool) (w : World) (h : (ux || uy) = true) : Calls Tryz.prog 134 #[.agg #[.string conv], .agg #[.string kx, .int .i64 dx, .float .f64 bx, .string sx, .bool ux], .agg #[.string ky, .int .i64 dy, .float .f64 by', .string sy, .bool uy]] w fun e w' => e = .returned (.tuple #[.int .i64 (subC ux uy), .bool false]) ∧ Below w.heap.size w w' := by
  cases ux
  · cases uy
    · cases h
    · exact subs_y conv kx sx ky sy dx dy bx by' w
  · cases uy
    · exact subs_x conv kx sx ky sy dx dy bx by' w
    · exact subs_xy conv kx sx ky sy dx dy bx by' w
set_option maxRecDepth 100000 in
theorem keys_any (conv : ByteArray) (x y : En) (w : World) : Calls Tryz.prog 94 #[.agg #[.string conv], x.val, y.val] w fun e w' => e = .returned (.int .i64 (cKeys x y)) ∧ Below w.heap.size w w' := by
  obtain ⟨kx, dx, bx, sx, ux⟩ := x
  obtain ⟨ky, dy, by', sy, uy⟩ := y
  have HC := Lib.hid (fun W => scmp_any kx ky W)
  unfold cKeys En.val
  dsimp only
  generalize Lib.compareBytes kx.data.toList ky.data.toList = r at *
  go_enter Tryz.func94, Tryz.ntmps94
  go_wp2_with fail
  refine (HC.out _).mono ?_
  rintro e w1 ⟨rfl, hb⟩
  have HB := Lib.hid hb
  clear hb
  go_wp2_with fail
  go_ret
  exact ⟨rfl, ((((Below.refl _ w).alloc (Nat.le_refl _) _).alloc (by simp) _).alloc (by simp; omega) _).trans (HB.out.mono (by simp; omega))⟩
set_option maxRecDepth 100000 in
theorem texts_sub (conv : ByteArray) (x y : En) (w : World) (h : (x.sub || y.sub) = true) : Calls Tryz.prog 96 #[.agg #[.string conv], x.val, y.val] w fun e w' => e = .returned (.int .i64 (subC x.sub y.sub)) ∧ Below w.heap.size w w' := by
  obtain ⟨kx, dx, bx, sx, ux⟩ := x
  obtain ⟨ky, dy, by', sy, uy⟩ := y
  have HS := Lib.hid (fun W => subs_yes conv kx sx ky sy dx dy bx by' ux uy W h)
  unfold En.val
  dsimp only at *
  generalize subC ux uy = r at *
  clear h
  go_enter Tryz.func96, Tryz.ntmps96
  go_wp2_with fail
  refine (HS.out _).mono ?_
  rintro e w1 ⟨rfl, hb⟩
  have HB := Lib.hid hb
  clear hb
  go_wp2_with fail
  go_ret
  exact ⟨rfl, ((((Below.refl _ w).alloc (Nat.le_refl _) _).alloc (by simp) _).alloc (by simp; omega) _).trans (HB.out.mono (by simp; omega))⟩
set_option maxRecDepth 100000 in
theorem amounts_sub (conv : ByteArray) (x y : En) (w : World) (h : (x.sub || y.sub) = true) : Calls Tryz.prog 97 #[.agg #[.string conv], x.val, y.val] w fun e w' => e = .returned (.int .i64 (subC x.sub y.sub)) ∧ Below w.heap.size w w' := by
  obtain ⟨kx, dx, bx, sx, ux⟩ := x
  obtain ⟨ky, dy, by', sy, uy⟩ := y
  have HS := Lib.hid (fun W => subs_yes conv kx sx ky sy dx dy bx by' ux uy W h)
  unfold En.val
  dsimp only at *
  generalize subC ux uy = r at *
  clear h
  go_enter Tryz.func97, Tryz.ntmps97
  go_wp2_with fail
  refine (HS.out _).mono ?_
  rintro e w1 ⟨rfl, hb⟩
  have HB := Lib.hid hb
  clear hb
  go_wp2_with fail
  go_ret
  exact ⟨rfl, ((((Below.refl _ w).alloc (Nat.le_refl _) _).alloc (by simp) _).alloc (by simp; omega) _).trans (HB.out.mono (by simp; omega))⟩
set_option maxRecDepth 100000 in
theorem types_sub (conv : ByteArray) (x y : En) (w : World) (h : (x.sub || y.sub) = true) : Calls Tryz.prog 98 #[.agg #[.string conv], x.val, y.val] w fun e w' => e = .returned (.int .i64 (subC x.sub y.sub)) ∧ Below w.heap.size w w' := by
  obtain ⟨kx, dx, bx, sx, ux⟩ := x
  obtain ⟨ky, dy, by', sy, uy⟩ := y
  have HS := Lib.hid (fun W => subs_yes conv kx sx ky sy dx dy bx by' ux uy W h)
  unfold En.val
  dsimp only at *
  generalize subC ux uy = r at *
  clear h
  go_enter Tryz.func98, Tryz.ntmps98
  go_wp2_with fail
  refine (HS.out _).mono ?_
  rintro e w1 ⟨rfl, hb⟩
  have HB := Lib.hid hb
  clear hb
  go_wp2_with fail
  go_ret
  exact ⟨rfl, ((((Below.refl _ w).alloc (Nat.le_refl _) _).alloc (by simp) _).alloc (by simp; omega) _).trans (HB.out.mono (by simp; omega))⟩
set_option maxHeartbeats 8000000 in
set_option maxRecDepth 1000000 in
theorem amounts_no (conv : ByteArray) (x y : En) (w : World) (hx : x.sub = false) (hy : y.sub = false) (ox : x.Ok) (oy : y.Ok) : Calls Tryz.prog 97 #[.agg #[.string conv], x.val, y.val] w fun e w' => e = .returned (.int .i64 (ordN (numC x.kind x.bits x.str) (numC y.kind y.bits y.str))) ∧ Below w.heap.size w w' := by
  obtain ⟨kx, dx, bx, sx, ux⟩ := x
  obtain ⟨ky, dy, by', sy, uy⟩ := y
  dsimp only at hx hy
  subst hx
  subst hy
  have HN1 := Lib.hid (fun W => Num_all dx bx sx W ox.str)
  have HN2 := Lib.hid (fun W => Num_all dy by' sy W oy.str)
  unfold En.val
  dsimp only
  obtain ⟨X, hX⟩ : ∃ X, X = numC dx bx sx := ⟨_, rfl⟩
  obtain ⟨Y, hY⟩ : ∃ Y, Y = numC dy by' sy := ⟨_, rfl⟩
  rw [← hX] at HN1 ⊢
  rw [← hY] at HN2 ⊢
  have HO1 := Lib.hid (fun W => Of_any X W)
  have HO2 := Lib.hid (fun W => Of_any Y W)
  have HCm := Lib.hid (fun W => Compare_numsG 1 1 X Y X Y (ordN X Y) ⟨#[]⟩ ⟨#[]⟩ conv W (by decide) (by decide) (fun W => Num_num 1 X _ W (.inl rfl)) (fun W => Num_num 1 Y _ W (.inl rfl)) (fun W => order_all X Y W))
  unfold cellA at HN1 HN2 HO1 HO2 HCm
  generalize ordN X Y = r at *
  clear hX hY ox oy
  obtain ⟨W, hW, hbW, hzW, kc0, kx0, kx1, kx2, kx3, kx4, ky0, ky1, ky2, ky3, ky4⟩ := box3 w conv kx sx ky sy dx dy bx by' false false
  have HS := Lib.hid (fun W => subs_no conv kx sx ky sy dx dy bx by' W)
  go_enter Tryz.func97, Tryz.ntmps97
  go_wp2_with fail
  rw [← hW]
  have HBW := Lib.hid hbW
  clear hW hbW
  refine (HS.out _).mono ?_
  rintro e w1 ⟨rfl, hb1⟩
  have HB1 := Lib.hid (HBW.out.trans (hb1.mono (by omega)))
  have hz1 : w.heap.size + 1 + 1 + 1 ≤ w1.heap.size := by have := hb1.size; omega
  have gc0 := (hb1.cell (p := ⟨w.heap.size, 0, none⟩) (show w.heap.size < W.heap.size by omega)).trans kc0
  have gx1 := (hb1.cell (p := ⟨w.heap.size + 1, 1, none⟩) (show w.heap.size + 1 < W.heap.size by omega)).trans kx1
  have gx2 := (hb1.cell (p := ⟨w.heap.size + 1, 2, none⟩) (show w.heap.size + 1 < W.heap.size by omega)).trans kx2
  have gx3 := (hb1.cell (p := ⟨w.heap.size + 1, 3, none⟩) (show w.heap.size + 1 < W.heap.size by omega)).trans kx3
  have gy1 := (hb1.cell (p := ⟨w.heap.size + 1 + 1, 1, none⟩) (show w.heap.size + 1 + 1 < W.heap.size by omega)).trans ky1
  have gy2 := (hb1.cell (p := ⟨w.heap.size + 1 + 1, 2, none⟩) (show w.heap.size + 1 + 1 < W.heap.size by omega)).trans ky2
  have gy3 := (hb1.cell (p := ⟨w.heap.size + 1 + 1, 3, none⟩) (show w.heap.size + 1 + 1 < W.heap.size by omega)).trans ky3
  clear hb1 hzW HS HBW kc0 kx0 kx1 kx2 kx3 kx4 ky0 ky1 ky2 ky3 ky4
  go_wp2_with fail
  go_region_held3 (fun w' => w'.cell? ⟨w.heap.size, 0, none⟩ = some (.string conv) ∧ w'.cell? ⟨w.heap.size + 1, 1, none⟩ = some (.int .i64 dx) ∧ w'.cell? ⟨w.heap.size + 1, 2, none⟩ = some (.float .f64 bx) ∧ w'.cell? ⟨w.heap.size + 1, 3, none⟩ = some (.string sx) ∧ w'.cell? ⟨w.heap.size + 1 + 1, 1, none⟩ = some (.int .i64 dy) ∧ w'.cell? ⟨w.heap.size + 1 + 1, 2, none⟩ = some (.float .f64 by') ∧ w'.cell? ⟨w.heap.size + 1 + 1, 3, none⟩ = some (.string sy)) (first | exact ⟨gc0, gx1, gx2, gx3, gy1, gy2, gy3⟩ | exact ⟨pc0, px1, px2, px3, py1, py2, py3⟩)
    (first
      | (go_at_call 92; refine (HN1.out _).mono ?_; clear HN1; rintro e wq1 ⟨rfl, hq1⟩; have pc0 := cell_next hq1 gc0; have px1 := cell_next hq1 gx1; have px2 := cell_next hq1 gx2; have px3 := cell_next hq1 gx3; have py1 := cell_next hq1 gy1; have py2 := cell_next hq1 gy2; have py3 := cell_next hq1 gy3; have HQ1 := Lib.hid (below_next (Nat.le_refl _) HB1.out hq1 (by first | exact .inl rfl | exact .inr rfl)))
      | (go_at_call 133; refine (HO1.out _).mono ?_; clear HO1; rintro e wq2 ⟨rfl, hq2⟩; have pc0 := cell_next hq2 pc0; have px1 := cell_next hq2 px1; have px2 := cell_next hq2 px2; have px3 := cell_next hq2 px3; have py1 := cell_next hq2 py1; have py2 := cell_next hq2 py2; have py3 := cell_next hq2 py3; have HQ2 := Lib.hid (below_next (Nat.le_refl _) HQ1.out hq2 (by first | exact .inl rfl | exact .inr rfl)))
      | (go_at_call 92; refine (HN2.out _).mono ?_; clear HN2; rintro e wq3 ⟨rfl, hq3⟩; have pc0 := cell_next hq3 pc0; have px1 := cell_next hq3 px1; have px2 := cell_next hq3 px2; have px3 := cell_next hq3 px3; have py1 := cell_next hq3 py1; have py2 := cell_next hq3 py2; have py3 := cell_next hq3 py3; have HQ3 := Lib.hid (below_next (Nat.le_refl _) HQ2.out hq3 (by first | exact .inl rfl | exact .inr rfl)))
      | (go_at_call 133; refine (HO2.out _).mono ?_; clear HO2; rintro e wq4 ⟨rfl, hq4⟩; have pc0 := cell_next hq4 pc0; have px1 := cell_next hq4 px1; have px2 := cell_next hq4 px2; have px3 := cell_next hq4 px3; have py1 := cell_next hq4 py1; have py2 := cell_next hq4 py2; have py3 := cell_next hq4 py3; have HQ4 := Lib.hid (below_next (Nat.le_refl _) HQ3.out hq4 (by first | exact .inl rfl | exact .inr rfl)))
      | (go_at_call 132; refine (HCm.out _).mono ?_; clear HCm; rintro e wq5 ⟨rfl, hq5⟩; have pc0 := cell_next hq5 pc0; have px1 := cell_next hq5 px1; have px2 := cell_next hq5 px2; have px3 := cell_next hq5 px3; have py1 := cell_next hq5 py1; have py2 := cell_next hq5 py2; have py3 := cell_next hq5 py3; have HQ5 := Lib.hid (below_next (Nat.le_refl _) HQ4.out hq5 (by first | exact .inl rfl | exact .inr rfl))))
  all_goals go_wp2_with fail
  all_goals go_ret
  all_goals exact ⟨rfl, HQ5.out⟩
set_option maxHeartbeats 8000000 in
set_option maxRecDepth 1000000 in
theorem texts_no (x y : En) (w : World) (hx : x.sub = false) (hy : y.sub = false) (ox : x.Ok) (oy : y.Ok) (hE : ErrOk w) (hT : PowOk w) : Calls Tryz.prog 96 #[.agg #[.string ⟨#[37, 46, 54, 103]⟩], x.val, y.val] w fun e w' => e = .returned (.int .i64 (Lib.compareBytes (strC x.kind x.bits x.str).data.toList (strC y.kind y.bits y.str).data.toList)) ∧ Below w.heap.size w w' := by
  obtain ⟨kx, dx, bx, sx, ux⟩ := x
  obtain ⟨ky, dy, by', sy, uy⟩ := y
  dsimp only at hx hy
  subst hx
  subst hy
  have HN1 : Hid (∀ W, Below w.heap.size w W → _) := fun W hW => Str_all dx bx sx W ox.bits (hE.below hW) (hT.below hW)
  have HN2 : Hid (∀ W, Below w.heap.size w W → _) := fun W hW => Str_all dy by' sy W oy.bits (hE.below hW) (hT.below hW)
  unfold En.val
  dsimp only
  generalize strC dx bx sx = X at *
  generalize strC dy by' sy = Y at *
  have HCm := Lib.hid (fun W => scmp_any X Y W)
  unfold cellA at HN1 HN2
  generalize Lib.compareBytes X.data.toList Y.data.toList = r at *
  obtain ⟨conv, hconv⟩ : ∃ c, c = (⟨#[37, 46, 54, 103]⟩ : ByteArray) := ⟨_, rfl⟩
  rw [← hconv] at HN1 HN2 ⊢
  clear ox oy hconv hE hT
  obtain ⟨W, hW, hbW, hzW, kc0, kx0, kx1, kx2, kx3, kx4, ky0, ky1, ky2, ky3, ky4⟩ := box3 w conv kx sx ky sy dx dy bx by' false false
  have HS := Lib.hid (fun W => subs_no conv kx sx ky sy dx dy bx by' W)
  go_enter Tryz.func96, Tryz.ntmps96
  go_wp2_with fail
  rw [← hW]
  have HBW := Lib.hid hbW
  clear hW hbW
  refine (HS.out _).mono ?_
  rintro e w1 ⟨rfl, hb1⟩
  have HB1 := Lib.hid (HBW.out.trans (hb1.mono (by omega)))
  have hz1 : w.heap.size + 1 + 1 + 1 ≤ w1.heap.size := by have := hb1.size; omega
  have gc0 := (hb1.cell (p := ⟨w.heap.size, 0, none⟩) (show w.heap.size < W.heap.size by omega)).trans kc0
  have gx1 := (hb1.cell (p := ⟨w.heap.size + 1, 1, none⟩) (show w.heap.size + 1 < W.heap.size by omega)).trans kx1
  have gx2 := (hb1.cell (p := ⟨w.heap.size + 1, 2, none⟩) (show w.heap.size + 1 < W.heap.size by omega)).trans kx2
  have gx3 := (hb1.cell (p := ⟨w.heap.size + 1, 3, none⟩) (show w.heap.size + 1 < W.heap.size by omega)).trans kx3
  have gy1 := (hb1.cell (p := ⟨w.heap.size + 1 + 1, 1, none⟩) (show w.heap.size + 1 + 1 < W.heap.size by omega)).trans ky1
  have gy2 := (hb1.cell (p := ⟨w.heap.size + 1 + 1, 2, none⟩) (show w.heap.size + 1 + 1 < W.heap.size by omega)).trans ky2
  have gy3 := (hb1.cell (p := ⟨w.heap.size + 1 + 1, 3, none⟩) (show w.heap.size + 1 + 1 < W.heap.size by omega)).trans ky3
  clear hb1 hzW HS HBW kc0 kx0 kx1 kx2 kx3 kx4 ky0 ky1 ky2 ky3 ky4
  go_wp2_with fail
  go_region_held3 (fun w' => w'.cell? ⟨w.heap.size, 0, none⟩ = some (.string conv) ∧ w'.cell? ⟨w.heap.size + 1, 1, none⟩ = some (.int .i64 dx) ∧ w'.cell? ⟨w.heap.size + 1, 2, none⟩ = some (.float .f64 bx) ∧ w'.cell? ⟨w.heap.size + 1, 3, none⟩ = some (.string sx) ∧ w'.cell? ⟨w.heap.size + 1 + 1, 1, none⟩ = some (.int .i64 dy) ∧ w'.cell? ⟨w.heap.size + 1 + 1, 2, none⟩ = some (.float .f64 by') ∧ w'.cell? ⟨w.heap.size + 1 + 1, 3, none⟩ = some (.string sy)) (first | exact ⟨gc0, gx1, gx2, gx3, gy1, gy2, gy3⟩ | exact ⟨pc0, px1, px2, px3, py1, py2, py3⟩)
    (first
      | (go_at_call 91; refine (HN1.out _ (by first | exact HB1.out | exact HB1.out.drew)).mono ?_; clear HN1; rintro e wq1 ⟨rfl, hq1⟩; have pc0 := cell_next hq1 gc0; have px1 := cell_next hq1 gx1; have px2 := cell_next hq1 gx2; have px3 := cell_next hq1 gx3; have py1 := cell_next hq1 gy1; have py2 := cell_next hq1 gy2; have py3 := cell_next hq1 gy3; have HQ1 := Lib.hid (below_next (Nat.le_refl _) HB1.out hq1 (by first | exact .inl rfl | exact .inr rfl)))
      | (go_at_call 91; refine (HN2.out _ (by first | exact HQ1.out | exact HQ1.out.drew)).mono ?_; clear HN2; rintro e wq2 ⟨rfl, hq2⟩; have pc0 := cell_next hq2 pc0; have px1 := cell_next hq2 px1; have px2 := cell_next hq2 px2; have px3 := cell_next hq2 px3; have py1 := cell_next hq2 py1; have py2 := cell_next hq2 py2; have py3 := cell_next hq2 py3; have HQ2 := Lib.hid (below_next (Nat.le_refl _) HQ1.out hq2 (by first | exact .inl rfl | exact .inr rfl)))
      | (go_at_call 131; refine (HCm.out _).mono ?_; clear HCm; rintro e wq3 ⟨rfl, hq3⟩; have pc0 := cell_next hq3 pc0; have px1 := cell_next hq3 px1; have px2 := cell_next hq3 px2; have px3 := cell_next hq3 px3; have py1 := cell_next hq3 py1; have py2 := cell_next hq3 py2; have py3 := cell_next hq3 py3; have HQ3 := Lib.hid (below_next (Nat.le_refl _) HQ2.out hq3 (by first | exact .inl rfl | exact .inr rfl))))
  all_goals go_wp2_with fail
  all_goals go_ret
  all_goals exact ⟨rfl, HQ3.out⟩
set_option maxHeartbeats 8000000 in
set_option maxRecDepth 1000000 in
theorem numbers_any (conv : ByteArray) (x y : En) (w : World) (ox : x.Ok) (oy : y.Ok) : Calls Tryz.prog 95 #[.agg #[.string conv], x.val, y.val] w fun e w' => e = .returned (.int .i64 (cNums x y)) ∧ Below w.heap.size w w' := by
  have HK := Lib.hid (fun W => keys_any conv x y W)
  have hcn : cNums x y = if ordN (prefB x.key.data.toList) (prefB y.key.data.toList) = 0 then cKeys x y else ordN (prefB x.key.data.toList) (prefB y.key.data.toList) := rfl
  rw [hcn]
  clear hcn
  generalize cKeys x y = q at *
  obtain ⟨kx, dx, bx, sx, ux⟩ := x
  obtain ⟨ky, dy, by', sy, uy⟩ := y
  have HP1 := Lib.hid (fun W => Prefix_any kx W ox.key)
  have HP2 := Lib.hid (fun W => Prefix_any ky W oy.key)
  unfold En.val at *
  dsimp only at *
  generalize prefB kx.data.toList = X at *
  generalize prefB ky.data.toList = Y at *
  generalize prefN kx.data.toList = nx at *
  generalize prefN ky.data.toList = ny at *
  have HO1 := Lib.hid (fun W => Of_any X W)
  have HO2 := Lib.hid (fun W => Of_any Y W)
  have HCm := Lib.hid (fun W => Compare_numsG 1 1 X Y X Y (ordN X Y) ⟨#[]⟩ ⟨#[]⟩ conv W (by decide) (by decide) (fun W => Num_num 1 X _ W (.inl rfl)) (fun W => Num_num 1 Y _ W (.inl rfl)) (fun W => order_all X Y W))
  unfold cellA at HO1 HO2 HCm
  generalize ordN X Y = r at *
  clear ox oy
  obtain ⟨W, hW, hbW, hzW, kc0, kx0, kx1, kx2, kx3, kx4, ky0, ky1, ky2, ky3, ky4⟩ := box3 w conv kx sx ky sy dx dy bx by' ux uy
  have rest : ∀ w5 : World, Below w.heap.size w w5 → True → True := fun _ _ _ => trivial
  clear rest
  by_cases hr : r = 0
  · subst hr
    go_enter Tryz.func95, Tryz.ntmps95
    go_wp2_with fail
    rw [← hW]
    have HBW := Lib.hid hbW
    clear hW hbW
    refine (HP1.out _).mono ?_
    rintro e w1 ⟨rfl, hb1⟩
    have HB1 := Lib.hid (HBW.out.trans (hb1.mono (by omega)))
    have hz1 : w.heap.size + 1 + 1 + 1 ≤ w1.heap.size := by have := hb1.size; omega
    have mc0 := (hb1.cell (p := ⟨w.heap.size, 0, none⟩) (show w.heap.size < W.heap.size by omega)).trans kc0
    have mx0 := (hb1.cell (p := ⟨w.heap.size + 1, 0, none⟩) (show w.heap.size + 1 < W.heap.size by omega)).trans kx0
    have mx1 := (hb1.cell (p := ⟨w.heap.size + 1, 1, none⟩) (show w.heap.size + 1 < W.heap.size by omega)).trans kx1
    have mx2 := (hb1.cell (p := ⟨w.heap.size + 1, 2, none⟩) (show w.heap.size + 1 < W.heap.size by omega)).trans kx2
    have mx3 := (hb1.cell (p := ⟨w.heap.size + 1, 3, none⟩) (show w.heap.size + 1 < W.heap.size by omega)).trans kx3
    have mx4 := (hb1.cell (p := ⟨w.heap.size + 1, 4, none⟩) (show w.heap.size + 1 < W.heap.size by omega)).trans kx4
    have my0 := (hb1.cell (p := ⟨w.heap.size + 1 + 1, 0, none⟩) (show w.heap.size + 1 + 1 < W.heap.size by omega)).trans ky0
    have my1 := (hb1.cell (p := ⟨w.heap.size + 1 + 1, 1, none⟩) (show w.heap.size + 1 + 1 < W.heap.size by omega)).trans ky1
    have my2 := (hb1.cell (p := ⟨w.heap.size + 1 + 1, 2, none⟩) (show w.heap.size + 1 + 1 < W.heap.size by omega)).trans ky2
    have my3 := (hb1.cell (p := ⟨w.heap.size + 1 + 1, 3, none⟩) (show w.heap.size + 1 + 1 < W.heap.size by omega)).trans ky3
    have my4 := (hb1.cell (p := ⟨w.heap.size + 1 + 1, 4, none⟩) (show w.heap.size + 1 + 1 < W.heap.size by omega)).trans ky4
    clear hb1 hzW HP1 HBW kc0 kx0 kx1 kx2 kx3 kx4 ky0 ky1 ky2 ky3 ky4
    go_wp2_with fail
    refine (HP2.out _).mono ?_
    rintro e w2 ⟨rfl, hb2⟩
    have HB2 := Lib.hid (HB1.out.trans (hb2.mono (by omega)))
    have hz2 : w.heap.size + 1 + 1 + 1 ≤ w2.heap.size := by have := hb2.size; omega
    have gc0 := (hb2.cell (p := ⟨w.heap.size, 0, none⟩) (show w.heap.size < w1.heap.size by omega)).trans mc0
    have gx0 := (hb2.cell (p := ⟨w.heap.size + 1, 0, none⟩) (show w.heap.size + 1 < w1.heap.size by omega)).trans mx0
    have gx1 := (hb2.cell (p := ⟨w.heap.size + 1, 1, none⟩) (show w.heap.size + 1 < w1.heap.size by omega)).trans mx1
    have gx2 := (hb2.cell (p := ⟨w.heap.size + 1, 2, none⟩) (show w.heap.size + 1 < w1.heap.size by omega)).trans mx2
    have gx3 := (hb2.cell (p := ⟨w.heap.size + 1, 3, none⟩) (show w.heap.size + 1 < w1.heap.size by omega)).trans mx3
    have gx4 := (hb2.cell (p := ⟨w.heap.size + 1, 4, none⟩) (show w.heap.size + 1 < w1.heap.size by omega)).trans mx4
    have gy0 := (hb2.cell (p := ⟨w.heap.size + 1 + 1, 0, none⟩) (show w.heap.size + 1 + 1 < w1.heap.size by omega)).trans my0
    have gy1 := (hb2.cell (p := ⟨w.heap.size + 1 + 1, 1, none⟩) (show w.heap.size + 1 + 1 < w1.heap.size by omega)).trans my1
    have gy2 := (hb2.cell (p := ⟨w.heap.size + 1 + 1, 2, none⟩) (show w.heap.size + 1 + 1 < w1.heap.size by omega)).trans my2
    have gy3 := (hb2.cell (p := ⟨w.heap.size + 1 + 1, 3, none⟩) (show w.heap.size + 1 + 1 < w1.heap.size by omega)).trans my3
    have gy4 := (hb2.cell (p := ⟨w.heap.size + 1 + 1, 4, none⟩) (show w.heap.size + 1 + 1 < w1.heap.size by omega)).trans my4
    clear hb2 hz1 HP2 HB1 mc0 mx0 mx1 mx2 mx3 mx4 my0 my1 my2 my3 my4
    go_wp2_with fail
    go_region_held3 (fun w' => w'.cell? ⟨w.heap.size, 0, none⟩ = some (.string conv) ∧ w'.cell? ⟨w.heap.size + 1, 0, none⟩ = some (.string kx) ∧ w'.cell? ⟨w.heap.size + 1, 1, none⟩ = some (.int .i64 dx) ∧ w'.cell? ⟨w.heap.size + 1, 2, none⟩ = some (.float .f64 bx) ∧ w'.cell? ⟨w.heap.size + 1, 3, none⟩ = some (.string sx) ∧ w'.cell? ⟨w.heap.size + 1, 4, none⟩ = some (.bool ux) ∧ w'.cell? ⟨w.heap.size + 1 + 1, 0, none⟩ = some (.string ky) ∧ w'.cell? ⟨w.heap.size + 1 + 1, 1, none⟩ = some (.int .i64 dy) ∧ w'.cell? ⟨w.heap.size + 1 + 1, 2, none⟩ = some (.float .f64 by') ∧ w'.cell? ⟨w.heap.size + 1 + 1, 3, none⟩ = some (.string sy) ∧ w'.cell? ⟨w.heap.size + 1 + 1, 4, none⟩ = some (.bool uy)) (first | exact ⟨gc0, gx0, gx1, gx2, gx3, gx4, gy0, gy1, gy2, gy3, gy4⟩ | exact ⟨pc0, px0, px1, px2, px3, px4, py0, py1, py2, py3, py4⟩)
      (first
        | (go_at_call 133; refine (HO1.out _).mono ?_; clear HO1; rintro e wq1 ⟨rfl, hq1⟩; have pc0 := cell_next hq1 gc0; have px0 := cell_next hq1 gx0; have px1 := cell_next hq1 gx1; have px2 := cell_next hq1 gx2; have px3 := cell_next hq1 gx3; have px4 := cell_next hq1 gx4; have py0 := cell_next hq1 gy0; have py1 := cell_next hq1 gy1; have py2 := cell_next hq1 gy2; have py3 := cell_next hq1 gy3; have py4 := cell_next hq1 gy4; have HQ1 := Lib.hid (below_next (Nat.le_refl _) HB2.out hq1 (by first | exact .inl rfl | exact .inr rfl)))
        | (go_at_call 133; refine (HO2.out _).mono ?_; clear HO2; rintro e wq2 ⟨rfl, hq2⟩; have pc0 := cell_next hq2 pc0; have px0 := cell_next hq2 px0; have px1 := cell_next hq2 px1; have px2 := cell_next hq2 px2; have px3 := cell_next hq2 px3; have px4 := cell_next hq2 px4; have py0 := cell_next hq2 py0; have py1 := cell_next hq2 py1; have py2 := cell_next hq2 py2; have py3 := cell_next hq2 py3; have py4 := cell_next hq2 py4; have HQ2 := Lib.hid (below_next (Nat.le_refl _) HQ1.out hq2 (by first | exact .inl rfl | exact .inr rfl)))
        | (go_at_call 132; refine (HCm.out _).mono ?_; clear HCm; rintro e wq3 ⟨rfl, hq3⟩; have pc0 := cell_next hq3 pc0; have px0 := cell_next hq3 px0; have px1 := cell_next hq3 px1; have px2 := cell_next hq3 px2; have px3 := cell_next hq3 px3; have px4 := cell_next hq3 px4; have py0 := cell_next hq3 py0; have py1 := cell_next hq3 py1; have py2 := cell_next hq3 py2; have py3 := cell_next hq3 py3; have py4 := cell_next hq3 py4; have HQ3 := Lib.hid (below_next (Nat.le_refl _) HQ2.out hq3 (by first | exact .inl rfl | exact .inr rfl))))
    all_goals go_wp2_with fail
    all_goals refine (HK.out _).mono ?_
    all_goals rintro e w9 ⟨rfl, hb9⟩
    all_goals have HB9 := Lib.hid hb9
    all_goals clear hb9
    all_goals go_wp2_with fail
    all_goals go_ret
    all_goals exact ⟨rfl, HQ3.out.trans (HB9.out.mono HQ3.out.size)⟩
  · rw [if_neg hr]
    have hr1 : (r != 0) = true := by simpa using hr
    go_enter Tryz.func95, Tryz.ntmps95
    go_wp2_with fail
    rw [← hW]
    have HBW := Lib.hid hbW
    clear hW hbW
    refine (HP1.out _).mono ?_
    rintro e w1 ⟨rfl, hb1⟩
    have HB1 := Lib.hid (HBW.out.trans (hb1.mono (by omega)))
    have hz1 : w.heap.size + 1 + 1 + 1 ≤ w1.heap.size := by have := hb1.size; omega
    have mc0 := (hb1.cell (p := ⟨w.heap.size, 0, none⟩) (show w.heap.size < W.heap.size by omega)).trans kc0
    have mx0 := (hb1.cell (p := ⟨w.heap.size + 1, 0, none⟩) (show w.heap.size + 1 < W.heap.size by omega)).trans kx0
    have mx1 := (hb1.cell (p := ⟨w.heap.size + 1, 1, none⟩) (show w.heap.size + 1 < W.heap.size by omega)).trans kx1
    have mx2 := (hb1.cell (p := ⟨w.heap.size + 1, 2, none⟩) (show w.heap.size + 1 < W.heap.size by omega)).trans kx2
    have mx3 := (hb1.cell (p := ⟨w.heap.size + 1, 3, none⟩) (show w.heap.size + 1 < W.heap.size by omega)).trans kx3
    have mx4 := (hb1.cell (p := ⟨w.heap.size + 1, 4, none⟩) (show w.heap.size + 1 < W.heap.size by omega)).trans kx4
    have my0 := (hb1.cell (p := ⟨w.heap.size + 1 + 1, 0, none⟩) (show w.heap.size + 1 + 1 < W.heap.size by omega)).trans ky0
    have my1 := (hb1.cell (p := ⟨w.heap.size + 1 + 1, 1, none⟩) (show w.heap.size + 1 + 1 < W.heap.size by omega)).trans ky1
    have my2 := (hb1.cell (p := ⟨w.heap.size + 1 + 1, 2, none⟩) (show w.heap.size + 1 + 1 < W.heap.size by omega)).trans ky2
    have my3 := (hb1.cell (p := ⟨w.heap.size + 1 + 1, 3, none⟩) (show w.heap.size + 1 + 1 < W.heap.size by omega)).trans ky3
    have my4 := (hb1.cell (p := ⟨w.heap.size + 1 + 1, 4, none⟩) (show w.heap.size + 1 + 1 < W.heap.size by omega)).trans ky4
    clear hb1 hzW HP1 HBW kc0 kx0 kx1 kx2 kx3 kx4 ky0 ky1 ky2 ky3 ky4
    go_wp2_with fail
    refine (HP2.out _).mono ?_
    rintro e w2 ⟨rfl, hb2⟩
    have HB2 := Lib.hid (HB1.out.trans (hb2.mono (by omega)))
    have hz2 : w.heap.size + 1 + 1 + 1 ≤ w2.heap.size := by have := hb2.size; omega
    have gc0 := (hb2.cell (p := ⟨w.heap.size, 0, none⟩) (show w.heap.size < w1.heap.size by omega)).trans mc0
    have gx0 := (hb2.cell (p := ⟨w.heap.size + 1, 0, none⟩) (show w.heap.size + 1 < w1.heap.size by omega)).trans mx0
    have gx1 := (hb2.cell (p := ⟨w.heap.size + 1, 1, none⟩) (show w.heap.size + 1 < w1.heap.size by omega)).trans mx1
    have gx2 := (hb2.cell (p := ⟨w.heap.size + 1, 2, none⟩) (show w.heap.size + 1 < w1.heap.size by omega)).trans mx2
    have gx3 := (hb2.cell (p := ⟨w.heap.size + 1, 3, none⟩) (show w.heap.size + 1 < w1.heap.size by omega)).trans mx3
    have gx4 := (hb2.cell (p := ⟨w.heap.size + 1, 4, none⟩) (show w.heap.size + 1 < w1.heap.size by omega)).trans mx4
    have gy0 := (hb2.cell (p := ⟨w.heap.size + 1 + 1, 0, none⟩) (show w.heap.size + 1 + 1 < w1.heap.size by omega)).trans my0
    have gy1 := (hb2.cell (p := ⟨w.heap.size + 1 + 1, 1, none⟩) (show w.heap.size + 1 + 1 < w1.heap.size by omega)).trans my1
    have gy2 := (hb2.cell (p := ⟨w.heap.size + 1 + 1, 2, none⟩) (show w.heap.size + 1 + 1 < w1.heap.size by omega)).trans my2
    have gy3 := (hb2.cell (p := ⟨w.heap.size + 1 + 1, 3, none⟩) (show w.heap.size + 1 + 1 < w1.heap.size by omega)).trans my3
    have gy4 := (hb2.cell (p := ⟨w.heap.size + 1 + 1, 4, none⟩) (show w.heap.size + 1 + 1 < w1.heap.size by omega)).trans my4
    clear hb2 hz1 HP2 HB1 mc0 mx0 mx1 mx2 mx3 mx4 my0 my1 my2 my3 my4
    go_wp2_with fail
    go_region_held3 (fun w' => w'.cell? ⟨w.heap.size, 0, none⟩ = some (.string conv) ∧ w'.cell? ⟨w.heap.size + 1, 0, none⟩ = some (.string kx) ∧ w'.cell? ⟨w.heap.size + 1, 1, none⟩ = some (.int .i64 dx) ∧ w'.cell? ⟨w.heap.size + 1, 2, none⟩ = some (.float .f64 bx) ∧ w'.cell? ⟨w.heap.size + 1, 3, none⟩ = some (.string sx) ∧ w'.cell? ⟨w.heap.size + 1, 4, none⟩ = some (.bool ux) ∧ w'.cell? ⟨w.heap.size + 1 + 1, 0, none⟩ = some (.string ky) ∧ w'.cell? ⟨w.heap.size + 1 + 1, 1, none⟩ = some (.int .i64 dy) ∧ w'.cell? ⟨w.heap.size + 1 + 1, 2, none⟩ = some (.float .f64 by') ∧ w'.cell? ⟨w.heap.size + 1 + 1, 3, none⟩ = some (.string sy) ∧ w'.cell? ⟨w.heap.size + 1 + 1, 4, none⟩ = some (.bool uy)) (first | exact ⟨gc0, gx0, gx1, gx2, gx3, gx4, gy0, gy1, gy2, gy3, gy4⟩ | exact ⟨pc0, px0, px1, px2, px3, px4, py0, py1, py2, py3, py4⟩)
      (first
        | (go_at_call 133; refine (HO1.out _).mono ?_; clear HO1; rintro e wq1 ⟨rfl, hq1⟩; have pc0 := cell_next hq1 gc0; have px0 := cell_next hq1 gx0; have px1 := cell_next hq1 gx1; have px2 := cell_next hq1 gx2; have px3 := cell_next hq1 gx3; have px4 := cell_next hq1 gx4; have py0 := cell_next hq1 gy0; have py1 := cell_next hq1 gy1; have py2 := cell_next hq1 gy2; have py3 := cell_next hq1 gy3; have py4 := cell_next hq1 gy4; have HQ1 := Lib.hid (below_next (Nat.le_refl _) HB2.out hq1 (by first | exact .inl rfl | exact .inr rfl)))
        | (go_at_call 133; refine (HO2.out _).mono ?_; clear HO2; rintro e wq2 ⟨rfl, hq2⟩; have pc0 := cell_next hq2 pc0; have px0 := cell_next hq2 px0; have px1 := cell_next hq2 px1; have px2 := cell_next hq2 px2; have px3 := cell_next hq2 px3; have px4 := cell_next hq2 px4; have py0 := cell_next hq2 py0; have py1 := cell_next hq2 py1; have py2 := cell_next hq2 py2; have py3 := cell_next hq2 py3; have py4 := cell_next hq2 py4; have HQ2 := Lib.hid (below_next (Nat.le_refl _) HQ1.out hq2 (by first | exact .inl rfl | exact .inr rfl)))
        | (go_at_call 132; refine (HCm.out _).mono ?_; clear HCm; rintro e wq3 ⟨rfl, hq3⟩; have pc0 := cell_next hq3 pc0; have px0 := cell_next hq3 px0; have px1 := cell_next hq3 px1; have px2 := cell_next hq3 px2; have px3 := cell_next hq3 px3; have px4 := cell_next hq3 px4; have py0 := cell_next hq3 py0; have py1 := cell_next hq3 py1; have py2 := cell_next hq3 py2; have py3 := cell_next hq3 py3; have py4 := cell_next hq3 py4; have HQ3 := Lib.hid (below_next (Nat.le_refl _) HQ2.out hq3 (by first | exact .inl rfl | exact .inr rfl))))
    all_goals go_wp2_with fail
    all_goals go_ret
    all_goals exact ⟨rfl, HQ3.out⟩
set_option maxHeartbeats 8000000 in
set_option maxRecDepth 1000000 in
theorem types_no (x y : En) (w : World) (hx : x.sub = false) (hy : y.sub = false) (ox : x.Ok) (oy : y.Ok) (hE : ErrOk w) (hT : PowOk w) : Calls Tryz.prog 98 #[.agg #[.string ⟨#[37, 46, 54, 103]⟩], x.val, y.val] w fun e w' => e = .returned (.int .i64 (cTypes x y)) ∧ Below w.heap.size w w' := by
  have hct : cTypes x y = if x.kind = 2 ∧ y.kind ≠ 2 then 1 else if y.kind = 2 ∧ x.kind ≠ 2 then -1 else cmpC x.kind x.bits x.str y.kind y.bits y.str := by unfold cTypes; rw [hx, hy]; rfl
  rw [hct]
  clear hct
  obtain ⟨kx, dx, bx, sx, ux⟩ := x
  obtain ⟨ky, dy, by', sy, uy⟩ := y
  dsimp only at hx hy
  subst hx
  subst hy
  have HCm : Hid (∀ W, Below w.heap.size w W → _) := fun W hW => Compare_all dx dy bx by' sx sy W ox.bits oy.bits ox.str oy.str (hE.below hW) (hT.below hW)
  unfold En.val
  dsimp only
  unfold cellA at HCm
  generalize cmpC dx bx sx dy by' sy = r at *
  obtain ⟨conv, hconv⟩ : ∃ c, c = (⟨#[37, 46, 54, 103]⟩ : ByteArray) := ⟨_, rfl⟩
  rw [← hconv] at HCm ⊢
  clear ox oy hconv hE hT
  obtain ⟨W, hW, hbW, hzW, kc0, kx0, kx1, kx2, kx3, kx4, ky0, ky1, ky2, ky3, ky4⟩ := box3 w conv kx sx ky sy dx dy bx by' false false
  have HS := Lib.hid (fun W => subs_no conv kx sx ky sy dx dy bx by' W)

  by_cases h1 : dx = 2
  · by_cases h2 : dy = 2
    · subst h1
      subst h2
      rw [if_neg (by simp), if_neg (by simp)]
      go_enter Tryz.func98, Tryz.ntmps98
      go_wp2_with fail
      rw [← hW]
      have HBW := Lib.hid hbW
      clear hW hbW
      refine (HS.out _).mono ?_
      rintro e w1 ⟨rfl, hb1⟩
      have HB1 := Lib.hid (HBW.out.trans (hb1.mono (by omega)))
      have hz1 : w.heap.size + 1 + 1 + 1 ≤ w1.heap.size := by have := hb1.size; omega
      have gc0 := (hb1.cell (p := ⟨w.heap.size, 0, none⟩) (show w.heap.size < W.heap.size by omega)).trans kc0
      have gx1 := (hb1.cell (p := ⟨w.heap.size + 1, 1, none⟩) (show w.heap.size + 1 < W.heap.size by omega)).trans kx1
      have gx2 := (hb1.cell (p := ⟨w.heap.size + 1, 2, none⟩) (show w.heap.size + 1 < W.heap.size by omega)).trans kx2
      have gx3 := (hb1.cell (p := ⟨w.heap.size + 1, 3, none⟩) (show w.heap.size + 1 < W.heap.size by omega)).trans kx3
      have gy1 := (hb1.cell (p := ⟨w.heap.size + 1 + 1, 1, none⟩) (show w.heap.size + 1 + 1 < W.heap.size by omega)).trans ky1
      have gy2 := (hb1.cell (p := ⟨w.heap.size + 1 + 1, 2, none⟩) (show w.heap.size + 1 + 1 < W.heap.size by omega)).trans ky2
      have gy3 := (hb1.cell (p := ⟨w.heap.size + 1 + 1, 3, none⟩) (show w.heap.size + 1 + 1 < W.heap.size by omega)).trans ky3
      clear hb1 hzW HS HBW kc0 kx0 kx1 kx2 kx3 kx4 ky0 ky1 ky2 ky3 ky4
      go_wp2_with fail
      go_region
      all_goals go_wp2_with fail
      all_goals refine (HCm.out _ HB1.out.drew).mono ?_
      all_goals rintro e w2 ⟨rfl, hb2⟩
      all_goals have HB2 := Lib.hid hb2
      all_goals clear hb2
      all_goals go_wp2_with fail
      all_goals go_ret
      all_goals exact ⟨rfl, HB1.out.drew.trans (HB2.out.mono HB1.out.drew.size)⟩
    · subst h1
      have e2 : (dy == 2) = false := by simpa using h2
      rw [if_pos ⟨rfl, h2⟩]
      go_enter Tryz.func98, Tryz.ntmps98
      go_wp2_with fail
      rw [← hW]
      have HBW := Lib.hid hbW
      clear hW hbW
      refine (HS.out _).mono ?_
      rintro e w1 ⟨rfl, hb1⟩
      have HB1 := Lib.hid (HBW.out.trans (hb1.mono (by omega)))
      have hz1 : w.heap.size + 1 + 1 + 1 ≤ w1.heap.size := by have := hb1.size; omega
      have gc0 := (hb1.cell (p := ⟨w.heap.size, 0, none⟩) (show w.heap.size < W.heap.size by omega)).trans kc0
      have gx1 := (hb1.cell (p := ⟨w.heap.size + 1, 1, none⟩) (show w.heap.size + 1 < W.heap.size by omega)).trans kx1
      have gx2 := (hb1.cell (p := ⟨w.heap.size + 1, 2, none⟩) (show w.heap.size + 1 < W.heap.size by omega)).trans kx2
      have gx3 := (hb1.cell (p := ⟨w.heap.size + 1, 3, none⟩) (show w.heap.size + 1 < W.heap.size by omega)).trans kx3
      have gy1 := (hb1.cell (p := ⟨w.heap.size + 1 + 1, 1, none⟩) (show w.heap.size + 1 + 1 < W.heap.size by omega)).trans ky1
      have gy2 := (hb1.cell (p := ⟨w.heap.size + 1 + 1, 2, none⟩) (show w.heap.size + 1 + 1 < W.heap.size by omega)).trans ky2
      have gy3 := (hb1.cell (p := ⟨w.heap.size + 1 + 1, 3, none⟩) (show w.heap.size + 1 + 1 < W.heap.size by omega)).trans ky3
      clear hb1 hzW HS HBW kc0 kx0 kx1 kx2 kx3 kx4 ky0 ky1 ky2 ky3 ky4
      go_wp2_with fail
      go_region
      all_goals go_wp2_with fail
      all_goals go_ret
      all_goals exact ⟨rfl, HB1.out.drew⟩
  · by_cases h2 : dy = 2
    · have e1 : (dx == 2) = false := by simpa using h1
      subst h2
      rw [if_neg (fun h => h1 h.1), if_pos ⟨rfl, h1⟩]
      go_enter Tryz.func98, Tryz.ntmps98
      go_wp2_with fail
      rw [← hW]
      have HBW := Lib.hid hbW
      clear hW hbW
      refine (HS.out _).mono ?_
      rintro e w1 ⟨rfl, hb1⟩
      have HB1 := Lib.hid (HBW.out.trans (hb1.mono (by omega)))
      have hz1 : w.heap.size + 1 + 1 + 1 ≤ w1.heap.size := by have := hb1.size; omega
      have gc0 := (hb1.cell (p := ⟨w.heap.size, 0, none⟩) (show w.heap.size < W.heap.size by omega)).trans kc0
      have gx1 := (hb1.cell (p := ⟨w.heap.size + 1, 1, none⟩) (show w.heap.size + 1 < W.heap.size by omega)).trans kx1
      have gx2 := (hb1.cell (p := ⟨w.heap.size + 1, 2, none⟩) (show w.heap.size + 1 < W.heap.size by omega)).trans kx2
      have gx3 := (hb1.cell (p := ⟨w.heap.size + 1, 3, none⟩) (show w.heap.size + 1 < W.heap.size by omega)).trans kx3
      have gy1 := (hb1.cell (p := ⟨w.heap.size + 1 + 1, 1, none⟩) (show w.heap.size + 1 + 1 < W.heap.size by omega)).trans ky1
      have gy2 := (hb1.cell (p := ⟨w.heap.size + 1 + 1, 2, none⟩) (show w.heap.size + 1 + 1 < W.heap.size by omega)).trans ky2
      have gy3 := (hb1.cell (p := ⟨w.heap.size + 1 + 1, 3, none⟩) (show w.heap.size + 1 + 1 < W.heap.size by omega)).trans ky3
      clear hb1 hzW HS HBW kc0 kx0 kx1 kx2 kx3 kx4 ky0 ky1 ky2 ky3 ky4
      go_wp2_with fail
      go_region
      all_goals go_wp2_with fail
      all_goals go_ret
      all_goals exact ⟨rfl, HB1.out.drew⟩
    · have e1 : (dx == 2) = false := by simpa using h1
      have e2 : (dy == 2) = false := by simpa using h2
      rw [if_neg (fun h => h1 h.1), if_neg (fun h => h2 h.1)]
      go_enter Tryz.func98, Tryz.ntmps98
      go_wp2_with fail
      rw [← hW]
      have HBW := Lib.hid hbW
      clear hW hbW
      refine (HS.out _).mono ?_
      rintro e w1 ⟨rfl, hb1⟩
      have HB1 := Lib.hid (HBW.out.trans (hb1.mono (by omega)))
      have hz1 : w.heap.size + 1 + 1 + 1 ≤ w1.heap.size := by have := hb1.size; omega
      have gc0 := (hb1.cell (p := ⟨w.heap.size, 0, none⟩) (show w.heap.size < W.heap.size by omega)).trans kc0
      have gx1 := (hb1.cell (p := ⟨w.heap.size + 1, 1, none⟩) (show w.heap.size + 1 < W.heap.size by omega)).trans kx1
      have gx2 := (hb1.cell (p := ⟨w.heap.size + 1, 2, none⟩) (show w.heap.size + 1 < W.heap.size by omega)).trans kx2
      have gx3 := (hb1.cell (p := ⟨w.heap.size + 1, 3, none⟩) (show w.heap.size + 1 < W.heap.size by omega)).trans kx3
      have gy1 := (hb1.cell (p := ⟨w.heap.size + 1 + 1, 1, none⟩) (show w.heap.size + 1 + 1 < W.heap.size by omega)).trans ky1
      have gy2 := (hb1.cell (p := ⟨w.heap.size + 1 + 1, 2, none⟩) (show w.heap.size + 1 + 1 < W.heap.size by omega)).trans ky2
      have gy3 := (hb1.cell (p := ⟨w.heap.size + 1 + 1, 3, none⟩) (show w.heap.size + 1 + 1 < W.heap.size by omega)).trans ky3
      clear hb1 hzW HS HBW kc0 kx0 kx1 kx2 kx3 kx4 ky0 ky1 ky2 ky3 ky4
      go_wp2_with fail
      go_region
      all_goals go_wp2_with fail
      all_goals refine (HCm.out _ HB1.out.drew).mono ?_
      all_goals rintro e w2 ⟨rfl, hb2⟩
      all_goals have HB2 := Lib.hid hb2
      all_goals clear hb2
      all_goals go_wp2_with fail
      all_goals go_ret
      all_goals exact ⟨rfl, HB1.out.drew.trans (HB2.out.mono HB1.out.drew.size)⟩
end Go.Proofs.YtflbhifdololfaaGreatDoor
