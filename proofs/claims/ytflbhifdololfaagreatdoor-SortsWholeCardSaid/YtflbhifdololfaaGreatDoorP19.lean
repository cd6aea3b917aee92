/- Package cell: Compare of any two values, by the document's pattern. -/
import Derived.Test.YtflbhifdololfaaGreatDoorP9
import Derived.Test.YtflbhifdololfaaGreatDoorP18
namespace Go.Proofs.YtflbhifdololfaaGreatDoor
open Go.RowKit
set_option linter.unusedVariables false

theorem one_any (b : Bool) (w : World) : Calls Tryz.prog 214 #[.bool b] w fun e w' => e = .returned (.int .i64 (if b then 1 else 0)) ∧ w = w' := by
  cases b
  · go_enter Tryz.func214, Tryz.ntmps214
    go_wp2_with fail
    go_ret
    exact ⟨rfl, rfl⟩
  · go_enter Tryz.func214, Tryz.ntmps214
    go_wp2_with fail
    go_ret
    exact ⟨rfl, rfl⟩
/-- is it no number -/
def nanF (x : Nat) : Bool := FloatKind.f64.format.order x x != some .eq
/-- the order of two floats, what is no number being greatest -/
def ordN (x y : Nat) : Int := if nanF x || nanF y then Lib.compareInt (if nanF x then 1 else 0) (if nanF y then 1 else 0) else ordF x y
theorem order_all (x y : Nat) (w : World) : Calls Tryz.prog 176 #[.float .f64 x, .float .f64 y] w fun e w' => e = .returned (.int .i64 (ordN x y)) ∧ Below w.heap.size w w' := by
  cases hx : nanF x
  · cases hy : nanF y
    · refine (order_any x y w (by unfold nanF at hx; simpa using hx) (by unfold nanF at hy; simpa using hy)).mono ?_
      rintro e w' ⟨rfl, rfl⟩
      unfold ordN
      rw [hx, hy]
      exact ⟨rfl, Below.refl _ _⟩
    · have h1 : (FloatKind.f64.format.order x x != some .eq) = false := hx
      have h2 : (FloatKind.f64.format.order y y != some .eq) = true := hy
      have HO : Hid (ordN x y = Lib.compareInt 0 1) := by show _ = _; unfold ordN; rw [hx, hy]; rfl
      rw [HO.out]
      clear hx hy HO
      go_enter Tryz.func176, Tryz.ntmps176
      go_wp2_with fail
      refine (one_any false _).mono ?_
      rintro e _ ⟨rfl, rfl⟩
      go_wp2_with fail
      refine (one_any true _).mono ?_
      rintro e _ ⟨rfl, rfl⟩
      go_wp2_with fail
      refine (Tryz.cmp_Compare_int 0 1 _).mono ?_
      rintro e _ ⟨rfl, rfl⟩
      go_wp2_with fail
      go_ret
      exact ⟨rfl, Below.refl _ _⟩
  · have h1 : (FloatKind.f64.format.order x x != some .eq) = true := hx
    cases hy : nanF y
    · have h2 : (FloatKind.f64.format.order y y != some .eq) = false := hy
      have HO : Hid (ordN x y = Lib.compareInt 1 0) := by show _ = _; unfold ordN; rw [hx, hy]; rfl
      rw [HO.out]
      clear hx hy HO
      go_enter Tryz.func176, Tryz.ntmps176
      go_wp2_with fail
      refine (one_any true _).mono ?_
      rintro e _ ⟨rfl, rfl⟩
      go_wp2_with fail
      refine (one_any false _).mono ?_
      rintro e _ ⟨rfl, rfl⟩
      go_wp2_with fail
      refine (Tryz.cmp_Compare_int 1 0 _).mono ?_
      rintro e _ ⟨rfl, rfl⟩
      go_wp2_with fail
      go_ret
      exact ⟨rfl, Below.refl _ _⟩
    · have h2 : (FloatKind.f64.format.order y y != some .eq) = true := hy
      have HO : Hid (ordN x y = Lib.compareInt 1 1) := by show _ = _; unfold ordN; rw [hx, hy]; rfl
      rw [HO.out]
      clear hx hy HO
      go_enter Tryz.func176, Tryz.ntmps176
      go_wp2_with fail
      refine (one_any true _).mono ?_
      rintro e _ ⟨rfl, rfl⟩
      go_wp2_with fail
      refine (one_any true _).mono ?_
      rintro e _ ⟨rfl, rfl⟩
      go_wp2_with fail
      refine (Tryz.cmp_Compare_int 1 1 _).mono ?_
      rintro e _ ⟨rfl, rfl⟩
      go_wp2_with fail
      go_ret
      exact ⟨rfl, Below.refl _ _⟩

/-- a value as a number, and as a string by the document's pattern -/
def numC (k : Int) (x : Nat) (s : ByteArray) : Nat := if k = 1 ∨ k = 3 then x else if k = 2 then prefB s.data.toList else 0
noncomputable def strC (k : Int) (x : Nat) (s : ByteArray) : ByteArray := if k = 1 then convO x else if k = 2 ∨ k = 3 then s else ⟨#[]⟩
theorem Num_all (k : Int) (x : Nat) (s : ByteArray) (w : World) (hs : s.size ≤ 140737488355328) : Calls Tryz.prog 92 #[.agg (cellA k x s)] w fun e w' => e = .returned (.float .f64 (numC k x s)) ∧ Below w.heap.size w w' := by
  by_cases h1 : k = 1 ∨ k = 3
  · rw [show numC k x s = x from if_pos h1]
    exact Num_num k x s w h1
  · by_cases h2 : k = 2
    · subst h2
      exact Num_str x s w hs
    · rw [show numC k x s = 0 from by unfold numC; rw [if_neg h1, if_neg h2]]
      have e1 : (k == 1) = false := by simp; omega
      have e2 : (k == 2) = false := by simp; omega
      have e3 : (k == 3) = false := by simp; omega
      clear h1 h2
      unfold cellA
      go_enter Tryz.func92, Tryz.ntmps92
      go_wp2_with fail
      go_ret
      exact ⟨rfl, (Below.refl _ _).alloc (Nat.le_refl _) _⟩
theorem Str_all (k : Int) (x : Nat) (s : ByteArray) (w : World) (hx : x < 18446744073709551616) (hE : ErrOk w) (hT : PowOk w) : Calls Tryz.prog 91 #[.agg (cellA k x s), .string ⟨#[37, 46, 54, 103]⟩] w fun e w' => e = .returned (.string (strC k x s)) ∧ Below w.heap.size w w' := by
  by_cases h1 : k = 1
  · subst h1
    rw [show strC 1 x s = convO x from if_pos rfl]
    exact Str_num x s _ _ w (fun W hb => Conv_g6 x W hx (hE.below hb) (hT.below hb))
  · by_cases h2 : k = 2 ∨ k = 3
    · rw [show strC k x s = s from by unfold strC; rw [if_neg h1, if_pos h2]]
      exact Str_str k x s _ w h2
    · rw [show strC k x s = ⟨#[]⟩ from by unfold strC; rw [if_neg h1, if_neg h2]]
      have e1 : (k == 1) = false := by simp; omega
      have e2 : (k == 2) = false := by simp; omega
      have e3 : (k == 3) = false := by simp; omega
      clear h1 h2
      unfold cellA
      go_enter Tryz.func91, Tryz.ntmps91
      go_wp2_with fail
      go_ret
      exact ⟨rfl, (Below.refl _ _).alloc (Nat.le_refl _) _⟩

set_option maxHeartbeats 8000000 in
set_option maxRecDepth 1000000 in
theorem Compare_numsG (k1 k2 : Int) (x y X Y : Nat) (d : Int) (s t c : ByteArray) (w : World) (e1 : (k1 != 2) = true) (e2 : (k2 != 2) = true)
    (h1 : ∀ W, Calls Tryz.prog 92 #[.agg (cellA k1 x s)] W fun e w' => e = .returned (.float .f64 X) ∧ Below W.heap.size W w')
    (h2 : ∀ W, Calls Tryz.prog 92 #[.agg (cellA k2 y t)] W fun e w' => e = .returned (.float .f64 Y) ∧ Below W.heap.size W w')
    (h3 : ∀ W, Calls Tryz.prog 176 #[.float .f64 X, .float .f64 Y] W fun e w' => e = .returned (.int .i64 d) ∧ Below W.heap.size W w') :
    Calls Tryz.prog 132 #[.agg (cellA k1 x s), .agg (cellA k2 y t), .string c] w fun e w' => e = .returned (.int .i64 d) ∧ Below w.heap.size w w' := by
  have HN1 := Lib.hid h1
  have HN2 := Lib.hid h2
  have HO := Lib.hid h3
  unfold cellA at HN1 HN2 ⊢
  clear h1 h2 h3
  have hb0 : Below w.heap.size w ((w.alloc (.cells #[.int .i64 k1, .float .f64 x, .string s] 47)).alloc (.cells #[.int .i64 k2, .float .f64 y, .string t] 47)) := ((Below.refl w.heap.size w).alloc (Nat.le_refl _) _).alloc (by simp) _
  have g0 : ((w.alloc (.cells #[.int .i64 k1, .float .f64 x, .string s] 47)).alloc (.cells #[.int .i64 k2, .float .f64 y, .string t] 47)).cell? ⟨w.heap.size, 0, none⟩ = some (.int .i64 k1) := by simp [go_sem]
  have g1 : ((w.alloc (.cells #[.int .i64 k1, .float .f64 x, .string s] 47)).alloc (.cells #[.int .i64 k2, .float .f64 y, .string t] 47)).cell? ⟨w.heap.size, 1, none⟩ = some (.float .f64 x) := by simp [go_sem]
  have g2 : ((w.alloc (.cells #[.int .i64 k1, .float .f64 x, .string s] 47)).alloc (.cells #[.int .i64 k2, .float .f64 y, .string t] 47)).cell? ⟨w.heap.size, 2, none⟩ = some (.string s) := by simp [go_sem]
  have n0 : ((w.alloc (.cells #[.int .i64 k1, .float .f64 x, .string s] 47)).alloc (.cells #[.int .i64 k2, .float .f64 y, .string t] 47)).cell? ⟨w.heap.size + 1, 0, none⟩ = some (.int .i64 k2) := by simp [go_sem]
  have n1 : ((w.alloc (.cells #[.int .i64 k1, .float .f64 x, .string s] 47)).alloc (.cells #[.int .i64 k2, .float .f64 y, .string t] 47)).cell? ⟨w.heap.size + 1, 1, none⟩ = some (.float .f64 y) := by simp [go_sem]
  have n2 : ((w.alloc (.cells #[.int .i64 k1, .float .f64 x, .string s] 47)).alloc (.cells #[.int .i64 k2, .float .f64 y, .string t] 47)).cell? ⟨w.heap.size + 1, 2, none⟩ = some (.string t) := by simp [go_sem]
  have HB0 := Lib.hid hb0
  clear hb0
  go_enter Tryz.func132, Tryz.ntmps132
  go_wp2_with fail
  generalize (w.alloc (.cells #[.int .i64 k1, .float .f64 x, .string s] 47)).alloc (.cells #[.int .i64 k2, .float .f64 y, .string t] 47) = W at *
  go_region_held3 (fun w' => w'.cell? ⟨w.heap.size, 0, none⟩ = some (.int .i64 k1) ∧ w'.cell? ⟨w.heap.size, 1, none⟩ = some (.float .f64 x) ∧ w'.cell? ⟨w.heap.size, 2, none⟩ = some (.string s) ∧ w'.cell? ⟨w.heap.size + 1, 0, none⟩ = some (.int .i64 k2) ∧ w'.cell? ⟨w.heap.size + 1, 1, none⟩ = some (.float .f64 y) ∧ w'.cell? ⟨w.heap.size + 1, 2, none⟩ = some (.string t)) (first | exact ⟨g0, g1, g2, n0, n1, n2⟩ | exact ⟨p0, p1, p2, q0, q1, q2⟩)
    (first
      | (go_at_call 92; refine (HN1.out _).mono ?_; clear HN1; rintro e w2 ⟨rfl, hb2⟩; have p0 := cell_next hb2 g0; have p1 := cell_next hb2 g1; have p2 := cell_next hb2 g2; have q0 := cell_next hb2 n0; have q1 := cell_next hb2 n1; have q2 := cell_next hb2 n2; have HB2 := Lib.hid (below_next (Nat.le_refl _) HB0.out hb2 (by first | exact .inl rfl | exact .inr rfl)))
      | (go_at_call 92; refine (HN2.out _).mono ?_; clear HN2; rintro e w3 ⟨rfl, hb3⟩; have p0 := cell_next hb3 p0; have p1 := cell_next hb3 p1; have p2 := cell_next hb3 p2; have q0 := cell_next hb3 q0; have q1 := cell_next hb3 q1; have q2 := cell_next hb3 q2; have HB3 := Lib.hid (below_next (Nat.le_refl _) HB2.out hb3 (by first | exact .inl rfl | exact .inr rfl)))
      | (go_at_call 176; refine (HO.out _).mono ?_; clear HO; rintro e w4 ⟨rfl, hb4⟩; have p0 := cell_next hb4 p0; have p1 := cell_next hb4 p1; have p2 := cell_next hb4 p2; have q0 := cell_next hb4 q0; have q1 := cell_next hb4 q1; have q2 := cell_next hb4 q2; have HB4 := Lib.hid (below_next (Nat.le_refl _) HB3.out hb4 (by first | exact .inl rfl | exact .inr rfl))))
  all_goals go_wp2_with fail
  all_goals go_ret
  all_goals exact ⟨rfl, HB4.out⟩

/-- two values compared -/
noncomputable def cmpC (k1 : Int) (x : Nat) (s : ByteArray) (k2 : Int) (y : Nat) (t : ByteArray) : Int :=
  if k1 ≠ 2 ∧ k2 ≠ 2 then ordN (numC k1 x s) (numC k2 y t) else Lib.compareBytes (strC k1 x s).data.toList (strC k2 y t).data.toList
theorem Compare_all (k1 k2 : Int) (x y : Nat) (s t : ByteArray) (w : World) (hx : x < 18446744073709551616) (hy : y < 18446744073709551616) (hs : s.size ≤ 140737488355328) (ht : t.size ≤ 140737488355328) (hE : ErrOk w) (hT : PowOk w) :
    Calls Tryz.prog 132 #[.agg (cellA k1 x s), .agg (cellA k2 y t), .string ⟨#[37, 46, 54, 103]⟩] w fun e w' => e = .returned (.int .i64 (cmpC k1 x s k2 y t)) ∧ Below w.heap.size w w' := by
  by_cases h : k1 ≠ 2 ∧ k2 ≠ 2
  · rw [show cmpC k1 x s k2 y t = ordN (numC k1 x s) (numC k2 y t) from if_pos h]
    exact Compare_numsG k1 k2 x y _ _ _ s t _ w (by simpa using h.1) (by simpa using h.2) (fun W => Num_all k1 x s W hs) (fun W => Num_all k2 y t W ht) (fun W => order_all _ _ W)
  · rw [show cmpC k1 x s k2 y t = Lib.compareBytes (strC k1 x s).data.toList (strC k2 y t).data.toList from if_neg h]
    exact Compare_strs k1 k2 x y s t _ _ _ w (by omega) (fun W hb => Str_all k1 x s W hx (hE.below hb) (hT.below hb)) (fun W hb => Str_all k2 y t W hy (hE.below hb) (hT.below hb))
end Go.Proofs.YtflbhifdololfaaGreatDoor
