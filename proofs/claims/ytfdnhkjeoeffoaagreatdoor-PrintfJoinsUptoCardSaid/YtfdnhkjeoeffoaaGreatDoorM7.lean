/- Several texts in one (U3, U4, W2, V1, V3, V2, V4, V5, P23, P24, V6, W3, G5, W14, I4). -/
import Derived.Test.YtfdnhkjeoeffoaaGreatDoorM6
import Derived.Test.YtfdnhkjeoeffoaaGreatDoorM5
import Derived.Lib.DecodeN
import Derived.Test.YtfdnhkjeoeffoaaGreatDoorM1
import Derived.Test.YtfdnhkjeoeffoaaGreatDoorM3
import Derived.StillTailTactics
import Derived.Deep.RegionHeld3
import Derived.Test.YtfdnhkjeoeffoaaGreatDoorM4
section
/- Package ustr: Len and Sub. -/
namespace Go.Proofs.YtfdnhkjeoeffoaaGreatDoor
open Go.RowKit Go.Shelf
set_option linter.unusedVariables false
attribute [local go_sem] Oper.semAt_some
set_option maxHeartbeats 4000000 in
set_option maxRecDepth 100000 in
theorem ULen_any (s : ByteArray) (b : Bool) (w : World) (hs : s.size ≤ 140737488351232) (hU : U8Ok w) :
 Calls Tryz.prog 125 #[.string s, .bool b] w fun e w' => e = .returned (.int .i64 ((chars s b 0).length : Nat)) ∧ Below w.heap.size w w' := by
 have HU := Lib.hid hU
 have hL : Hid ((chars s b 0).length ≤ s.size) := chars_len s b s.size 0 (by omega)
 have hu1 := hU.lt1
 have hu2 := hU.lt2
 clear hU
 refine (callsIn_wide (n := 9)).1 ?_
 refine callsIn_of_wp_marks Tryz.func125 rfl trivial ?_ rfl
 simp only [Tryz.ntmps125, List.size_toArray, List.length_cons, List.length_nil, Nat.reduceAdd, Nat.reduceSub, Array.replicate_succ, Array.replicate_zero, List.push_toArray, List.append_toArray, List.nil_append, List.cons_append]
 refine wpIn_wide.2 ?_
 go_wp2_with fail
 refine (UAll_any s b _).mono ?_
 rintro e w1 ⟨rfl, hw1⟩
 have b0 := Boxed.new w 3 (.int .i64 0)
 have e1 : w1.heap.size = w.heap.size + 3 := by rw [hw1]; simp
 have hb1 : Below w.heap.size w w1 := by rw [hw1]; exact (((Below.refl _ w).alloc (Nat.le_refl _) _).alloc (by simp) _).alloc (by simp; omega) _
 have c1 : w1.cell? ⟨w.heap.size + 1, 0, none⟩ = some (.string s) := by rw [hw1]; simp [go_sem]
 have c2 : w1.cell? ⟨w.heap.size + 2, 0, none⟩ = some (.bool b) := by rw [hw1]; simp [go_sem]
 have k0 : w1.cell? ⟨w.heap.size, 0, none⟩ = some (.int .i64 0) := by rw [hw1]; simp [go_sem]
 have f0 : w1.frozen? ⟨w.heap.size, 0, none⟩ = false := by rw [hw1]; simp [go_sem]
 have hU1 : U8Ok w1 := HU.out.below hb1
 clear hw1 b0
 rw [World.size_alloc]
 go_wp2_with fail
 refine (wpIn_wide (n := 9)).1 ?_
 refine wpIn_rangeFunc_ownF (α := Nat × Nat) (encs := fun x => #[Value.int .i64 (x.1 : Int), Value.int .i64 (x.2 : Int)]) rfl (by decide) (gf := 241) (lb := #[.pointer (some ⟨w.heap.size + 1, 0, none⟩), .pointer (some ⟨w.heap.size + 1 + 1, 0, none⟩)]) rfl trivial (enters_of Tryz.func241 (by kernel_rfl) rfl)
  (all_stops 8 (w.heap.size + 1) (w.heap.size + 1 + 1) w.heap.size s b (by decide) hs w1 (by omega) (by omega) (by omega) (by omega) (by omega) c1 c2 hU1)
  (fun h k => KpU.trans h k) (fun W l o o' => KpU.put (by omega) (by omega) (by omega) W l o o') (Below.refl _ _) (fun _ => rfl)
  (fun pre W => (W.cell? ⟨w.heap.size, 0, none⟩ = some (.int .i64 (pre.length : Nat)) ∧ W.frozen? ⟨w.heap.size, 0, none⟩ = false) ∧ Below w.heap.size w W)
  (fun _ _ _ => False)
  (OwnFrom.and (Own.from (fun s A B row hs hg hr => ⟨cell_kept hs.1 hg hr, (frozen_kept hs.1 hg hr).trans hs.2⟩) _) (ownFrom_below (Nat.le_refl _) (by omega)))
  (fun _ _ _ _ _ hs _ _ => hs)
  ⟨⟨k0, f0⟩, hb1⟩
  (fun x => { tmps := #[.string s, .bool b, undef, undef, .int .i64 0, .pointer (some ⟨w.heap.size, 0, none⟩), .string s, .bool b, .func (.func 241) #[] #[.pointer (some ⟨w.heap.size + 1, 0, none⟩), .pointer (some ⟨w.heap.size + 1 + 1, 0, none⟩)], .int .i64 (x.1 : Int), .int .i64 (x.2 : Int), undef, undef, undef], defers := [] }) ?assign ?body ?done (fun _ _ _ _ _ _ h => h.elim)
 case assign =>
  intro l x W K hK
  gi_wp2
  simpa using hK
 case body =>
  rintro l pre x W ⟨⟨hc, hf⟩, hB⟩ hlt
  have hlt' : (pre.length : Int) ≤ 140737488351232 := by omega
  have HB := Lib.hid hB
  clear hB k0 f0 c1 c2
  gi_wp2
  refine ⟨(KeepsOthers.setCell _ _ _), KpU.set (KpU.refl _ _ _ _) (p := ⟨w.heap.size, 0, none⟩) (Nat.le_refl _) (by simp) (by simp only []; omega) _, ⟨?_, by rw [World.frozen?_setCell]; exact hf⟩, HB.out.setCell (p := ⟨w.heap.size, 0, none⟩) (Nat.le_refl _) _⟩
  rw [World.cell?_setCell_same' _ _ _ (by rw [hc]; rfl)]
  simp
 case done =>
  rintro D ys W hD rfl ⟨⟨hc, hf⟩, hB⟩ hK
  have HB := Lib.hid hB
  clear hB k0 f0 c1 c2
  go_wp2_with fail
  refine ⟨by simp, .inl ⟨_, _, rfl, run_takeDeferred hK, ?_⟩⟩
  exact ⟨_, results_tmp rfl _ _ _, rfl, HB.out.trans (belowK_b (w := w1) (by omega) W D _ _ hD hK rfl rfl)⟩
/-- where a character of a number begins -/
def placeC (s : ByteArray) (b : Bool) (q : Nat) : Nat := match (chars s b 0)[q]? with
 | some x => x.1
 | none => s.size
/-- the place at which Sub begins -/
def loF (n : Nat) : List (Nat × Nat) → Nat := List.foldl (fun lo x => if lo = n then x.1 else lo) n
theorem loF_snoc (n : Nat) (pre : List (Nat × Nat)) (x : Nat × Nat) : loF n (pre ++ [x]) = if loF n pre = n then x.1 else loF n pre := by
 unfold loF
 rw [List.foldl_append]
 rfl
theorem loF_cons (n a c : Nat) (l : List (Nat × Nat)) (h : a ≠ n) : loF n ((a, c) :: l) = a := by
 have : ∀ l : List (Nat × Nat), List.foldl (fun lo (x : Nat × Nat) => if lo = n then x.1 else lo) a l = a := by
  intro l
  induction l with
  | nil => rfl
  | cons x l ih => simp only [List.foldl_cons, if_neg h]; exact ih
 show List.foldl _ (if n = n then a else n) l = a
 rw [if_pos rfl]
 exact this l
theorem chars_at (s : ByteArray) (b : Bool) : ∀ (n m : Nat), s.size - m ≤ n → ∀ x ∈ chars s b m, m ≤ x.1 ∧ x.1 < s.size := by
 intro n
 induction n with
 | zero => intro m h x hx; rw [chars_end (by omega)] at hx; cases hx
 | succ n ih =>
   intro m h x hx
   rcases Nat.lt_or_ge m s.size with h' | h'
   ·have hw := nxt_width b h'
    rw [chars_step h'] at hx
    rcases List.mem_cons.1 hx with rfl | hx
    ·exact ⟨Nat.le_refl _, h'⟩
    ·have := ih (m + (nxt s m b).2) (by omega) x hx
     omega
   ·rw [chars_end h'] at hx; cases hx
/-- the cells that Sub reads and writes -/
structure SubC (p0 p1 p2 B1 B2 B3 : Nat) (s : ByteArray) (q lo hi k : Nat) (W : World) : Prop where
 c0 : W.cell? ⟨p0, 0, none⟩ = some (.string s)
 c1 : W.cell? ⟨p1, 0, none⟩ = some (.int .i64 1)
 c2 : W.cell? ⟨p2, 0, none⟩ = some (.int .i64 ((q : Int) + 1))
 d1 : W.cell? ⟨B1, 0, none⟩ = some (.int .i64 (lo : Nat))
 d2 : W.cell? ⟨B2, 0, none⟩ = some (.int .i64 (hi : Nat))
 d3 : W.cell? ⟨B3, 0, none⟩ = some (.int .i64 (k : Nat))
 f1 : W.frozen? ⟨B1, 0, none⟩ = false
 f2 : W.frozen? ⟨B2, 0, none⟩ = false
 f3 : W.frozen? ⟨B3, 0, none⟩ = false
section
variable {p0 p1 p2 B1 B2 B3 : Nat} {s : ByteArray} {q lo hi k : Nat} {W : World}
theorem cell_far {W : World} {B C : Nat} {u v : Value} (h : W.cell? ⟨B, 0, none⟩ = some v) (hne : B ≠ C) : (W.setCell ⟨C, 0, none⟩ u).cell? ⟨B, 0, none⟩ = some v := (World.cell?_setCell_far _ ⟨C, 0, none⟩ ⟨B, 0, none⟩ _ (by first | exact hne | exact hne.symm)).trans h
theorem cell_near {W : World} {B : Nat} {u v : Value} (h : W.cell? ⟨B, 0, none⟩ = some v) : (W.setCell ⟨B, 0, none⟩ u).cell? ⟨B, 0, none⟩ = some u := World.cell?_setCell_same' _ _ _ (by rw [h]; rfl)
theorem SubC.set1 (h : SubC p0 p1 p2 B1 B2 B3 s q lo hi k W) (a0 : p0 ≠ B1) (a1 : p1 ≠ B1) (a2 : p2 ≠ B1) (a3 : B2 ≠ B1) (a4 : B3 ≠ B1) (v : Nat) : SubC p0 p1 p2 B1 B2 B3 s q v hi k (W.setCell ⟨B1, 0, none⟩ (.int .i64 (v : Nat))) :=
 ⟨cell_far h.c0 a0, cell_far h.c1 a1, cell_far h.c2 a2, cell_near h.d1, cell_far h.d2 a3, cell_far h.d3 a4, by rw [World.frozen?_setCell]; exact h.f1, by rw [World.frozen?_setCell]; exact h.f2, by rw [World.frozen?_setCell]; exact h.f3⟩
theorem SubC.set2 (h : SubC p0 p1 p2 B1 B2 B3 s q lo hi k W) (a0 : p0 ≠ B2) (a1 : p1 ≠ B2) (a2 : p2 ≠ B2) (a3 : B1 ≠ B2) (a4 : B3 ≠ B2) (v : Nat) : SubC p0 p1 p2 B1 B2 B3 s q lo v k (W.setCell ⟨B2, 0, none⟩ (.int .i64 (v : Nat))) :=
 ⟨cell_far h.c0 a0, cell_far h.c1 a1, cell_far h.c2 a2, cell_far h.d1 a3, cell_near h.d2, cell_far h.d3 a4, by rw [World.frozen?_setCell]; exact h.f1, by rw [World.frozen?_setCell]; exact h.f2, by rw [World.frozen?_setCell]; exact h.f3⟩
theorem SubC.set3 (h : SubC p0 p1 p2 B1 B2 B3 s q lo hi k W) (a0 : p0 ≠ B3) (a1 : p1 ≠ B3) (a2 : p2 ≠ B3) (a3 : B1 ≠ B3) (a4 : B2 ≠ B3) (v : Nat) (x : Int) (hx : x = (v : Int)) : SubC p0 p1 p2 B1 B2 B3 s q lo hi v (W.setCell ⟨B3, 0, none⟩ (.int .i64 x)) := by
 subst hx
 exact ⟨cell_far h.c0 a0, cell_far h.c1 a1, cell_far h.c2 a2, cell_far h.d1 a3, cell_far h.d2 a4, cell_near h.d3, by rw [World.frozen?_setCell]; exact h.f1, by rw [World.frozen?_setCell]; exact h.f2, by rw [World.frozen?_setCell]; exact h.f3⟩
theorem SubC.own {α : Type} (lo hi k : α → Nat) : Own (fun (x : α) W => SubC p0 p1 p2 B1 B2 B3 s q (lo x) (hi x) (k x) W) := fun x A B row hs hg hr =>
 ⟨cell_kept hs.c0 hg hr, cell_kept hs.c1 hg hr, cell_kept hs.c2 hg hr, cell_kept hs.d1 hg hr, cell_kept hs.d2 hg hr, cell_kept hs.d3 hg hr, (frozen_kept hs.d1 hg hr).trans hs.f1, (frozen_kept hs.d2 hg hr).trans hs.f2, (frozen_kept hs.d3 hg hr).trans hs.f3⟩
end
theorem chars_lo (s : ByteArray) (b : Bool) {pre : List (Nat × Nat)} (hp : pre <+: chars s b 0) (h : pre ≠ [] ∨ chars s b 0 = []) : loF s.size pre = 0 ∨ (pre = [] ∧ s.size = 0) := by
 cases pre with
 | nil =>
   refine .inr ⟨rfl, ?_⟩
   rcases h with h | h
   ·exact absurd rfl h
   ·rcases Nat.eq_zero_or_pos s.size with h' | h'
    ·exact h'
    ·rw [chars_step h'] at h; cases h
 | cons x l =>
   obtain ⟨r, hr⟩ := hp
   have hs : 0 < s.size := by
    rcases Nat.eq_zero_or_pos s.size with h' | h'
    ·rw [chars_end (by omega)] at hr; cases hr
    ·exact h'
   rw [chars_step hs] at hr
   obtain ⟨x1, x2⟩ := x
   have e : x1 = 0 := by
    have := (List.cons.inj hr).1
    exact congrArg Prod.fst this
   subst e
   exact .inl (loF_cons _ _ _ _ (by omega))
theorem loF_zero (s : ByteArray) (b : Bool) {pre : List (Nat × Nat)} (hp : pre <+: chars s b 0) (h : pre ≠ [] ∨ chars s b 0 = []) : loF s.size pre = 0 := by
 rcases chars_lo s b hp h with h1 | ⟨rfl, h1⟩
 ·exact h1
 ·exact h1
set_option maxHeartbeats 4000000 in
set_option maxRecDepth 100000 in
theorem USub_any (s : ByteArray) (q : Nat) (b : Bool) (w : World) (hq : q ≤ 1000000) (hs : s.size ≤ 140737488351232) (hU : U8Ok w) :
 Calls Tryz.prog 124 #[.string s, .int .i64 1, .int .i64 ((q : Int) + 1), .bool b] w fun e w' => e = .returned (.string (s.extract 0 (placeC s b q))) ∧ Below w.heap.size w w' := by
 have HU := Lib.hid hU
 have hu1 := hU.lt1
 have hu2 := hU.lt2
 clear hU
 refine (callsIn_wide (n := 9)).1 ?_
 refine callsIn_of_wp_marks Tryz.func124 rfl trivial ?_ rfl
 simp only [Tryz.ntmps124, List.size_toArray, List.length_cons, List.length_nil, Nat.reduceAdd, Nat.reduceSub, Array.replicate_succ, Array.replicate_zero, List.push_toArray, List.append_toArray, List.nil_append, List.cons_append]
 refine wpIn_wide.2 ?_
 go_wp2_with fail
 have g0 : (((w.alloc (.cells #[.string s] 9)).alloc (.cells #[.int .i64 1] 3)).alloc (.cells #[.int .i64 ((q : Int) + 1)] 3)).cell? ⟨w.heap.size, 0, none⟩ = some (.string s) := by simp [go_sem]
 have g1 : (((w.alloc (.cells #[.string s] 9)).alloc (.cells #[.int .i64 1] 3)).alloc (.cells #[.int .i64 ((q : Int) + 1)] 3)).cell? ⟨w.heap.size + 1, 0, none⟩ = some (.int .i64 1) := by simp [go_sem]
 have g2 : (((w.alloc (.cells #[.string s] 9)).alloc (.cells #[.int .i64 1] 3)).alloc (.cells #[.int .i64 ((q : Int) + 1)] 3)).cell? ⟨w.heap.size + 2, 0, none⟩ = some (.int .i64 ((q : Int) + 1)) := by simp [go_sem]
 have hb0 : Below w.heap.size w (((w.alloc (.cells #[.string s] 9)).alloc (.cells #[.int .i64 1] 3)).alloc (.cells #[.int .i64 ((q : Int) + 1)] 3)) := (((Below.refl _ w).alloc (Nat.le_refl _) _).alloc (by simp) _).alloc (by simp; omega) _
 have hz0 : (((w.alloc (.cells #[.string s] 9)).alloc (.cells #[.int .i64 1] 3)).alloc (.cells #[.int .i64 ((q : Int) + 1)] 3)).heap.size = w.heap.size + 3 := by simp
 generalize hW0 : World.alloc _ _ = W0 at *
 have HB0 := Lib.hid hb0
 clear hW0 hb0
 refine wp_region_steps (by kernel_rfl) (by kernel_rfl) (by kernel_rfl) (fun a0 V0 L a W => ∃ (u9 u10 u11 u13 u14 u15 u16 : Value) (B1 B2 B3 : Nat), a = { tmps := (((((((a0.tmps.setIfInBounds 9 u9).setIfInBounds 10 u10).setIfInBounds 11 u11).setIfInBounds 13 u13).setIfInBounds 14 u14).setIfInBounds 15 u15).setIfInBounds 16 u16), defers := a0.defers } ∧
  Hid (Inv3 V0 W 3 (L 4) (L 5) (L 6) (L 7) (L 8) (L 9) u9 u10 u11 #[.int .i64 0] #[.int .i64 (s.size : Nat)] #[.int .i64 (s.size : Nat)] #[.int .i64 1] B1 B2 B3) ∧
  Hid (L 0 = true → u13 = .string s) ∧ Hid (L 1 = true → u14 = .int .i64 (s.size : Nat)) ∧ Hid (L 2 = true → u15 = .string s) ∧ Hid (L 3 = true → u16 = .int .i64 (s.size : Nat))) ?h0 ?hstep ?hdone
 case h0 =>
  refine ⟨undef, undef, undef, undef, undef, undef, undef, 0, 0, 0, ?_, Inv3.start _ _ _ _ _ _ _ _ _, fun h => (by cases h), fun h => (by cases h), fun h => (by cases h), fun h => (by cases h)⟩
  simp only [List.setIfInBounds_toArray, List.set_cons_zero, List.set_cons_succ]
 case hstep =>
  refine ⟨?o0, ?o1, ?o2, ?o3, ?o4, ?o5, ?o6, ?o7, ?o8, ?o9, trivial⟩
  case o0 =>
   rintro L a' W ⟨u9, u10, u11, u13, u14, u15, u16, B1, B2, B3, rfl, HI, E0, E1, E2, E3⟩ hL hd K hK
   have k0 : W.cell? ⟨w.heap.size, 0, none⟩ = some (.string s) := cellNext HI.out.below g0
   simp only [List.setIfInBounds_toArray, List.set_cons_zero, List.set_cons_succ]
   go_simp
   refine hK _ _ ⟨u9, u10, u11, .string s, u14, u15, u16, B1, B2, B3, ?_, HI, fun _ => rfl, E1.out, E2.out, E3.out⟩
   simp only [List.setIfInBounds_toArray, List.set_cons_zero, List.set_cons_succ]
  case o1 =>
   rintro L a' W ⟨u9, u10, u11, u13, u14, u15, u16, B1, B2, B3, rfl, HI, E0, E1, E2, E3⟩ hL hd K hK
   have d0 : L 0 = true := hd 0 (List.elem_iff.1 (by kernel_rfl))
   obtain rfl := E0.out d0
   simp only [List.setIfInBounds_toArray, List.set_cons_zero, List.set_cons_succ]
   go_simp
   refine hK _ _ ⟨u9, u10, u11, .string s, .int .i64 (s.size : Nat), u15, u16, B1, B2, B3, ?_, HI, E0.out, fun _ => rfl, E2.out, E3.out⟩
   simp only [List.setIfInBounds_toArray, List.set_cons_zero, List.set_cons_succ]
  case o2 =>
   rintro L a' W ⟨u9, u10, u11, u13, u14, u15, u16, B1, B2, B3, rfl, HI, E0, E1, E2, E3⟩ hL hd K hK
   have k0 : W.cell? ⟨w.heap.size, 0, none⟩ = some (.string s) := cellNext HI.out.below g0
   simp only [List.setIfInBounds_toArray, List.set_cons_zero, List.set_cons_succ]
   go_simp
   refine hK _ _ ⟨u9, u10, u11, u13, u14, .string s, u16, B1, B2, B3, ?_, HI, E0.out, E1.out, fun _ => rfl, E3.out⟩
   simp only [List.setIfInBounds_toArray, List.set_cons_zero, List.set_cons_succ]
  case o3 =>
   rintro L a' W ⟨u9, u10, u11, u13, u14, u15, u16, B1, B2, B3, rfl, HI, E0, E1, E2, E3⟩ hL hd K hK
   have d2 : L 2 = true := hd 2 (List.elem_iff.1 (by kernel_rfl))
   obtain rfl := E2.out d2
   simp only [List.setIfInBounds_toArray, List.set_cons_zero, List.set_cons_succ]
   go_simp
   refine hK _ _ ⟨u9, u10, u11, u13, u14, .string s, .int .i64 (s.size : Nat), B1, B2, B3, ?_, HI, E0.out, E1.out, E2.out, fun _ => rfl⟩
   simp only [List.setIfInBounds_toArray, List.set_cons_zero, List.set_cons_succ]
  case o4 =>
   rintro L a' W ⟨u9, u10, u11, u13, u14, u15, u16, B1, B2, B3, rfl, HI, E0, E1, E2, E3⟩ hL hd K hK
   rw [hL] at HI
   simp only [List.setIfInBounds_toArray, List.set_cons_zero, List.set_cons_succ]
   go_simp
   refine hK _ _ ⟨.pointer (some ⟨W.heap.size, 0, none⟩), u10, u11, u13, u14, u15, u16, W.heap.size, B2, B3, ?_, HI.out.alloc1, E0.out, E1.out, E2.out, E3.out⟩
   simp only [List.setIfInBounds_toArray, List.set_cons_zero, List.set_cons_succ]
  case o5 =>
   rintro L a' W ⟨u9, u10, u11, u13, u14, u15, u16, B1, B2, B3, rfl, HI, E0, E1, E2, E3⟩ hL hd K hK
   rw [hL] at HI
   simp only [List.setIfInBounds_toArray, List.set_cons_zero, List.set_cons_succ]
   go_simp
   refine hK _ _ ⟨u9, .pointer (some ⟨W.heap.size, 0, none⟩), u11, u13, u14, u15, u16, B1, W.heap.size, B3, ?_, HI.out.alloc2, E0.out, E1.out, E2.out, E3.out⟩
   simp only [List.setIfInBounds_toArray, List.set_cons_zero, List.set_cons_succ]
  case o6 =>
   rintro L a' W ⟨u9, u10, u11, u13, u14, u15, u16, B1, B2, B3, rfl, HI, E0, E1, E2, E3⟩ hL hd K hK
   rw [hL] at HI
   simp only [List.setIfInBounds_toArray, List.set_cons_zero, List.set_cons_succ]
   go_simp
   refine hK _ _ ⟨u9, u10, .pointer (some ⟨W.heap.size, 0, none⟩), u13, u14, u15, u16, B1, B2, W.heap.size, ?_, HI.out.alloc3, E0.out, E1.out, E2.out, E3.out⟩
   simp only [List.setIfInBounds_toArray, List.set_cons_zero, List.set_cons_succ]
  case o7 =>
   rintro L a' W ⟨u9, u10, u11, u13, u14, u15, u16, B1, B2, B3, rfl, HI, E0, E1, E2, E3⟩ hL hd K hK
   have d4 : L 4 = true := hd 4 (List.elem_iff.1 (by kernel_rfl))
   have d5 : L 5 = true := hd 5 (List.elem_iff.1 (by kernel_rfl))
   have d6 : L 6 = true := hd 6 (List.elem_iff.1 (by kernel_rfl))
   have d1 : L 1 = true := hd 1 (List.elem_iff.1 (by kernel_rfl))
   obtain rfl := E1.out d1
   rw [d4, d5, d6, hL] at HI
   have h1 := Blk.raw HI.out.b1
   have hu := h1.1
   have hB := h1.2.1
   have hh := h1.2.2
   clear h1
   subst hu
   have kc : W.cell? ⟨B1, 0, none⟩ = some (.int .i64 0) := by rw [Lib.cell_of_heap hh]; rfl
   have kf : W.frozen? ⟨B1, 0, none⟩ = false := Lib.frozen_of_heap hh 0
   simp only [List.setIfInBounds_toArray, List.set_cons_zero, List.set_cons_succ]
   go_simp
   refine hK _ _ ⟨.pointer (some ⟨B1, 0, none⟩), u10, u11, u13, .int .i64 (s.size : Nat), u15, u16, B1, B2, B3, ?_, ?_, E0.out, E1.out, E2.out, E3.out⟩
   ·simp only [List.setIfInBounds_toArray, List.set_cons_zero, List.set_cons_succ]
   have h := HI.out.store1 (turned_one hh _)
   show Inv3 _ _ _ (L 4) (L 5) (L 6) _ _ _ _ _ _ _ _ _ _ _ _ _
   rw [d4, d5, d6]
   exact h
  case o8 =>
   rintro L a' W ⟨u9, u10, u11, u13, u14, u15, u16, B1, B2, B3, rfl, HI, E0, E1, E2, E3⟩ hL hd K hK
   have d4 : L 4 = true := hd 4 (List.elem_iff.1 (by kernel_rfl))
   have d5 : L 5 = true := hd 5 (List.elem_iff.1 (by kernel_rfl))
   have d6 : L 6 = true := hd 6 (List.elem_iff.1 (by kernel_rfl))
   have d3 : L 3 = true := hd 3 (List.elem_iff.1 (by kernel_rfl))
   obtain rfl := E3.out d3
   rw [d4, d5, d6, hL] at HI
   have h1 := Blk.raw HI.out.b2
   have hu := h1.1
   have hB := h1.2.1
   have hh := h1.2.2
   clear h1
   subst hu
   have kc : W.cell? ⟨B2, 0, none⟩ = some (.int .i64 0) := by rw [Lib.cell_of_heap hh]; rfl
   have kf : W.frozen? ⟨B2, 0, none⟩ = false := Lib.frozen_of_heap hh 0
   simp only [List.setIfInBounds_toArray, List.set_cons_zero, List.set_cons_succ]
   go_simp
   refine hK _ _ ⟨u9, .pointer (some ⟨B2, 0, none⟩), u11, u13, u14, u15, .int .i64 (s.size : Nat), B1, B2, B3, ?_, ?_, E0.out, E1.out, E2.out, E3.out⟩
   ·simp only [List.setIfInBounds_toArray, List.set_cons_zero, List.set_cons_succ]
   have h := HI.out.store2 (turned_one hh _)
   show Inv3 _ _ _ (L 4) (L 5) (L 6) _ _ _ _ _ _ _ _ _ _ _ _ _
   rw [d4, d5, d6]
   exact h
  case o9 =>
   rintro L a' W ⟨u9, u10, u11, u13, u14, u15, u16, B1, B2, B3, rfl, HI, E0, E1, E2, E3⟩ hL hd K hK
   have d4 : L 4 = true := hd 4 (List.elem_iff.1 (by kernel_rfl))
   have d5 : L 5 = true := hd 5 (List.elem_iff.1 (by kernel_rfl))
   have d6 : L 6 = true := hd 6 (List.elem_iff.1 (by kernel_rfl))
   rw [d4, d5, d6, hL] at HI
   have h1 := Blk.raw HI.out.b3
   have hu := h1.1
   have hB := h1.2.1
   have hh := h1.2.2
   clear h1
   subst hu
   have kc : W.cell? ⟨B3, 0, none⟩ = some (.int .i64 0) := by rw [Lib.cell_of_heap hh]; rfl
   have kf : W.frozen? ⟨B3, 0, none⟩ = false := Lib.frozen_of_heap hh 0
   simp only [List.setIfInBounds_toArray, List.set_cons_zero, List.set_cons_succ]
   go_simp
   refine hK _ _ ⟨u9, u10, .pointer (some ⟨B3, 0, none⟩), u13, u14, u15, u16, B1, B2, B3, ?_, ?_, E0.out, E1.out, E2.out, E3.out⟩
   ·simp only [List.setIfInBounds_toArray, List.set_cons_zero, List.set_cons_succ]
   have h := HI.out.store3 (turned_one hh _)
   show Inv3 _ _ _ (L 4) (L 5) (L 6) _ _ _ _ _ _ _ _ _ _ _ _ _
   rw [d4, d5, d6]
   exact h
 case hdone =>
  rintro L a' W1 hall ⟨u9, u10, u11, u13, u14, u15, u16, B1, B2, B3, rfl, HI, E0, E1, E2, E3⟩
  rw [hall 4 (by decide), hall 5 (by decide), hall 6 (by decide), hall 7 (by decide), hall 8 (by decide), hall 9 (by decide)] at HI
  obtain ⟨rfl, hB1, hh1⟩ := HI.out.b1.full
  obtain ⟨rfl, hB2, hh2⟩ := HI.out.b2.full
  obtain ⟨rfl, hB3, hh3⟩ := HI.out.b3.full
  have d12 := HI.out.d12 rfl rfl
  have d13 := HI.out.d13 rfl rfl
  have d23 := HI.out.d23 rfl rfl
  simp only [List.setIfInBounds_toArray, List.set_cons_zero, List.set_cons_succ]
  rename_i Q' K hKK
  have HBw : Hid (Below w.heap.size w W1) := HB0.out.trans (HI.out.below.mono (by omega))
  have hbz := HI.out.below.size
  have k0 : W1.cell? ⟨w.heap.size, 0, none⟩ = some (.string s) := cellNext HI.out.below g0
  have k1 : W1.cell? ⟨w.heap.size + 1, 0, none⟩ = some (.int .i64 1) := cellNext HI.out.below g1
  have k2 : W1.cell? ⟨w.heap.size + 2, 0, none⟩ = some (.int .i64 ((q : Int) + 1)) := cellNext HI.out.below g2
  have HS : Hid (SubC w.heap.size (w.heap.size + 1) (w.heap.size + 2) B1 B2 B3 s q s.size s.size 1 W1) :=
   ⟨k0, k1, k2, by rw [Lib.cell_of_heap hh1]; rfl, by rw [Lib.cell_of_heap hh2]; rfl, by rw [Lib.cell_of_heap hh3]; rfl, Lib.frozen_of_heap hh1 0, Lib.frozen_of_heap hh2 0, Lib.frozen_of_heap hh3 0⟩
  have hl1 := lt_of_heap hh1
  have hl2 := lt_of_heap hh2
  have hl3 := lt_of_heap hh3
  refine hKK _ _ ?_
  clear hKK hall HI E0 E1 E2 E3 g0 g1 g2 hh1 hh2 hh3 HB0 k1 k2
  go_wp2_with fail
  refine (UAll_any s b _).mono ?_
  rintro e w1 ⟨rfl, hw1⟩
  have e1 : w1.heap.size = W1.heap.size + 2 := by rw [hw1]; simp
  have hb1 : Below W1.heap.size W1 w1 := by rw [hw1]; exact ((Below.refl _ W1).alloc (Nat.le_refl _) _).alloc (by simp) _
  have c1 : w1.cell? ⟨W1.heap.size, 0, none⟩ = some (.string s) := by rw [hw1]; simp [go_sem]
  have c2 : w1.cell? ⟨W1.heap.size + 1, 0, none⟩ = some (.bool b) := by rw [hw1]; simp [go_sem]
  have HS1 : Hid (SubC w.heap.size (w.heap.size + 1) (w.heap.size + 2) B1 B2 B3 s q s.size s.size 1 w1) := by
   have h := HS.out
   exact ⟨cellNext hb1 h.c0, cellNext hb1 h.c1, cellNext hb1 h.c2, cellNext hb1 h.d1, cellNext hb1 h.d2, cellNext hb1 h.d3, (hb1.frozen (p := ⟨B1, 0, none⟩) hl1).trans h.f1, (hb1.frozen (p := ⟨B2, 0, none⟩) hl2).trans h.f2, (hb1.frozen (p := ⟨B3, 0, none⟩) hl3).trans h.f3⟩
  have HBw1 : Hid (Below w.heap.size w w1) := HBw.out.trans (hb1.mono (by omega))
  have hU1 : U8Ok w1 := HU.out.below HBw1.out
  clear hw1 HS HBw k0
  go_wp2_with fail
  refine (wpIn_wide (n := 9)).1 ?_
  refine wpIn_rangeFunc_ownF (α := Nat × Nat) (encs := fun x => #[Value.int .i64 (x.1 : Int), Value.int .i64 (x.2 : Int)]) rfl (by decide) (gf := 241) (lb := #[.pointer (some ⟨W1.heap.size, 0, none⟩), .pointer (some ⟨W1.heap.size + 1, 0, none⟩)]) rfl trivial (enters_of Tryz.func241 (by kernel_rfl) rfl)
   (all_stops 8 W1.heap.size (W1.heap.size + 1) w.heap.size s b (by decide) hs w1 (by omega) (by omega) (by omega) (by omega) (by omega) c1 c2 hU1)
   (fun h k => KpU.trans h k) (fun W l o o' => KpU.put (by omega) (by omega) (by omega) W l o o') (Below.refl _ _) (fun _ => rfl)
   (fun pre W => SubC w.heap.size (w.heap.size + 1) (w.heap.size + 2) B1 B2 B3 s q (loF s.size pre) s.size (pre.length + 1) W ∧ Below w.heap.size w W ∧ pre.length ≤ q)
   (fun c pre W => SubC w.heap.size (w.heap.size + 1) (w.heap.size + 2) B1 B2 B3 s q (loF s.size pre) ((pre.getLast?.map (·.1)).getD 0) pre.length W ∧ Below w.heap.size w W ∧ (pre.length = q + 1 ∧ c = .exit 0))
   (OwnFrom.and (Own.from (SubC.own _ _ _) _) (OwnFrom.and (ownFrom_below (Nat.le_refl _) (by omega)) (fun _ _ _ _ h _ _ => h)))
   (fun c => OwnFrom.and (Own.from (SubC.own _ _ _) _) (OwnFrom.and (ownFrom_below (Nat.le_refl _) (by omega)) (fun _ _ _ _ h _ _ => h)))
   ⟨HS1.out, HBw1.out, Nat.zero_le _⟩
   (fun x => { tmps := #[.string s, .int .i64 1, .int .i64 ((q : Int) + 1), .bool b, .pointer (some ⟨w.heap.size, 0, none⟩), .pointer (some ⟨w.heap.size + 1, 0, none⟩), .pointer (some ⟨w.heap.size + 1 + 1, 0, none⟩), undef, .string ⟨#[]⟩, .pointer (some ⟨B1, 0, none⟩), .pointer (some ⟨B2, 0, none⟩), .pointer (some ⟨B3, 0, none⟩), .int .i64 (x.1 : Int), u13, u14, u15, u16, .string s, .bool b, .func (.func 241) #[] #[.pointer (some ⟨W1.heap.size, 0, none⟩), .pointer (some ⟨W1.heap.size + 1, 0, none⟩)], .int .i64 (x.1 : Int), .int .i64 (x.2 : Int), undef, undef, undef, undef, undef, undef, undef, undef, undef, undef, undef, undef, undef, undef, undef, undef, undef, undef, undef, undef, undef, undef], defers := [] }) ?assign ?body ?done ?stop
  case assign =>
   intro l x W K hK
   gi_wp2
   simpa using hK
  case body =>
   rintro l pre x W ⟨hS, hB, hq1⟩ hlt
   obtain ⟨n, hn⟩ : ∃ n, n = s.size := ⟨_, rfl⟩
   have hlast : ((pre ++ [x]).getLast?.map (·.1)).getD 0 = x.1 := by simp
   have hlen : (pre ++ [x]).length = pre.length + 1 := by simp
   have HSn := loF_snoc s.size pre x
   have a1 : w.heap.size ≠ B1 := by omega
   have a2 : w.heap.size ≠ B2 := by omega
   have a3 : w.heap.size ≠ B3 := by omega
   have b1 : w.heap.size + 1 ≠ B1 := by omega
   have b2 : w.heap.size + 1 ≠ B2 := by omega
   have b3 : w.heap.size + 1 ≠ B3 := by omega
   have e1' : w.heap.size + 2 ≠ B1 := by omega
   have e2' : w.heap.size + 2 ≠ B2 := by omega
   have e3' : w.heap.size + 2 ≠ B3 := by omega
   have m1 : B1 ≠ W1.heap.size := by omega
   have m2 : B2 ≠ W1.heap.size := by omega
   have m3 : B3 ≠ W1.heap.size := by omega
   have n1 : B1 ≠ W1.heap.size + 1 := by omega
   have n2 : B2 ≠ W1.heap.size + 1 := by omega
   have n3 : B3 ≠ W1.heap.size + 1 := by omega
   obtain ⟨lo, hlo⟩ : ∃ lo, lo = loF s.size pre := ⟨_, rfl⟩
   obtain ⟨k, hk⟩ : ∃ k, k = pre.length + 1 := ⟨_, rfl⟩
   rw [← hlo, ← hk] at hS
   rw [← hlo] at HSn
   have hk1 : (1 : Int) ≤ (k : Nat) := by omega
   have hkq : (k : Int) ≤ 1000002 := by omega
   have HB := Lib.hid hB
   have HKL := Lib.hid hk
   have HQ1 := Lib.hid hq1
   have HL2 := Lib.hid hlast
   have HL3 := Lib.hid hlen
   have s0 := hS.c0
   have s1 := hS.c1
   have s2 := hS.c2
   have t1 := hS.d1
   have t2 := hS.d2
   have t3 := hS.d3
   have r1 := hS.f1
   have r2 := hS.f2
   have r3 := hS.f3
   have HS := Lib.hid hS
   have hn1 : w.heap.size ≤ B1 := by omega
   have hn2 : w.heap.size ≤ B2 := by omega
   have hn3 : w.heap.size ≤ B3 := by omega
   clear hB hlo hk hq1 hlast hlen hS c1 c2 HS1 HBw1 hlt
   by_cases hl : lo = s.size
   ·have hlb : ((lo : Int) == (s.size : Int)) = true := by simp [hl]
    rw [if_pos hl] at HSn
    have HSN := Lib.hid HSn
    have HT : Hid (SubC w.heap.size (w.heap.size + 1) (w.heap.size + 2) B1 B2 B3 s q x.1 s.size k (W.setCell ⟨B1, 0, none⟩ (.int .i64 (x.1 : Nat)))) := HS.out.set1 a1 b1 e1' (Ne.symm d12) (Ne.symm d13) x.1
    have v0 := HT.out.c2
    have v3 := HT.out.d3
    have v5 := HT.out.d2
    have v2 := HT.out.f2
    have v4 := HT.out.f3
    clear hl HSn
    by_cases hkk : (q : Int) + 1 ≤ (k : Int)
    ·gi_wp2
     refine ⟨?_, ?_, ?_, ?_, rfl⟩
     ·exact (KeepsOthers.setCell _ _ _).trans (KeepsOthers.setCell _ _ _)
     ·rw [HSN.out, HL2.out, HL3.out, ← HKL.out]
      exact HT.out.set2 a2 b2 e2' d12 (Ne.symm d23) x.1
     ·exact (HB.out.setCell (p := ⟨B1, 0, none⟩) hn1 _).setCell (p := ⟨B2, 0, none⟩) hn2 _
     ·rw [HL3.out]; have := HKL.out; have := HQ1.out; omega
    ·have hkk' : (k : Int) < (q : Int) + 1 := by omega
     gi_wp2
     refine ⟨(KeepsOthers.setCell _ _ _).trans (KeepsOthers.setCell _ _ _), KpU.set (KpU.set (KpU.refl _ _ _ _) (p := ⟨B1, 0, none⟩) hn1 (Ne.symm m1) (Ne.symm n1) _) (p := ⟨B3, 0, none⟩) hn3 (Ne.symm m3) (Ne.symm n3) _, ?_, ?_, ?_⟩
     ·rw [HSN.out, HL3.out, ← HKL.out]
      exact HT.out.set3 a3 b3 e3' d13 d23 (k + 1) _ (by omega)
     ·exact (HB.out.setCell (p := ⟨B1, 0, none⟩) hn1 _).setCell (p := ⟨B3, 0, none⟩) hn3 _
     ·rw [HL3.out]; have := HKL.out; omega
   ·have hlb : ((lo : Int) == (s.size : Int)) = false := by simp; omega
    rw [if_neg hl] at HSn
    have HSN := Lib.hid HSn
    clear hl HSn
    by_cases hkk : (q : Int) + 1 ≤ (k : Int)
    ·gi_wp2
     refine ⟨?_, ?_, ?_, ?_, rfl⟩
     ·exact KeepsOthers.setCell _ _ _
     ·rw [HSN.out, HL2.out, HL3.out, ← HKL.out]
      exact HS.out.set2 a2 b2 e2' d12 (Ne.symm d23) x.1
     ·exact HB.out.setCell (p := ⟨B2, 0, none⟩) hn2 _
     ·rw [HL3.out]; have := HKL.out; have := HQ1.out; omega
    ·have hkk' : (k : Int) < (q : Int) + 1 := by omega
     gi_wp2
     refine ⟨KeepsOthers.setCell _ _ _, KpU.set (KpU.refl _ _ _ _) (p := ⟨B3, 0, none⟩) hn3 (Ne.symm m3) (Ne.symm n3) _, ?_, ?_, ?_⟩
     ·rw [HSN.out, HL3.out, ← HKL.out]
      exact HS.out.set3 a3 b3 e3' d13 d23 (k + 1) _ (by omega)
     ·exact HB.out.setCell (p := ⟨B3, 0, none⟩) hn3 _
     ·rw [HL3.out]; have := HKL.out; omega
  case done =>
   rintro D ys W hD rfl ⟨hS, hB, hq1⟩ hK
   rw [loF_zero s b (List.prefix_refl _) (by by_cases h : chars s b 0 = []; exact .inr h; exact .inl h)] at hS
   have HP : Hid (s.extract 0 (placeC s b q) = s) := by
    show _ = _
    unfold placeC
    rw [List.getElem?_eq_none hq1]
    simp
   have s0 := hS.c0
   have t1 := hS.d1
   have t2 := hS.d2
   have HB := Lib.hid hB
   have hmin : min (0 : Int) (s.size : Int) = 0 := by omega
   clear hB hS hq1 c1 c2 HS1 HBw1
   go_wp2_with fail
   refine ⟨by simp, .inl ⟨_, _, rfl, run_takeDeferred hK, ?_⟩⟩
   rw [HP.out]
   exact ⟨_, results_tmp rfl _ _ _, rfl, HB.out.trans (belowK_b (w := w1) (by omega) W D _ _ hD hK rfl rfl)⟩
  case stop =>
   rintro D c pre W hD hpre ⟨hS, hB, hq1, rfl⟩ hK
   rw [loF_zero s b hpre (.inl (by rintro rfl; simp at hq1))] at hS
   obtain ⟨h, hh⟩ : ∃ h, h = (pre.getLast?.map (·.1)).getD 0 := ⟨_, rfl⟩
   rw [← hh] at hS
   have hpl : placeC s b q = h ∧ h ≤ s.size := by
    obtain ⟨r, hr⟩ := hpre
    have hg : pre.getLast? = pre[q]? := by rw [List.getLast?_eq_getElem?]; congr 1; omega
    have hx : pre[q]? = some pre[q] := List.getElem?_eq_getElem (by omega)
    have hc : (chars s b 0)[q]? = some pre[q] := by rw [← hr, List.getElem?_append_left (by omega)]; exact hx
    have hm := chars_at s b _ 0 (Nat.le_refl _) _ (List.mem_of_getElem? hc)
    unfold placeC
    rw [hc, hh, hg, hx]
    exact ⟨rfl, Nat.le_of_lt hm.2⟩
   have HP : Hid (s.extract 0 (placeC s b q) = s.extract 0 h) := by show _ = _; rw [hpl.1]
   have hle := hpl.2
   have s0 := hS.c0
   have t1 := hS.d1
   have t2 := hS.d2
   have HB := Lib.hid hB
   have hmin : min (0 : Int) (h : Int) = 0 := by omega
   have hhI : (h : Int) ≤ (s.size : Int) := by omega
   clear hB hS hq1 c1 c2 HS1 HBw1 hpl hh
   refine wpIn_wide.2 ?_
   go_wp2_with fail
   refine ⟨by simp, .inl ⟨_, _, rfl, run_takeDeferred hK, ?_⟩⟩
   rw [HP.out]
   exact ⟨_, results_tmp rfl _ _ _, rfl, HB.out.trans (belowK_b (w := w1) (by omega) W D _ _ hD hK rfl rfl)⟩
end Go.Proofs.YtfdnhkjeoeffoaaGreatDoor
end

section
/- Package format: Check and Text at any spec. -/
namespace Go.Proofs.YtfdnhkjeoeffoaaGreatDoor
open Go.RowKit
set_option linter.unusedVariables false
set_option maxHeartbeats 8000000 in
set_option maxRecDepth 100000 in
theorem Check_bad (m p b a z : Bool) (wd pr : Int) (vb : Nat) (w : World) (h : okS wd pr vb = false) :
 Calls Tryz.prog 68 #[.agg (specA m p b a z wd pr vb)] w fun e w' => e = .returned (.int .i64 50) ∧ Below w.heap.size w w' := by
 unfold okS at h
 have HI : Hid (∀ W, Calls Tryz.prog 69 #[.string ⟨#[100, 105, 111, 120, 88, 117, 101, 69, 102, 70, 103, 71, 99, 115, 37]⟩, .int .u8 (vb : Int)] W fun e w' => e = .returned (.int .i64 (ixB verbsB vb)) ∧ w' = W) :=
  fun W => Tryz.strings_IndexByte verbsB (vb : Int) W
 generalize ixB verbsB vb = J at *
 unfold specA
 by_cases c0 : vb = 0
 ·subst c0
  clear h HI
  go_enter Tryz.func68, Tryz.ntmps68
  go_wp2_with fail
  go_ret
  exact ⟨rfl, (Below.refl _ _).alloc (Nat.le_refl _) _⟩
 have hv : ((vb : Int) == 0) = false := by simp; omega
 by_cases c1 : J < 0
 ·have j2 : decide (J < 0) = true := by simp; omega
  clear h c0 c1
  go_enter Tryz.func68, Tryz.ntmps68
  go_wp2_with fail
  refine (HI.out _).mono ?_
  rintro e _ ⟨rfl, rfl⟩
  go_wp2_with fail
  go_ret
  exact ⟨rfl, (Below.refl _ _).alloc (Nat.le_refl _) _⟩
 have j2 : decide (J < 0) = false := by simp; omega
 by_cases c2 : wd < 0
 ·have j3 : decide (wd < 0) = true := by simp; omega
  clear h c0 c1 c2
  go_enter Tryz.func68, Tryz.ntmps68
  go_wp2_with fail
  refine (HI.out _).mono ?_
  rintro e _ ⟨rfl, rfl⟩
  go_wp2_with fail
  go_ret
  exact ⟨rfl, (Below.refl _ _).alloc (Nat.le_refl _) _⟩
 have j3 : decide (wd < 0) = false := by simp; omega
 by_cases c3 : 1024 < wd
 ·have j4 : decide (1024 < wd) = true := by simp; omega
  clear h c0 c1 c2 c3
  go_enter Tryz.func68, Tryz.ntmps68
  go_wp2_with fail
  refine (HI.out _).mono ?_
  rintro e _ ⟨rfl, rfl⟩
  go_wp2_with fail
  go_ret
  exact ⟨rfl, (Below.refl _ _).alloc (Nat.le_refl _) _⟩
 have j4 : decide (1024 < wd) = false := by simp; omega
 by_cases c4 : pr < -1
 ·have j5 : decide (pr < -1) = true := by simp; omega
  clear h c0 c1 c2 c3 c4
  go_enter Tryz.func68, Tryz.ntmps68
  go_wp2_with fail
  refine (HI.out _).mono ?_
  rintro e _ ⟨rfl, rfl⟩
  go_wp2_with fail
  go_ret
  exact ⟨rfl, (Below.refl _ _).alloc (Nat.le_refl _) _⟩
 have j5 : decide (pr < -1) = false := by simp; omega
 by_cases c5 : 190 < pr
 ·have j6 : decide (190 < pr) = true := by simp; omega
  clear h c0 c1 c2 c3 c4 c5
  go_enter Tryz.func68, Tryz.ntmps68
  go_wp2_with fail
  refine (HI.out _).mono ?_
  rintro e _ ⟨rfl, rfl⟩
  go_wp2_with fail
  go_ret
  exact ⟨rfl, (Below.refl _ _).alloc (Nat.le_refl _) _⟩
 have j6 : decide (190 < pr) = false := by simp; omega
 exfalso
 have : ((vb != 0) && decide (0 ≤ J) && decide (0 ≤ wd) && decide (wd ≤ 1024) && decide (-1 ≤ pr) && decide (pr ≤ 190)) = true := by
  simp
  omega
 rw [this] at h
 cases h
/-- blanks as bytes -/
def blanksB (n : Nat) : ByteArray := ⟨(List.replicate n 32).toArray⟩
/-- what Text cuts -/
def cutS (pr : Int) (vb : Nat) (s : ByteArray) (by_ : Bool) : ByteArray := if 0 ≤ pr ∧ vb = 115 then s.extract 0 (placeC s by_ pr.toNat) else s
/-- what Text answers -/
def textS (m : Bool) (wd pr : Int) (vb : Nat) (s : ByteArray) (by_ : Bool) : ByteArray :=
 if okS wd pr vb = true ∧ (vb = 115 ∨ vb = 99) then
  (if m = true then cutS pr vb s by_ ++ blanksB (wd - ((chars (cutS pr vb s by_) by_ 0).length : Nat)).toNat else blanksB (wd - ((chars (cutS pr vb s by_) by_ 0).length : Nat)).toNat ++ cutS pr vb s by_)
 else ⟨#[]⟩
def textE (wd pr : Int) (vb : Nat) : Int := if okS wd pr vb = true ∧ (vb = 115 ∨ vb = 99) then 0 else 50
/-- a spec in memory -/
def SpAt (W : World) (B : Nat) (A : Array Value) : Prop := W.heap[B]? = some (.cells A 35 (0, 0))
theorem SpAt.cell {W : World} {B : Nat} {A : Array Value} (h : SpAt W B A) (j : Nat) : W.cell? ⟨B, j, none⟩ = A[j]? := by rw [Lib.cell_of_heap h]
theorem SpAt.next {W W' : World} {B : Nat} {A : Array Value} (h : SpAt W B A) (hb : Below W.heap.size W W') : SpAt W' B A := (hb.block B (lt_of_heap h)).trans h
theorem cutS_size (pr : Int) (vb : Nat) (s : ByteArray) (by_ : Bool) : (cutS pr vb s by_).size ≤ s.size := by
 unfold cutS
 split
 ·rw [ByteArray.size_extract]; omega
 ·exact Nat.le_refl _
set_option maxHeartbeats 8000000 in
set_option maxRecDepth 100000 in
theorem FText_any (m p b a z : Bool) (wd pr : Int) (vb : Nat) (s : ByteArray) (by_ : Bool) (w : World) (hs : s.size ≤ 140737488351232) (hU : U8Ok w) :
 Calls Tryz.prog 66 #[.agg (specA m p b a z wd pr vb), .string s, .bool by_] w fun e w' => e = .returned (.tuple #[.string (textS m wd pr vb s by_), .int .i64 (textE wd pr vb)]) ∧ Below w.heap.size w w' := by
 have HU := Lib.hid hU
 cases hok : okS wd pr vb
 ·have HC := Lib.hid (fun W => Check_bad m p b a z wd pr vb W hok)
  have e1 : textS m wd pr vb s by_ = ⟨#[]⟩ := by unfold textS; rw [if_neg (by rw [hok]; simp)]
  have e2 : textE wd pr vb = 50 := by unfold textE; rw [if_neg (by rw [hok]; simp)]
  rw [e1, e2]
  unfold specA at HC ⊢
  clear e1 e2 hU HU hok
  go_enter Tryz.func66, Tryz.ntmps66
  go_wp2_with fail
  refine (HC.out _).mono ?_
  rintro e w1 ⟨rfl, hb⟩
  have HB := Lib.hid (((Below.refl w.heap.size w).alloc (Nat.le_refl _) _).trans (hb.mono (by simp)))
  clear hb
  go_wp2_with fail
  go_ret2
  exact ⟨rfl, HB.out⟩
 ·have HC := Lib.hid (fun W => Check_ok m p b a z wd pr vb W hok)
  by_cases hvb : vb = 115 ∨ vb = 99
  ·have hoks := hok
   unfold okS at hoks
   simp only [Bool.and_eq_true, decide_eq_true_eq, bne_iff_ne] at hoks
   obtain ⟨⟨⟨⟨⟨h1, h2⟩, h3⟩, h4⟩, h5⟩, h6⟩ := hoks
   have HSZ := cutS_size pr vb s by_
   obtain ⟨S, hS⟩ : ∃ S, S = cutS pr vb s by_ := ⟨_, rfl⟩
   have e1 : textS m wd pr vb s by_ = if m = true then S ++ blanksB (wd - ((chars S by_ 0).length : Nat)).toNat else blanksB (wd - ((chars S by_ 0).length : Nat)).toNat ++ S := by
    unfold textS
    rw [if_pos ⟨hok, hvb⟩, ← hS]
   have e2 : textE wd pr vb = 0 := by unfold textE; rw [if_pos ⟨hok, hvb⟩]
   rw [e1, e2]
   rw [← hS] at HSZ
   have hSs : S.size ≤ 140737488351232 := by omega
   obtain ⟨n, hn⟩ : ∃ n, n = (wd - ((chars S by_ 0).length : Nat)).toNat := ⟨_, rfl⟩
   rw [← hn]
   have HLn := Lib.hid (fun W h => ULen_any S by_ W hSs h)
   have hcl := chars_len S by_ S.size 0 (by omega)
   have hN0 : max 0 (wd - ((chars S by_ 0).length : Nat)) = (n : Int) := by omega
   have hn2 : n ≤ 1000000000 := by omega
   generalize (chars S by_ 0).length = cnt at *
   have hcI : (cnt : Int) ≤ 140737488351232 := by omega
   have HN := Lib.hid (show max 0 (IntKind.i64.wrap (wd - (cnt : Int))) = (n : Int) from by rw [IntKind.wrap_i64]; omega)
   have HRp := Lib.hid (fun W => Repeat_one 32 n W hn2)
   obtain ⟨R, hR⟩ : ∃ R : ByteArray, R = blanksB n := ⟨_, rfl⟩
   rw [show (⟨(List.replicate n (32 : UInt8)).toArray⟩ : ByteArray) = R from hR.symm] at HRp
   rw [← hR]
   have hRs : R.size ≤ 1000000000 := by rw [hR]; unfold blanksB; rw [sz_list]; simpa using hn2
   have HSub := Lib.hid (fun W h => USub_any s pr.toNat by_ W (by omega) hs h)
   have HSe := Lib.hid hS
   have hok1 := hok
   unfold specA at HC ⊢
   clear e1 e2 hU hok hok1 hn hN0 hcl hR h1 h2 hS HSZ
   by_cases hc : 0 ≤ pr ∧ vb = 115
   ·obtain ⟨hp0, rfl⟩ := hc
    have hcs : S = s.extract 0 (placeC s by_ pr.toNat) := by rw [HSe.out]; unfold cutS; rw [if_pos ⟨hp0, rfl⟩]
    rw [← hcs] at HSub
    have HPr := Lib.hid (show ((pr.toNat : Nat) : Int) + 1 = pr + 1 from by omega)
    clear hcs HSe
    cases m
    ·go_enter Tryz.func66, Tryz.ntmps66
     go_wp2_with fail
     refine (HC.out _).mono ?_
     rintro e w1 ⟨rfl, hb⟩
     have hsp : SpAt w1 w.heap.size #[.bool false, .bool p, .bool b, .bool a, .bool z, .int .i64 wd, .int .i64 pr, .int .u8 115] := SpAt.next (heap_alloc_at w _) hb
     have q0 : w1.cell? ⟨w.heap.size, 0, none⟩ = some (.bool false) := hsp.cell 0
     have q5 : w1.cell? ⟨w.heap.size, 5, none⟩ = some (.int .i64 wd) := hsp.cell 5
     have q6 : w1.cell? ⟨w.heap.size, 6, none⟩ = some (.int .i64 pr) := hsp.cell 6
     have q7 : w1.cell? ⟨w.heap.size, 7, none⟩ = some (.int .u8 115) := hsp.cell 7
     have HB := Lib.hid (((Below.refl w.heap.size w).alloc (Nat.le_refl _) _).trans (hb.mono (by simp)))
     clear hb hsp
     go_wp2_with fail
     rw [← HPr.out]
     refine (HSub.out _ (HU.out.below HB.out)).mono ?_
     rintro e w2 ⟨rfl, hb⟩
     have q0 := cell_next hb q0
     have q5 := cell_next hb q5
     have HB := Lib.hid (HB.out.trans (hb.mono HB.out.size))
     clear hb
     go_wp2_with fail
     go_region_held3 (fun w' => w'.cell? ⟨w.heap.size, 5, none⟩ = some (.int .i64 wd)) (first | exact q5 | exact r5)
      (first
       | (go_at_call 125; refine (HLn.out _ (HU.out.below (by first | exact HB.out | exact HB.out.drew))).mono ?_; clear HLn; rintro e w3 ⟨rfl, hb3⟩; have r5 := cell_next hb3 q5; have r0 := cell_next hb3 q0; have HB3 := Lib.hid (below_next (Nat.le_refl _) HB.out hb3 (by first | exact .inl rfl | exact .inr rfl)))
       | (go_at_call 114; rw [HN.out]; refine (HRp.out _).mono ?_; clear HRp; rintro e w4 ⟨rfl, hb4⟩; have r5 := cell_next hb4 r5; have r0 := cell_next hb4 r0; have HB4 := Lib.hid (below_next (Nat.le_refl _) HB3.out hb4 (by first | exact .inl rfl | exact .inr rfl))))
     all_goals go_wp2_with fail
     all_goals go_ret2
     all_goals exact ⟨rfl, HB4.out⟩
    ·go_enter Tryz.func66, Tryz.ntmps66
     go_wp2_with fail
     refine (HC.out _).mono ?_
     rintro e w1 ⟨rfl, hb⟩
     have hsp : SpAt w1 w.heap.size #[.bool true, .bool p, .bool b, .bool a, .bool z, .int .i64 wd, .int .i64 pr, .int .u8 115] := SpAt.next (heap_alloc_at w _) hb
     have q0 : w1.cell? ⟨w.heap.size, 0, none⟩ = some (.bool true) := hsp.cell 0
     have q5 : w1.cell? ⟨w.heap.size, 5, none⟩ = some (.int .i64 wd) := hsp.cell 5
     have q6 : w1.cell? ⟨w.heap.size, 6, none⟩ = some (.int .i64 pr) := hsp.cell 6
     have q7 : w1.cell? ⟨w.heap.size, 7, none⟩ = some (.int .u8 115) := hsp.cell 7
     have HB := Lib.hid (((Below.refl w.heap.size w).alloc (Nat.le_refl _) _).trans (hb.mono (by simp)))
     clear hb hsp
     go_wp2_with fail
     rw [← HPr.out]
     refine (HSub.out _ (HU.out.below HB.out)).mono ?_
     rintro e w2 ⟨rfl, hb⟩
     have q0 := cell_next hb q0
     have q5 := cell_next hb q5
     have HB := Lib.hid (HB.out.trans (hb.mono HB.out.size))
     clear hb
     go_wp2_with fail
     go_region_held3 (fun w' => w'.cell? ⟨w.heap.size, 5, none⟩ = some (.int .i64 wd)) (first | exact q5 | exact r5)
      (first
       | (go_at_call 125; refine (HLn.out _ (HU.out.below (by first | exact HB.out | exact HB.out.drew))).mono ?_; clear HLn; rintro e w3 ⟨rfl, hb3⟩; have r5 := cell_next hb3 q5; have r0 := cell_next hb3 q0; have HB3 := Lib.hid (below_next (Nat.le_refl _) HB.out hb3 (by first | exact .inl rfl | exact .inr rfl)))
       | (go_at_call 114; rw [HN.out]; refine (HRp.out _).mono ?_; clear HRp; rintro e w4 ⟨rfl, hb4⟩; have r5 := cell_next hb4 r5; have r0 := cell_next hb4 r0; have HB4 := Lib.hid (below_next (Nat.le_refl _) HB3.out hb4 (by first | exact .inl rfl | exact .inr rfl))))
     all_goals go_wp2_with fail
     all_goals go_ret2
     all_goals exact ⟨rfl, HB4.out⟩
   ·by_cases h115 : vb = 115
    ·subst h115
     have hp0 : pr < 0 := by omega
     have hcs : S = s := by rw [HSe.out]; unfold cutS; rw [if_neg (by omega)]
     subst hcs
     clear HSe HSub hc
     cases m
     ·go_enter Tryz.func66, Tryz.ntmps66
      go_wp2_with fail
      refine (HC.out _).mono ?_
      rintro e w1 ⟨rfl, hb⟩
      have hsp : SpAt w1 w.heap.size #[.bool false, .bool p, .bool b, .bool a, .bool z, .int .i64 wd, .int .i64 pr, .int .u8 115] := SpAt.next (heap_alloc_at w _) hb
      have q0 : w1.cell? ⟨w.heap.size, 0, none⟩ = some (.bool false) := hsp.cell 0
      have q5 : w1.cell? ⟨w.heap.size, 5, none⟩ = some (.int .i64 wd) := hsp.cell 5
      have q6 : w1.cell? ⟨w.heap.size, 6, none⟩ = some (.int .i64 pr) := hsp.cell 6
      have q7 : w1.cell? ⟨w.heap.size, 7, none⟩ = some (.int .u8 115) := hsp.cell 7
      have HB := Lib.hid (((Below.refl w.heap.size w).alloc (Nat.le_refl _) _).trans (hb.mono (by simp)))
      clear hb hsp
      go_wp2_with fail
      go_region_held3 (fun w' => w'.cell? ⟨w.heap.size, 5, none⟩ = some (.int .i64 wd)) (first | exact q5 | exact r5)
       (first
        | (go_at_call 125; refine (HLn.out _ (HU.out.below (by first | exact HB.out | exact HB.out.drew))).mono ?_; clear HLn; rintro e w3 ⟨rfl, hb3⟩; have r5 := cell_next hb3 q5; have r0 := cell_next hb3 q0; have HB3 := Lib.hid (below_next (Nat.le_refl _) HB.out hb3 (by first | exact .inl rfl | exact .inr rfl)))
        | (go_at_call 114; rw [HN.out]; refine (HRp.out _).mono ?_; clear HRp; rintro e w4 ⟨rfl, hb4⟩; have r5 := cell_next hb4 r5; have r0 := cell_next hb4 r0; have HB4 := Lib.hid (below_next (Nat.le_refl _) HB3.out hb4 (by first | exact .inl rfl | exact .inr rfl))))
      all_goals go_wp2_with fail
      all_goals go_ret2
      all_goals exact ⟨rfl, HB4.out⟩
     ·go_enter Tryz.func66, Tryz.ntmps66
      go_wp2_with fail
      refine (HC.out _).mono ?_
      rintro e w1 ⟨rfl, hb⟩
      have hsp : SpAt w1 w.heap.size #[.bool true, .bool p, .bool b, .bool a, .bool z, .int .i64 wd, .int .i64 pr, .int .u8 115] := SpAt.next (heap_alloc_at w _) hb
      have q0 : w1.cell? ⟨w.heap.size, 0, none⟩ = some (.bool true) := hsp.cell 0
      have q5 : w1.cell? ⟨w.heap.size, 5, none⟩ = some (.int .i64 wd) := hsp.cell 5
      have q6 : w1.cell? ⟨w.heap.size, 6, none⟩ = some (.int .i64 pr) := hsp.cell 6
      have q7 : w1.cell? ⟨w.heap.size, 7, none⟩ = some (.int .u8 115) := hsp.cell 7
      have HB := Lib.hid (((Below.refl w.heap.size w).alloc (Nat.le_refl _) _).trans (hb.mono (by simp)))
      clear hb hsp
      go_wp2_with fail
      go_region_held3 (fun w' => w'.cell? ⟨w.heap.size, 5, none⟩ = some (.int .i64 wd)) (first | exact q5 | exact r5)
       (first
        | (go_at_call 125; refine (HLn.out _ (HU.out.below (by first | exact HB.out | exact HB.out.drew))).mono ?_; clear HLn; rintro e w3 ⟨rfl, hb3⟩; have r5 := cell_next hb3 q5; have r0 := cell_next hb3 q0; have HB3 := Lib.hid (below_next (Nat.le_refl _) HB.out hb3 (by first | exact .inl rfl | exact .inr rfl)))
        | (go_at_call 114; rw [HN.out]; refine (HRp.out _).mono ?_; clear HRp; rintro e w4 ⟨rfl, hb4⟩; have r5 := cell_next hb4 r5; have r0 := cell_next hb4 r0; have HB4 := Lib.hid (below_next (Nat.le_refl _) HB3.out hb4 (by first | exact .inl rfl | exact .inr rfl))))
      all_goals go_wp2_with fail
      all_goals go_ret2
      all_goals exact ⟨rfl, HB4.out⟩
    ·obtain rfl : vb = 99 := by omega
     have hcs : S = s := by rw [HSe.out]; unfold cutS; rw [if_neg (by omega)]
     subst hcs
     clear HSe HSub hc h115
     by_cases hp0 : 0 ≤ pr
     ·cases m
      ·go_enter Tryz.func66, Tryz.ntmps66
       go_wp2_with fail
       refine (HC.out _).mono ?_
       rintro e w1 ⟨rfl, hb⟩
       have hsp : SpAt w1 w.heap.size #[.bool false, .bool p, .bool b, .bool a, .bool z, .int .i64 wd, .int .i64 pr, .int .u8 99] := SpAt.next (heap_alloc_at w _) hb
       have q0 : w1.cell? ⟨w.heap.size, 0, none⟩ = some (.bool false) := hsp.cell 0
       have q5 : w1.cell? ⟨w.heap.size, 5, none⟩ = some (.int .i64 wd) := hsp.cell 5
       have q6 : w1.cell? ⟨w.heap.size, 6, none⟩ = some (.int .i64 pr) := hsp.cell 6
       have q7 : w1.cell? ⟨w.heap.size, 7, none⟩ = some (.int .u8 99) := hsp.cell 7
       have HB := Lib.hid (((Below.refl w.heap.size w).alloc (Nat.le_refl _) _).trans (hb.mono (by simp)))
       clear hb hsp
       go_wp2_with fail
       go_region_held3 (fun w' => w'.cell? ⟨w.heap.size, 5, none⟩ = some (.int .i64 wd)) (first | exact q5 | exact r5)
        (first
         | (go_at_call 125; refine (HLn.out _ (HU.out.below (by first | exact HB.out | exact HB.out.drew))).mono ?_; clear HLn; rintro e w3 ⟨rfl, hb3⟩; have r5 := cell_next hb3 q5; have r0 := cell_next hb3 q0; have HB3 := Lib.hid (below_next (Nat.le_refl _) HB.out hb3 (by first | exact .inl rfl | exact .inr rfl)))
         | (go_at_call 114; rw [HN.out]; refine (HRp.out _).mono ?_; clear HRp; rintro e w4 ⟨rfl, hb4⟩; have r5 := cell_next hb4 r5; have r0 := cell_next hb4 r0; have HB4 := Lib.hid (below_next (Nat.le_refl _) HB3.out hb4 (by first | exact .inl rfl | exact .inr rfl))))
       all_goals go_wp2_with fail
       all_goals go_ret2
       all_goals exact ⟨rfl, HB4.out⟩
      ·go_enter Tryz.func66, Tryz.ntmps66
       go_wp2_with fail
       refine (HC.out _).mono ?_
       rintro e w1 ⟨rfl, hb⟩
       have hsp : SpAt w1 w.heap.size #[.bool true, .bool p, .bool b, .bool a, .bool z, .int .i64 wd, .int .i64 pr, .int .u8 99] := SpAt.next (heap_alloc_at w _) hb
       have q0 : w1.cell? ⟨w.heap.size, 0, none⟩ = some (.bool true) := hsp.cell 0
       have q5 : w1.cell? ⟨w.heap.size, 5, none⟩ = some (.int .i64 wd) := hsp.cell 5
       have q6 : w1.cell? ⟨w.heap.size, 6, none⟩ = some (.int .i64 pr) := hsp.cell 6
       have q7 : w1.cell? ⟨w.heap.size, 7, none⟩ = some (.int .u8 99) := hsp.cell 7
       have HB := Lib.hid (((Below.refl w.heap.size w).alloc (Nat.le_refl _) _).trans (hb.mono (by simp)))
       clear hb hsp
       go_wp2_with fail
       go_region_held3 (fun w' => w'.cell? ⟨w.heap.size, 5, none⟩ = some (.int .i64 wd)) (first | exact q5 | exact r5)
        (first
         | (go_at_call 125; refine (HLn.out _ (HU.out.below (by first | exact HB.out | exact HB.out.drew))).mono ?_; clear HLn; rintro e w3 ⟨rfl, hb3⟩; have r5 := cell_next hb3 q5; have r0 := cell_next hb3 q0; have HB3 := Lib.hid (below_next (Nat.le_refl _) HB.out hb3 (by first | exact .inl rfl | exact .inr rfl)))
         | (go_at_call 114; rw [HN.out]; refine (HRp.out _).mono ?_; clear HRp; rintro e w4 ⟨rfl, hb4⟩; have r5 := cell_next hb4 r5; have r0 := cell_next hb4 r0; have HB4 := Lib.hid (below_next (Nat.le_refl _) HB3.out hb4 (by first | exact .inl rfl | exact .inr rfl))))
       all_goals go_wp2_with fail
       all_goals go_ret2
       all_goals exact ⟨rfl, HB4.out⟩
     ·have hp1 : pr < 0 := by omega
      clear hp0
      cases m
      ·go_enter Tryz.func66, Tryz.ntmps66
       go_wp2_with fail
       refine (HC.out _).mono ?_
       rintro e w1 ⟨rfl, hb⟩
       have hsp : SpAt w1 w.heap.size #[.bool false, .bool p, .bool b, .bool a, .bool z, .int .i64 wd, .int .i64 pr, .int .u8 99] := SpAt.next (heap_alloc_at w _) hb
       have q0 : w1.cell? ⟨w.heap.size, 0, none⟩ = some (.bool false) := hsp.cell 0
       have q5 : w1.cell? ⟨w.heap.size, 5, none⟩ = some (.int .i64 wd) := hsp.cell 5
       have q6 : w1.cell? ⟨w.heap.size, 6, none⟩ = some (.int .i64 pr) := hsp.cell 6
       have q7 : w1.cell? ⟨w.heap.size, 7, none⟩ = some (.int .u8 99) := hsp.cell 7
       have HB := Lib.hid (((Below.refl w.heap.size w).alloc (Nat.le_refl _) _).trans (hb.mono (by simp)))
       clear hb hsp
       go_wp2_with fail
       go_region_held3 (fun w' => w'.cell? ⟨w.heap.size, 5, none⟩ = some (.int .i64 wd)) (first | exact q5 | exact r5)
        (first
         | (go_at_call 125; refine (HLn.out _ (HU.out.below (by first | exact HB.out | exact HB.out.drew))).mono ?_; clear HLn; rintro e w3 ⟨rfl, hb3⟩; have r5 := cell_next hb3 q5; have r0 := cell_next hb3 q0; have HB3 := Lib.hid (below_next (Nat.le_refl _) HB.out hb3 (by first | exact .inl rfl | exact .inr rfl)))
         | (go_at_call 114; rw [HN.out]; refine (HRp.out _).mono ?_; clear HRp; rintro e w4 ⟨rfl, hb4⟩; have r5 := cell_next hb4 r5; have r0 := cell_next hb4 r0; have HB4 := Lib.hid (below_next (Nat.le_refl _) HB3.out hb4 (by first | exact .inl rfl | exact .inr rfl))))
       all_goals go_wp2_with fail
       all_goals go_ret2
       all_goals exact ⟨rfl, HB4.out⟩
      ·go_enter Tryz.func66, Tryz.ntmps66
       go_wp2_with fail
       refine (HC.out _).mono ?_
       rintro e w1 ⟨rfl, hb⟩
       have hsp : SpAt w1 w.heap.size #[.bool true, .bool p, .bool b, .bool a, .bool z, .int .i64 wd, .int .i64 pr, .int .u8 99] := SpAt.next (heap_alloc_at w _) hb
       have q0 : w1.cell? ⟨w.heap.size, 0, none⟩ = some (.bool true) := hsp.cell 0
       have q5 : w1.cell? ⟨w.heap.size, 5, none⟩ = some (.int .i64 wd) := hsp.cell 5
       have q6 : w1.cell? ⟨w.heap.size, 6, none⟩ = some (.int .i64 pr) := hsp.cell 6
       have q7 : w1.cell? ⟨w.heap.size, 7, none⟩ = some (.int .u8 99) := hsp.cell 7
       have HB := Lib.hid (((Below.refl w.heap.size w).alloc (Nat.le_refl _) _).trans (hb.mono (by simp)))
       clear hb hsp
       go_wp2_with fail
       go_region_held3 (fun w' => w'.cell? ⟨w.heap.size, 5, none⟩ = some (.int .i64 wd)) (first | exact q5 | exact r5)
        (first
         | (go_at_call 125; refine (HLn.out _ (HU.out.below (by first | exact HB.out | exact HB.out.drew))).mono ?_; clear HLn; rintro e w3 ⟨rfl, hb3⟩; have r5 := cell_next hb3 q5; have r0 := cell_next hb3 q0; have HB3 := Lib.hid (below_next (Nat.le_refl _) HB.out hb3 (by first | exact .inl rfl | exact .inr rfl)))
         | (go_at_call 114; rw [HN.out]; refine (HRp.out _).mono ?_; clear HRp; rintro e w4 ⟨rfl, hb4⟩; have r5 := cell_next hb4 r5; have r0 := cell_next hb4 r0; have HB4 := Lib.hid (below_next (Nat.le_refl _) HB3.out hb4 (by first | exact .inl rfl | exact .inr rfl))))
       all_goals go_wp2_with fail
       all_goals go_ret2
       all_goals exact ⟨rfl, HB4.out⟩
  ·have e1 : textS m wd pr vb s by_ = ⟨#[]⟩ := by unfold textS; rw [if_neg (by rw [hok]; simpa using hvb)]
   have e2 : textE wd pr vb = 50 := by unfold textE; rw [if_neg (by rw [hok]; simpa using hvb)]
   rw [e1, e2]
   have v1 : ((vb : Int) != 115) = true := by simp; omega
   have v2 : ((vb : Int) != 99) = true := by simp; omega
   unfold specA at HC ⊢
   clear e1 e2 hU HU hok hvb
   go_enter Tryz.func66, Tryz.ntmps66
   go_wp2_with fail
   refine (HC.out _).mono ?_
   rintro e w1 ⟨rfl, hb⟩
   have hsp : SpAt w1 w.heap.size #[.bool m, .bool p, .bool b, .bool a, .bool z, .int .i64 wd, .int .i64 pr, .int .u8 (vb : Int)] := SpAt.next (heap_alloc_at w _) hb
   have q7 : w1.cell? ⟨w.heap.size, 7, none⟩ = some (.int .u8 (vb : Int)) := hsp.cell 7
   have HB := Lib.hid (((Below.refl w.heap.size w).alloc (Nat.le_refl _) _).trans (hb.mono (by simp)))
   clear hb hsp
   go_wp2_with fail
   go_ret2
   exact ⟨rfl, HB.out⟩
end Go.Proofs.YtfdnhkjeoeffoaaGreatDoor
end

section
/- Package format: float at any spec. -/
namespace Go.Proofs.YtfdnhkjeoeffoaaGreatDoor
open Go.RowKit
set_option linter.unusedVariables false
/-- a float's digits by a verb -/
noncomputable def bodyF (al : Bool) (vb q b : Nat) : ByteArray :=
 if vb = 102 ∨ vb = 70 then (if al = true ∧ q = 0 then ⟨(fixT b q).toArray⟩ ++ ⟨#[46]⟩ else ⟨(fixT b q).toArray⟩)
 else if vb = 101 ∨ vb = 69 then sciO b q al else genO b (max q 1 - 1) al
def precF (pr : Int) : Nat := if pr < 0 then 6 else pr.toNat
/-- what is padded -/
noncomputable def padO (m p bl al z : Bool) (wd pr : Int) (vb b : Nat) : List UInt8 := padL m z wd (signL p bl (decide (9223372036854775808 ≤ b))) (bodyF al vb (precF pr) b).data.toList
/-- what float answers -/
noncomputable def floatO (m p bl al z : Bool) (wd pr : Int) (vb b : Nat) : ByteArray :=
 if vb < 97 then ⟨(Lib.toUpperA (padO m p bl al z wd pr vb b)).toArray⟩ else ⟨(padO m p bl al z wd pr vb b).toArray⟩
theorem padL_asc {m z : Bool} {wd : Int} {h s : List UInt8} (hh : Asc h) (hs : Asc s) : Asc (padL m z wd h s) := by
 unfold padL
 split
 ·exact (hh.app hs).app (Asc.rep _ (by decide))
 ·split
  ·exact (hh.app (Asc.rep _ (by decide))).app hs
  ·exact ((Asc.rep _ (by decide)).app hh).app hs
theorem signL_asc (p b m : Bool) : Asc (signL p b m) := by
 unfold signL
 repeat' split
 all_goals intro c hc; simp at hc
 all_goals subst hc; decide
theorem padL_size5 {m z : Bool} {wd : Int} {h s : List UInt8} (hw : wd ≤ 1024) : (padL m z wd h s).length ≤ h.length + s.length + 1024 := by
 unfold padL
 repeat' split
 all_goals simp; omega
theorem signL_size5 (p b m : Bool) : (signL p b m).length ≤ 1 := by
 unfold signL
 repeat' split
 all_goals decide
theorem precF_le {pr : Int} (h : pr ≤ 190) : precF pr ≤ 190 := by unfold precF; split <;> omega
theorem bodyF_ok (al : Bool) (vb : Nat) {q b : Nat} (hb : b < 18446744073709551616) (hf : fin b = true) (hq : q ≤ 190) {w : World} (hT : PowOk w) : Asc (bodyF al vb q b).data.toList ∧ (bodyF al vb q b).size ≤ 10000 := by
 have hx := fix_asc hb hf (p := q) (by omega)
 unfold bodyF
 split
 ·split
  ·refine ⟨Asc.appB hx.1 (Asc.nil.cons (by decide)), ?_⟩
   rw [ByteArray.size_append]
   have := hx.2
   show (fixT b q).length + 1 ≤ _
   omega
  ·exact ⟨hx.1, by have := hx.2; show (fixT b q).length ≤ _; omega⟩
 ·split
  ·have h := sciO_asc (p := q) al hb hf (by omega)
   exact ⟨h.1, by omega⟩
  ·refine ⟨genO_asc al hb hf (by omega), ?_⟩
   exact Calls.fact (general_any b (max q 1 - 1) al w hb hf (by omega) hT) fun _ _ h => by have := h.2.1; omega
set_option maxHeartbeats 8000000 in
set_option maxRecDepth 1000000 in
theorem float_102 (m p bl al z : Bool) (wd pr : Int) (b : Nat) (w : World) (hb : b < 18446744073709551616) (hf : fin b = true) (hp1 : -1 ≤ pr) (hp2 : pr ≤ 190) (hw : 0 ≤ wd) (hw2 : wd ≤ 1024) (hT : PowOk w) :
 Calls Tryz.prog 73 #[.agg (specA m p bl al z wd pr 102), .float .f64 b] w fun e w' => e = .returned (.string (floatO m p bl al z wd pr 102 b)) ∧ Below w.heap.size w w' := by
 have HT := Lib.hid hT
 have HSg := Lib.hid (fun W => sign_any m p bl al z (decide (9223372036854775808 ≤ b)) wd pr 102 W)
 obtain ⟨sg, hsg⟩ : ∃ sg : ByteArray, sg = ⟨(signL p bl (decide (9223372036854775808 ≤ b))).toArray⟩ := ⟨_, rfl⟩
 have hsl := signL_size5 p bl (decide (9223372036854775808 ≤ b))
 have hsa := signL_asc p bl (decide (9223372036854775808 ≤ b))
 have hsg1 : sg.size ≤ 1 := by rw [sz_list, hsg]; exact hsl
 have hsgl : sg.data.toList = signL p bl (decide (9223372036854775808 ≤ b)) := by rw [hsg]
 rw [← hsg] at HSg
 obtain ⟨q, hq⟩ : ∃ q, q = precF pr := ⟨_, rfl⟩
 have hq190 := precF_le hp2
 rw [← hq] at hq190
 have hbo := bodyF_ok al 102 hb hf hq190 hT
 have hFO : floatO m p bl al z wd pr 102 b = ⟨(padO m p bl al z wd pr 102 b).toArray⟩ := rfl
 rw [hFO]
 unfold padO
 rw [← hq, ← hsgl]
 rw [← hsgl] at hsa
 obtain ⟨fx, hfx⟩ : ∃ fx, fx = bodyF al 102 q b := ⟨_, rfl⟩
 rw [← hfx] at hbo ⊢
 have hPd0 : ∀ W, _ := fun W => padded_any m p bl al z z wd pr 102 sg fx W hw hw2 (by omega) (by omega)
 have HPd := Lib.hid hPd0
 clear hPd0
 have hoa := padL_asc (m := m) (z := z) (wd := wd) hsa hbo.1
 have hol := padL_size5 (m := m) (z := z) (h := sg.data.toList) (s := fx.data.toList) hw2
 rw [← sz_list, ← sz_list] at hol
 generalize padL m z wd sg.data.toList fx.data.toList = out at *
 have hsh : (((b : Int) / 9223372036854775808) == 1) = decide (9223372036854775808 ≤ b) := by
  by_cases h9 : 9223372036854775808 ≤ b
  ·rw [decide_eq_true h9, beq_iff_eq]; omega
  ·rw [decide_eq_false h9, beq_eq_false_iff_ne]; omega
 clear hoa hol hsl hsa hsgl hsg hFO hT
 have hfs := hbo.2
 clear hbo
 rcases Int.lt_or_le pr 0 with hn | hn
 ·have hd : decide (pr < 0) = true := by simp; omega
  obtain rfl : q = 6 := by rw [hq]; unfold precF; rw [if_pos hn]
  clear hq hn hq190
  have HFx := Lib.hid (fun W => Fixed_det b 6 W hb hf (by omega))
  generalize decide (9223372036854775808 ≤ b) = ng at *
  unfold specA at HSg HPd ⊢
  cases al
  ·obtain rfl : fx = ⟨(fixT b 6).toArray⟩ := by rw [hfx]; unfold bodyF; rw [if_pos (by decide), if_neg (fun h => by cases h.1)]
   clear hfx
   go_enter Tryz.func73, Tryz.ntmps73
   go_wp2_with fail
   refine (HFx.out _).mono ?_
   rintro e w1 ⟨rfl, hb1⟩
   have HB1 := Lib.hid (((Below.refl w.heap.size w).alloc (Nat.le_refl _) (.cells #[.bool m, .bool p, .bool bl, .bool false, .bool z, .int .i64 wd, .int .i64 pr, .int .u8 102] 35)).trans (hb1.mono (by simp)))
   have hsp : SpAt w1 w.heap.size #[.bool m, .bool p, .bool bl, .bool false, .bool z, .int .i64 wd, .int .i64 pr, .int .u8 102] := SpAt.next (heap_alloc_at w _) hb1
   have k0 : w1.cell? ⟨w.heap.size, 0, none⟩ = some (.bool m) := hsp.cell 0
   have k1 : w1.cell? ⟨w.heap.size, 1, none⟩ = some (.bool p) := hsp.cell 1
   have k2 : w1.cell? ⟨w.heap.size, 2, none⟩ = some (.bool bl) := hsp.cell 2
   have k3 : w1.cell? ⟨w.heap.size, 3, none⟩ = some (.bool false) := hsp.cell 3
   have k4 : w1.cell? ⟨w.heap.size, 4, none⟩ = some (.bool z) := hsp.cell 4
   have k5 : w1.cell? ⟨w.heap.size, 5, none⟩ = some (.int .i64 wd) := hsp.cell 5
   have k6 : w1.cell? ⟨w.heap.size, 6, none⟩ = some (.int .i64 pr) := hsp.cell 6
   have k7 : w1.cell? ⟨w.heap.size, 7, none⟩ = some (.int .u8 102) := hsp.cell 7
   clear hb1 hsp
   go_wp2_with fail
   go_region_held3 (fun w' => w'.cell? ⟨w.heap.size, 0, none⟩ = some (.bool m) ∧ w'.cell? ⟨w.heap.size, 1, none⟩ = some (.bool p) ∧ w'.cell? ⟨w.heap.size, 2, none⟩ = some (.bool bl) ∧ w'.cell? ⟨w.heap.size, 3, none⟩ = some (.bool false) ∧ w'.cell? ⟨w.heap.size, 4, none⟩ = some (.bool z) ∧ w'.cell? ⟨w.heap.size, 5, none⟩ = some (.int .i64 wd) ∧ w'.cell? ⟨w.heap.size, 6, none⟩ = some (.int .i64 pr) ∧ w'.cell? ⟨w.heap.size, 7, none⟩ = some (.int .u8 102)) (first | exact ⟨k0, k1, k2, k3, k4, k5, k6, k7⟩ | exact ⟨j0, j1, j2, j3, j4, j5, j6, j7⟩)
    (first
     | (go_at_call 128; refine (HSg.out _).mono ?_; rintro e w2 ⟨rfl, hb2⟩; have j0 := cell_next hb2 k0; have j1 := cell_next hb2 k1; have j2 := cell_next hb2 k2; have j3 := cell_next hb2 k3; have j4 := cell_next hb2 k4; have j5 := cell_next hb2 k5; have j6 := cell_next hb2 k6; have j7 := cell_next hb2 k7; have HB2 := Lib.hid (below_next (Nat.le_refl _) HB1.out hb2 (by first | exact .inl rfl | exact .inr rfl)))
     | (go_at_call 70; refine (HPd.out _).mono ?_; rintro e w3 ⟨rfl, hb3⟩; have j0 := cell_next hb3 j0; have j1 := cell_next hb3 j1; have j2 := cell_next hb3 j2; have j3 := cell_next hb3 j3; have j4 := cell_next hb3 j4; have j5 := cell_next hb3 j5; have j6 := cell_next hb3 j6; have j7 := cell_next hb3 j7; have HB3 := Lib.hid (below_next (Nat.le_refl _) HB2.out hb3 (by first | exact .inl rfl | exact .inr rfl))))
   all_goals go_wp2_with fail
   all_goals go_ret
   all_goals exact ⟨rfl, HB3.out⟩
  ·obtain rfl : fx = ⟨(fixT b 6).toArray⟩ := by rw [hfx]; unfold bodyF; rw [if_pos (by decide), if_neg (fun h => by cases h.2)]
   clear hfx
   go_enter Tryz.func73, Tryz.ntmps73
   go_wp2_with fail
   refine (HFx.out _).mono ?_
   rintro e w1 ⟨rfl, hb1⟩
   have HB1 := Lib.hid (((Below.refl w.heap.size w).alloc (Nat.le_refl _) (.cells #[.bool m, .bool p, .bool bl, .bool true, .bool z, .int .i64 wd, .int .i64 pr, .int .u8 102] 35)).trans (hb1.mono (by simp)))
   have hsp : SpAt w1 w.heap.size #[.bool m, .bool p, .bool bl, .bool true, .bool z, .int .i64 wd, .int .i64 pr, .int .u8 102] := SpAt.next (heap_alloc_at w _) hb1
   have k0 : w1.cell? ⟨w.heap.size, 0, none⟩ = some (.bool m) := hsp.cell 0
   have k1 : w1.cell? ⟨w.heap.size, 1, none⟩ = some (.bool p) := hsp.cell 1
   have k2 : w1.cell? ⟨w.heap.size, 2, none⟩ = some (.bool bl) := hsp.cell 2
   have k3 : w1.cell? ⟨w.heap.size, 3, none⟩ = some (.bool true) := hsp.cell 3
   have k4 : w1.cell? ⟨w.heap.size, 4, none⟩ = some (.bool z) := hsp.cell 4
   have k5 : w1.cell? ⟨w.heap.size, 5, none⟩ = some (.int .i64 wd) := hsp.cell 5
   have k6 : w1.cell? ⟨w.heap.size, 6, none⟩ = some (.int .i64 pr) := hsp.cell 6
   have k7 : w1.cell? ⟨w.heap.size, 7, none⟩ = some (.int .u8 102) := hsp.cell 7
   clear hb1 hsp
   go_wp2_with fail
   go_region_held3 (fun w' => w'.cell? ⟨w.heap.size, 0, none⟩ = some (.bool m) ∧ w'.cell? ⟨w.heap.size, 1, none⟩ = some (.bool p) ∧ w'.cell? ⟨w.heap.size, 2, none⟩ = some (.bool bl) ∧ w'.cell? ⟨w.heap.size, 3, none⟩ = some (.bool true) ∧ w'.cell? ⟨w.heap.size, 4, none⟩ = some (.bool z) ∧ w'.cell? ⟨w.heap.size, 5, none⟩ = some (.int .i64 wd) ∧ w'.cell? ⟨w.heap.size, 6, none⟩ = some (.int .i64 pr) ∧ w'.cell? ⟨w.heap.size, 7, none⟩ = some (.int .u8 102)) (first | exact ⟨k0, k1, k2, k3, k4, k5, k6, k7⟩ | exact ⟨j0, j1, j2, j3, j4, j5, j6, j7⟩)
    (first
     | (go_at_call 128; refine (HSg.out _).mono ?_; rintro e w2 ⟨rfl, hb2⟩; have j0 := cell_next hb2 k0; have j1 := cell_next hb2 k1; have j2 := cell_next hb2 k2; have j3 := cell_next hb2 k3; have j4 := cell_next hb2 k4; have j5 := cell_next hb2 k5; have j6 := cell_next hb2 k6; have j7 := cell_next hb2 k7; have HB2 := Lib.hid (below_next (Nat.le_refl _) HB1.out hb2 (by first | exact .inl rfl | exact .inr rfl)))
     | (go_at_call 70; refine (HPd.out _).mono ?_; rintro e w3 ⟨rfl, hb3⟩; have j0 := cell_next hb3 j0; have j1 := cell_next hb3 j1; have j2 := cell_next hb3 j2; have j3 := cell_next hb3 j3; have j4 := cell_next hb3 j4; have j5 := cell_next hb3 j5; have j6 := cell_next hb3 j6; have j7 := cell_next hb3 j7; have HB3 := Lib.hid (below_next (Nat.le_refl _) HB2.out hb3 (by first | exact .inl rfl | exact .inr rfl))))
   all_goals go_wp2_with fail
   all_goals go_ret
   all_goals exact ⟨rfl, HB3.out⟩
 ·obtain ⟨q', rfl⟩ : ∃ q' : Nat, pr = (q' : Int) := ⟨pr.toNat, by omega⟩
  obtain rfl : q = q' := by rw [hq]; unfold precF; rw [if_neg (by omega)]; exact Int.toNat_natCast _
  have hd : decide ((q : Int) < 0) = false := by simp
  have hqI : (q : Int) ≤ 190 := by omega
  clear hq hn
  have HFx := Lib.hid (fun W => Fixed_det b q W hb hf (by omega))
  generalize decide (9223372036854775808 ≤ b) = ng at *
  unfold specA at HSg HPd ⊢
  cases al
  ·obtain rfl : fx = ⟨(fixT b q).toArray⟩ := by rw [hfx]; unfold bodyF; rw [if_pos (by decide), if_neg (fun h => by cases h.1)]
   clear hfx
   go_enter Tryz.func73, Tryz.ntmps73
   go_wp2_with fail
   refine (HFx.out _).mono ?_
   rintro e w1 ⟨rfl, hb1⟩
   have HB1 := Lib.hid (((Below.refl w.heap.size w).alloc (Nat.le_refl _) (.cells #[.bool m, .bool p, .bool bl, .bool false, .bool z, .int .i64 wd, .int .i64 (q : Int), .int .u8 102] 35)).trans (hb1.mono (by simp)))
   have hsp : SpAt w1 w.heap.size #[.bool m, .bool p, .bool bl, .bool false, .bool z, .int .i64 wd, .int .i64 (q : Int), .int .u8 102] := SpAt.next (heap_alloc_at w _) hb1
   have k0 : w1.cell? ⟨w.heap.size, 0, none⟩ = some (.bool m) := hsp.cell 0
   have k1 : w1.cell? ⟨w.heap.size, 1, none⟩ = some (.bool p) := hsp.cell 1
   have k2 : w1.cell? ⟨w.heap.size, 2, none⟩ = some (.bool bl) := hsp.cell 2
   have k3 : w1.cell? ⟨w.heap.size, 3, none⟩ = some (.bool false) := hsp.cell 3
   have k4 : w1.cell? ⟨w.heap.size, 4, none⟩ = some (.bool z) := hsp.cell 4
   have k5 : w1.cell? ⟨w.heap.size, 5, none⟩ = some (.int .i64 wd) := hsp.cell 5
   have k6 : w1.cell? ⟨w.heap.size, 6, none⟩ = some (.int .i64 (q : Int)) := hsp.cell 6
   have k7 : w1.cell? ⟨w.heap.size, 7, none⟩ = some (.int .u8 102) := hsp.cell 7
   clear hb1 hsp
   go_wp2_with fail
   go_region_held3 (fun w' => w'.cell? ⟨w.heap.size, 0, none⟩ = some (.bool m) ∧ w'.cell? ⟨w.heap.size, 1, none⟩ = some (.bool p) ∧ w'.cell? ⟨w.heap.size, 2, none⟩ = some (.bool bl) ∧ w'.cell? ⟨w.heap.size, 3, none⟩ = some (.bool false) ∧ w'.cell? ⟨w.heap.size, 4, none⟩ = some (.bool z) ∧ w'.cell? ⟨w.heap.size, 5, none⟩ = some (.int .i64 wd) ∧ w'.cell? ⟨w.heap.size, 6, none⟩ = some (.int .i64 (q : Int)) ∧ w'.cell? ⟨w.heap.size, 7, none⟩ = some (.int .u8 102)) (first | exact ⟨k0, k1, k2, k3, k4, k5, k6, k7⟩ | exact ⟨j0, j1, j2, j3, j4, j5, j6, j7⟩)
    (first
     | (go_at_call 128; refine (HSg.out _).mono ?_; rintro e w2 ⟨rfl, hb2⟩; have j0 := cell_next hb2 k0; have j1 := cell_next hb2 k1; have j2 := cell_next hb2 k2; have j3 := cell_next hb2 k3; have j4 := cell_next hb2 k4; have j5 := cell_next hb2 k5; have j6 := cell_next hb2 k6; have j7 := cell_next hb2 k7; have HB2 := Lib.hid (below_next (Nat.le_refl _) HB1.out hb2 (by first | exact .inl rfl | exact .inr rfl)))
     | (go_at_call 70; refine (HPd.out _).mono ?_; rintro e w3 ⟨rfl, hb3⟩; have j0 := cell_next hb3 j0; have j1 := cell_next hb3 j1; have j2 := cell_next hb3 j2; have j3 := cell_next hb3 j3; have j4 := cell_next hb3 j4; have j5 := cell_next hb3 j5; have j6 := cell_next hb3 j6; have j7 := cell_next hb3 j7; have HB3 := Lib.hid (below_next (Nat.le_refl _) HB2.out hb3 (by first | exact .inl rfl | exact .inr rfl))))
   all_goals go_wp2_with fail
   all_goals go_ret
   all_goals exact ⟨rfl, HB3.out⟩
  ·by_cases h0 : q = 0
   ·subst h0
    have hfe : (⟨(fixT b 0).toArray⟩ : ByteArray) ++ ⟨#[46]⟩ = fx := by rw [hfx]; unfold bodyF; rw [if_pos (by decide), if_pos ⟨rfl, rfl⟩]
    have hxs : (⟨(fixT b 0).toArray⟩ : ByteArray).size ≤ 10000 := by rw [← hfe, ByteArray.size_append] at hfs; omega
    generalize (⟨(fixT b 0).toArray⟩ : ByteArray) = F0 at *
    subst hfe
    clear hfx
    go_enter Tryz.func73, Tryz.ntmps73
    go_wp2_with fail
    refine (HFx.out _).mono ?_
    rintro e w1 ⟨rfl, hb1⟩
    have HB1 := Lib.hid (((Below.refl w.heap.size w).alloc (Nat.le_refl _) (.cells #[.bool m, .bool p, .bool bl, .bool true, .bool z, .int .i64 wd, .int .i64 ((0 : Nat) : Int), .int .u8 102] 35)).trans (hb1.mono (by simp)))
    have hsp : SpAt w1 w.heap.size #[.bool m, .bool p, .bool bl, .bool true, .bool z, .int .i64 wd, .int .i64 ((0 : Nat) : Int), .int .u8 102] := SpAt.next (heap_alloc_at w _) hb1
    have k0 : w1.cell? ⟨w.heap.size, 0, none⟩ = some (.bool m) := hsp.cell 0
    have k1 : w1.cell? ⟨w.heap.size, 1, none⟩ = some (.bool p) := hsp.cell 1
    have k2 : w1.cell? ⟨w.heap.size, 2, none⟩ = some (.bool bl) := hsp.cell 2
    have k3 : w1.cell? ⟨w.heap.size, 3, none⟩ = some (.bool true) := hsp.cell 3
    have k4 : w1.cell? ⟨w.heap.size, 4, none⟩ = some (.bool z) := hsp.cell 4
    have k5 : w1.cell? ⟨w.heap.size, 5, none⟩ = some (.int .i64 wd) := hsp.cell 5
    have k6 : w1.cell? ⟨w.heap.size, 6, none⟩ = some (.int .i64 ((0 : Nat) : Int)) := hsp.cell 6
    have k7 : w1.cell? ⟨w.heap.size, 7, none⟩ = some (.int .u8 102) := hsp.cell 7
    clear hb1 hsp
    go_wp2_with fail
    go_region_held3 (fun w' => w'.cell? ⟨w.heap.size, 0, none⟩ = some (.bool m) ∧ w'.cell? ⟨w.heap.size, 1, none⟩ = some (.bool p) ∧ w'.cell? ⟨w.heap.size, 2, none⟩ = some (.bool bl) ∧ w'.cell? ⟨w.heap.size, 3, none⟩ = some (.bool true) ∧ w'.cell? ⟨w.heap.size, 4, none⟩ = some (.bool z) ∧ w'.cell? ⟨w.heap.size, 5, none⟩ = some (.int .i64 wd) ∧ w'.cell? ⟨w.heap.size, 6, none⟩ = some (.int .i64 ((0 : Nat) : Int)) ∧ w'.cell? ⟨w.heap.size, 7, none⟩ = some (.int .u8 102)) (first | exact ⟨k0, k1, k2, k3, k4, k5, k6, k7⟩ | exact ⟨j0, j1, j2, j3, j4, j5, j6, j7⟩)
     (first
      | (go_at_call 128; refine (HSg.out _).mono ?_; rintro e w2 ⟨rfl, hb2⟩; have j0 := cell_next hb2 k0; have j1 := cell_next hb2 k1; have j2 := cell_next hb2 k2; have j3 := cell_next hb2 k3; have j4 := cell_next hb2 k4; have j5 := cell_next hb2 k5; have j6 := cell_next hb2 k6; have j7 := cell_next hb2 k7; have HB2 := Lib.hid (below_next (Nat.le_refl _) HB1.out hb2 (by first | exact .inl rfl | exact .inr rfl)))
      | (go_at_call 70; refine (HPd.out _).mono ?_; rintro e w3 ⟨rfl, hb3⟩; have j0 := cell_next hb3 j0; have j1 := cell_next hb3 j1; have j2 := cell_next hb3 j2; have j3 := cell_next hb3 j3; have j4 := cell_next hb3 j4; have j5 := cell_next hb3 j5; have j6 := cell_next hb3 j6; have j7 := cell_next hb3 j7; have HB3 := Lib.hid (below_next (Nat.le_refl _) HB2.out hb3 (by first | exact .inl rfl | exact .inr rfl))))
    all_goals go_wp2_with fail
    all_goals go_ret
    all_goals exact ⟨rfl, HB3.out⟩
   ·obtain rfl : fx = ⟨(fixT b q).toArray⟩ := by rw [hfx]; unfold bodyF; rw [if_pos (by decide), if_neg (fun h => h0 h.2)]
    have hqb : ((q : Int) == 0) = false := by simp; omega
    clear hfx h0
    go_enter Tryz.func73, Tryz.ntmps73
    go_wp2_with fail
    refine (HFx.out _).mono ?_
    rintro e w1 ⟨rfl, hb1⟩
    have HB1 := Lib.hid (((Below.refl w.heap.size w).alloc (Nat.le_refl _) (.cells #[.bool m, .bool p, .bool bl, .bool true, .bool z, .int .i64 wd, .int .i64 (q : Int), .int .u8 102] 35)).trans (hb1.mono (by simp)))
    have hsp : SpAt w1 w.heap.size #[.bool m, .bool p, .bool bl, .bool true, .bool z, .int .i64 wd, .int .i64 (q : Int), .int .u8 102] := SpAt.next (heap_alloc_at w _) hb1
    have k0 : w1.cell? ⟨w.heap.size, 0, none⟩ = some (.bool m) := hsp.cell 0
    have k1 : w1.cell? ⟨w.heap.size, 1, none⟩ = some (.bool p) := hsp.cell 1
    have k2 : w1.cell? ⟨w.heap.size, 2, none⟩ = some (.bool bl) := hsp.cell 2
    have k3 : w1.cell? ⟨w.heap.size, 3, none⟩ = some (.bool true) := hsp.cell 3
    have k4 : w1.cell? ⟨w.heap.size, 4, none⟩ = some (.bool z) := hsp.cell 4
    have k5 : w1.cell? ⟨w.heap.size, 5, none⟩ = some (.int .i64 wd) := hsp.cell 5
    have k6 : w1.cell? ⟨w.heap.size, 6, none⟩ = some (.int .i64 (q : Int)) := hsp.cell 6
    have k7 : w1.cell? ⟨w.heap.size, 7, none⟩ = some (.int .u8 102) := hsp.cell 7
    clear hb1 hsp
    go_wp2_with fail
    go_region_held3 (fun w' => w'.cell? ⟨w.heap.size, 0, none⟩ = some (.bool m) ∧ w'.cell? ⟨w.heap.size, 1, none⟩ = some (.bool p) ∧ w'.cell? ⟨w.heap.size, 2, none⟩ = some (.bool bl) ∧ w'.cell? ⟨w.heap.size, 3, none⟩ = some (.bool true) ∧ w'.cell? ⟨w.heap.size, 4, none⟩ = some (.bool z) ∧ w'.cell? ⟨w.heap.size, 5, none⟩ = some (.int .i64 wd) ∧ w'.cell? ⟨w.heap.size, 6, none⟩ = some (.int .i64 (q : Int)) ∧ w'.cell? ⟨w.heap.size, 7, none⟩ = some (.int .u8 102)) (first | exact ⟨k0, k1, k2, k3, k4, k5, k6, k7⟩ | exact ⟨j0, j1, j2, j3, j4, j5, j6, j7⟩)
     (first
      | (go_at_call 128; refine (HSg.out _).mono ?_; rintro e w2 ⟨rfl, hb2⟩; have j0 := cell_next hb2 k0; have j1 := cell_next hb2 k1; have j2 := cell_next hb2 k2; have j3 := cell_next hb2 k3; have j4 := cell_next hb2 k4; have j5 := cell_next hb2 k5; have j6 := cell_next hb2 k6; have j7 := cell_next hb2 k7; have HB2 := Lib.hid (below_next (Nat.le_refl _) HB1.out hb2 (by first | exact .inl rfl | exact .inr rfl)))
      | (go_at_call 70; refine (HPd.out _).mono ?_; rintro e w3 ⟨rfl, hb3⟩; have j0 := cell_next hb3 j0; have j1 := cell_next hb3 j1; have j2 := cell_next hb3 j2; have j3 := cell_next hb3 j3; have j4 := cell_next hb3 j4; have j5 := cell_next hb3 j5; have j6 := cell_next hb3 j6; have j7 := cell_next hb3 j7; have HB3 := Lib.hid (below_next (Nat.le_refl _) HB2.out hb3 (by first | exact .inl rfl | exact .inr rfl))))
    all_goals go_wp2_with fail
    all_goals go_ret
    all_goals exact ⟨rfl, HB3.out⟩
end Go.Proofs.YtfdnhkjeoeffoaaGreatDoor
end

section
/- The document's answer of package ustr, plain: the size of an encoding is what the decoder says. -/
namespace Go.Proofs.YtfdnhkjeoeffoaaGreatDoor
open Go.RowKit
set_option linter.unusedVariables false
end Go.Proofs.YtfdnhkjeoeffoaaGreatDoor
end

section
/- The document's answer of package ustr: size and Next. -/
namespace Go.Proofs.YtfdnhkjeoeffoaaGreatDoor
open Go.RowKit
set_option linter.unusedVariables false
end Go.Proofs.YtfdnhkjeoeffoaaGreatDoor
end

section
/- Rows of ints that a call has made itself. -/
namespace Go.Proofs.YtfdnhkjeoeffoaaGreatDoor
open Go.RowKit
set_option linter.unusedVariables false
/-- words as cells -/
def cellsI (L : List Nat) : List Value := L.map fun n : Nat => Value.int .i64 (n : Int)
/-- v is a row of the call's own (from block base on) that holds these words -/
structure OwnI (w : World) (base : Nat) (v : Value) (L : List Nat) : Prop where
 lt : ∀ x ∈ L, x < 9223372036854775808
 own : w.ownsRow base 3 1 v L.length (cellsI L)
theorem cellsI_length (L : List Nat) : (cellsI L).length = L.length := by simp [cellsI]
theorem OwnI.nil (w : World) (base : Nat) : OwnI w base (.slice none 0 0) [] := ⟨by simp, World.ownsRow_nil w base _ _⟩
/-- where it lies -/
theorem OwnI.at_ {w : World} {base : Nat} {v : Value} {L : List Nat} (h : OwnI w base v L) :
 (v = .slice none 0 0 ∧ L = []) ∨ ∃ g cap cur, v = .slice (some ⟨g, 0, none⟩) L.length cap ∧ base ≤ g ∧ w.heap[g]? = some (.cells cur 3 (0, 0)) ∧ L.length ≤ cap ∧ cap ≤ 9223372036854775807 ∧ cur.size = cap ∧ cur.toList.take L.length = cellsI L := by
 obtain ⟨h1, h2⟩ := h
 obtain ⟨h3, h4⟩ := h2
 rcases h4 with ⟨rfl, hn⟩ | ⟨g, cap, cur, rfl, hb, hg, hl, hm, hs, ht⟩
 ·exact .inl ⟨rfl, List.eq_nil_of_length_eq_zero hn⟩
 ·exact .inr ⟨g, cap, cur, rfl, hb, hg, hl, by simpa [maxLen] using hm, by simpa using hs, by simpa using ht⟩
theorem cur_getI {cur : Array Value} {L : List Nat} (ht : cur.toList.take L.length = cellsI L) (i : Nat) (h : i < L.length) : cur[i]? = some (.int .i64 (L[i] : Nat)) := by
 have e : (cur.toList.take L.length)[i]? = (cellsI L)[i]? := by rw [ht]
 rw [List.getElem?_take_of_lt h] at e
 simpa [cellsI, h] using e
/-- a row that is not nil, as a block -/
structure RowI (w : World) (g cap : Nat) (L : List Nat) : Prop where
 lt : ∀ x ∈ L, x < 9223372036854775808
 le : L.length ≤ cap
 max : cap ≤ 9223372036854775807
 row : ∃ cur, w.heap[g]? = some (.cells cur 3 (0, 0)) ∧ cur.size = cap ∧ cur.toList.take L.length = cellsI L
theorem RowI.ltg {w : World} {g cap : Nat} {L : List Nat} (h : RowI w g cap L) : g < w.heap.size := by
 obtain ⟨cur, hg, hs, ht⟩ := h.row
 exact lt_of_heap hg
theorem RowI.cell {w : World} {g cap : Nat} {L : List Nat} (h : RowI w g cap L) (i : Nat) (hi : i < L.length) : w.cell? ⟨g, i, none⟩ = some (.int .i64 (L[i] : Nat)) := by
 obtain ⟨cur, hg, hs, ht⟩ := h.row
 simp [World.cell?, hg, cur_getI ht i hi]
theorem RowI.frozen {w : World} {g cap : Nat} {L : List Nat} (h : RowI w g cap L) (i : Nat) : w.frozen? ⟨g, i, none⟩ = false := by
 obtain ⟨cur, hg, hs, ht⟩ := h.row
 simp [World.frozen?, hg]
theorem RowI.keep {w w' : World} {g cap : Nat} {L : List Nat} (h : RowI w g cap L) (hk : w'.heap[g]? = w.heap[g]?) : RowI w' g cap L := by
 obtain ⟨cur, hg, hs, ht⟩ := h.row
 exact ⟨h.lt, h.le, h.max, cur, hk.trans hg, hs, ht⟩
theorem RowI.below {w w' : World} {g cap B : Nat} {L : List Nat} (h : RowI w g cap L) (hb : Below B w w') (hB : g < B) : RowI w' g cap L := h.keep (hb.block g hB)
theorem RowI.own {w : World} {g cap base : Nat} {L : List Nat} (h : RowI w g cap L) (hb : base ≤ g) : OwnI w base (.slice (some ⟨g, 0, none⟩) L.length cap) L := by
 obtain ⟨cur, hg, hs, ht⟩ := h.row
 exact ⟨h.lt, by simp [cellsI_length], .inr ⟨g, cap, cur, rfl, hb, hg, h.le, by simpa [maxLen] using h.max, by simpa using hs, by simpa using ht⟩⟩
theorem RowI.take {w : World} {g cap : Nat} {L : List Nat} (h : RowI w g cap L) (k : Nat) : RowI w g cap (L.take k) := by
 obtain ⟨cur, hg, hs, ht⟩ := h.row
 refine ⟨fun x hx => h.lt x (List.mem_of_mem_take hx), by have := h.le; simp; omega, h.max, cur, hg, hs, ?_⟩
 rw [cellsI, List.map_take, ← cellsI, ← ht, List.take_take, List.length_take]
theorem RowI.set {w : World} {g cap : Nat} {L : List Nat} (h : RowI w g cap L) (i y : Nat) (hi : i < L.length) (hy : y < 9223372036854775808) : RowI (w.setCell ⟨g, i, none⟩ (.int .i64 (y : Nat))) g cap (L.set i y) := by
 obtain ⟨cur, hg, hs, ht⟩ := h.row
 refine ⟨fun x hx => ?_, by simpa using h.le, h.max, _, setCell_heap_same hg i _, by simpa using hs, ?_⟩
 ·rcases List.mem_or_eq_of_mem_set hx with hx | rfl
  ·exact h.lt x hx
  ·exact hy
 ·rw [Array.toList_setIfInBounds, List.length_set, List.take_set, ht]
  simp [cellsI, List.map_set]
section
variable (w : World) {ops : Array Oper} {rest : List Oper} {o : Oper} {a : Act} {Q : Exit → Act → World → Prop}
end
theorem OwnI.alloc {w : World} {base : Nat} {v : Value} {L : List Nat} (h : OwnI w base v L) (o : Obj) : OwnI (w.alloc o) base v L := ⟨h.lt, h.own.alloc o⟩
theorem OwnI.row {w : World} {base n cap : Nat} {a : Option Addr} {L : List Nat} (h : OwnI w base (.slice a n cap) L) (hne : 0 < L.length) : ∃ g, a = some ⟨g, 0, none⟩ ∧ n = L.length ∧ base ≤ g ∧ RowI w g cap L := by
 rcases h.at_ with ⟨_, rfl⟩ | ⟨g, cap', cur, e, hb, hg, hl, hm, hs, ht⟩
 ·simp at hne
 ·cases e
  exact ⟨g, rfl, rfl, hb, h.lt, hl, hm, cur, hg, hs, ht⟩
theorem OwnI.slice {w : World} {base : Nat} {v : Value} {L : List Nat} (h : OwnI w base v L) : (v = .slice none 0 0 ∧ L = []) ∨ ∃ g cap, v = .slice (some ⟨g, 0, none⟩) L.length cap ∧ base ≤ g ∧ RowI w g cap L := by
 rcases h.at_ with ⟨rfl, rfl⟩ | ⟨g, cap, cur, rfl, hb, hg, hl, hm, hs, ht⟩
 ·exact .inl ⟨rfl, rfl⟩
 ·exact .inr ⟨g, cap, rfl, hb, h.lt, hl, hm, cur, hg, hs, ht⟩
end Go.Proofs.YtfdnhkjeoeffoaaGreatDoor
end

section
/- The document's answer of package ustr: Next, Starts, Len, Sub. -/
namespace Go.Proofs.YtfdnhkjeoeffoaaGreatDoor
open Go.RowKit
set_option linter.unusedVariables false
theorem OwnI.keep {w w' : World} {base B : Nat} {v : Value} {L : List Nat} (h : OwnI w base v L) (hb : Below B w w') (hB : w.heap.size ≤ B) : OwnI w' base v L := by
 rcases h.slice with ⟨rfl, rfl⟩ | ⟨g, cap, rfl, hbg, hr⟩
 ·exact OwnI.nil _ _
 ·exact (hr.below hb (Nat.lt_of_lt_of_le hr.ltg hB)).own hbg
end Go.Proofs.YtfdnhkjeoeffoaaGreatDoor
end

section
/- The document's answer of package ustr: Sub. -/
namespace Go.Proofs.YtfdnhkjeoeffoaaGreatDoor
open Go.RowKit
set_option linter.unusedVariables false
end Go.Proofs.YtfdnhkjeoeffoaaGreatDoor
end

section
/- The document's answer of package format: at, in, figure. -/
namespace Go.Proofs.YtfdnhkjeoeffoaaGreatDoor
open Go.RowKit
set_option linter.unusedVariables false
end Go.Proofs.YtfdnhkjeoeffoaaGreatDoor
end

section
/- The document's answer of package format: Parse: the flags (under way). -/
namespace Go.Proofs.YtfdnhkjeoeffoaaGreatDoor
open Go.RowKit
set_option linter.unusedVariables false
end Go.Proofs.YtfdnhkjeoeffoaaGreatDoor
end

section
/- The document's answer of package format: many, Check. -/
namespace Go.Proofs.YtfdnhkjeoeffoaaGreatDoor
open Go.RowKit
set_option linter.unusedVariables false
end Go.Proofs.YtfdnhkjeoeffoaaGreatDoor
end

section
/- Package format: inBase. -/
namespace Go.Proofs.YtfdnhkjeoeffoaaGreatDoor
open Go.RowKit
set_option linter.unusedVariables false
def hexB : ByteArray := ⟨#[48, 49, 50, 51, 52, 53, 54, 55, 56, 57, 97, 98, 99, 100, 101, 102]⟩
/-- a natural's digits in a base -/
def baseF (B : Nat) : Nat → Nat → List Nat
 | 0, _ => []
 | f + 1, n => if n = 0 then [] else baseF B f (n / B) ++ [ch hexB (n % B)]
def baseN (B n : Nat) : List Nat := baseF B n n
theorem baseF_more (B : Nat) (hB : 2 ≤ B) : ∀ (f g n : Nat), n ≤ f → n ≤ g → baseF B f n = baseF B g n := by
 intro f
 induction f with
 | zero => intro g n h1 h2; obtain rfl : n = 0 := by omega
           cases g <;> rfl
 | succ f ih =>
   intro g n h1 h2
   cases g with
   | zero => obtain rfl : n = 0 := by omega
             rfl
   | succ g =>
     show (if n = 0 then _ else _) = (if n = 0 then _ else _)
     by_cases h : n = 0
     ·rw [if_pos h, if_pos h]
     ·have hlt : n / B < n := Nat.div_lt_self (by omega) (by omega)
      rw [if_neg h, if_neg h, ih g (n / B) (by omega) (by omega)]
theorem baseN_step {B n : Nat} (hB : 2 ≤ B) (h : n ≠ 0) : baseN B n = baseN B (n / B) ++ [ch hexB (n % B)] := by
 have hlt : n / B < n := Nat.div_lt_self (by omega) (by omega)
 unfold baseN
 obtain ⟨k, hk⟩ : ∃ k, n = k + 1 := ⟨n - 1, by omega⟩
 conv => lhs; rw [hk]; unfold baseF
 rw [if_neg (by omega), ← hk, baseF_more B hB k (n / B) (n / B) (by omega) (Nat.le_refl _)]
theorem baseN_zero (B : Nat) : baseN B 0 = [] := rfl
theorem baseN_len {B : Nat} (hB : 2 ≤ B) : ∀ (k n : Nat), n < 2 ^ k → (baseN B n).length ≤ k := by
 intro k
 induction k with
 | zero => intro n h; obtain rfl : n = 0 := by simpa using h
           rw [baseN_zero]; simp
 | succ k ih =>
   intro n h
   by_cases h0 : n = 0
   ·subst h0; rw [baseN_zero]; simp
   ·rw [baseN_step hB h0, List.length_append]
    have h2 : n / B ≤ n / 2 := Nat.div_le_div_left hB (by decide)
    have h3 : n / 2 < 2 ^ k := by rw [Nat.pow_succ] at h; omega
    have := ih (n / B) (by omega)
    simp; omega
section
variable (w : World) {ops : Array Oper} {rest : List Oper} {o : Oper} {a : Act} {Q : Exit → Act → World → Prop}
end
theorem OwnB.keep {w w' : World} {base B : Nat} {v : Value} {L : List Nat} (h : OwnB w base v L) (hb : Below B w w') (hB : w.heap.size ≤ B) : OwnB w' base v L := by
 rcases h.slice with ⟨rfl, rfl⟩ | ⟨g, cap, rfl, hbg, hr⟩
 ·exact OwnB.nil _ _
 ·exact (hr.below hb (Nat.lt_of_lt_of_le hr.ltg hB)).own hbg
end Go.Proofs.YtfdnhkjeoeffoaaGreatDoor
end

section
/- A region that draws its order, with guards, by an invariant: each operation is walked once; what a guard passes over too. -/
namespace Go.Proofs.YtfdnhkjeoeffoaaGreatDoor
open Go.RowKit
theorem wp_region_guarded {P : Program} {ops : Array Oper} {Q : Exit → Act → World → Prop} {id : Nat} {a : Act} {w : World} (hm : P.follows .mixedOrders = true) (hord : orderedOps ops = true)
 (I : Act → World → (Nat → Bool) → Act → World → Prop) (h0 : I a w (fun _ => false) a w.drew)
 (hstep : AllOps (fun i o => ∀ (L : Nat → Bool) (a' : Act) (W : World), I a w L a' W → L i = false → (∀ j ∈ depsOf o, L j = true) → ∀ K : Act → World → Prop, (∀ a'' W', I a w (upd L i) a'' W' → K a'' W') →
  if Region.wanted o (yielded ops a'.tmps) = true then Oper.wp P o a' W K Q else K (a'.put o.dst undef) W) ops.toList 0)
 (hdone : ∀ (L : Nat → Bool) (a' : Act) (W : World), (∀ i, i < ops.size → L i = true) → I a w L a' W → Q .normal a' W) : (Code.region id ops true).wp P Q a w := by
 refine wp_region_inv hm hord (I a w) h0 ?_ hdone
 intro L a' W i o ho hI hL hd
 have ho' : ops.toList[i]? = some o := by simpa using ho
 have h := AllOps.get _ 0 i o hstep ho'
 rw [Nat.zero_add] at h
 have hdd : ∀ j ∈ depsOf o, L j = true := by
  intro j hj
  obtain ⟨e, he, rfl⟩ := List.mem_map.1 hj
  obtain ⟨he1, he2⟩ := List.mem_filter.1 he
  exact hd e (by simpa using he1) he2
 have h1 := h L a' W hI hL hdd (I a w (upd L i)) (fun _ _ h => h)
 unfold wpOp
 rw [ho]
 show if Region.wanted o (yielded ops a'.tmps) then _ else _
 by_cases hw : Region.wanted o (yielded ops a'.tmps) = true
 ·rw [if_pos hw] at h1 ⊢
  exact .inl h1
 ·rw [if_neg hw] at h1 ⊢
  exact h1
/-- u with the value of operation k -/
def withVal (u : Nat → Value) (k : Nat) (v : Value) : Nat → Value := fun i => if i = k then v else u i
theorem withVal_next {L : Nat → Bool} {u vals : Nat → Value} (E : Hid (∀ i, L i = true → u i = vals i)) (k : Nat) (v : Value) (hv : vals k = v) : Hid (∀ i, upd L k i = true → withVal u k v i = vals i) := by
 intro i hi
 unfold withVal
 by_cases h : i = k
 ·rw [if_pos h, h, hv]
 ·rw [if_neg h]
  rw [upd_other _ h] at hi
  exact E.out i hi
theorem withVal_same {L : Nat → Bool} {u vals : Nat → Value} (E : Hid (∀ i, L i = true → u i = vals i)) (k : Nat) (v : Value) (hv : vals k = v) : Hid (∀ i, L i = true → withVal u k v i = vals i) := by
 intro i hi
 unfold withVal
 by_cases h : i = k
 ·rw [if_pos h, h, hv]
 ·rw [if_neg h]
  exact E.out i hi
theorem ite_take {c A B : Prop} [Decidable c] (hc : c) (h : A) : if c then A else B := by
 rw [if_pos hc]
 exact h
/-- the i-th of a list of values -/
def valAt (l : List Value) (i : Nat) : Value := (l[i]?).getD undef
theorem valAt_set (l : List Value) (k : Nat) (x : Value) {i : Nat} (h : i ≠ k) : valAt (l.set k x) i = valAt l i := by
 unfold valAt
 rw [List.getElem?_set_ne (Ne.symm h)]
theorem valAt_other {l m : List Value} {i : Nat} (k : Nat) (h : i ≠ k) (e : m.set k undef = l.set k undef) : valAt l i = valAt m i := by
 rw [← valAt_set l k undef h, ← valAt_set m k undef h, e]
end Go.Proofs.YtfdnhkjeoeffoaaGreatDoor
end

section
/- Package format: whole at any spec. -/
namespace Go.Proofs.YtfdnhkjeoeffoaaGreatDoor
open Go.RowKit
set_option linter.unusedVariables false
/-- what stands ahead of the point, as a natural -/
def wholeN (b : Nat) : Nat := scaledN (truncB b) 0
/-- is it below nought? -/
def wholeS (b : Nat) : Bool := FloatKind.f64.format.order (truncB b) 0 == some .lt
/-- the sign and what marks the base -/
def headW (p bl al : Bool) (vb : Nat) (S : Bool) (n : Nat) : List UInt8 :=
 if vb = 100 ∨ vb = 105 then signL p bl S else if (vb = 120 ∨ vb = 88) ∧ al = true ∧ n ≠ 0 then signL false false S ++ [48, 120] else if vb = 111 ∧ al = true ∧ n = 0 then [] else signL false false S
def baseD (B n : Nat) : List UInt8 := (baseN B n).map UInt8.ofNat
/-- the digits in a verb's base; none: nought -/
noncomputable def baseW (al : Bool) (vb n : Nat) : List UInt8 :=
 if vb = 111 then (if al = true then 48 :: baseD 8 n else baseD 8 n) else if vb = 120 ∨ vb = 88 then baseD 16 n else dl n
/-- the digits, as many as there should be -/
noncomputable def numW (al : Bool) (pr : Int) (vb n : Nat) : List UInt8 :=
 if n = 0 then (if vb = 111 ∧ al = true then List.replicate (max pr 1).toNat 48 else if pr = 0 then [] else List.replicate (pr - 1).toNat 48 ++ [48])
 else List.replicate (pr - (baseW al vb n).length).toNat 48 ++ baseW al vb n
noncomputable def padW (m p bl al z : Bool) (wd pr : Int) (vb b : Nat) : List UInt8 :=
 padL m (z && decide (pr < 0)) wd (headW p bl al vb (wholeS b) (wholeN b)) (numW al pr vb (wholeN b))
/-- what whole answers -/
noncomputable def wholeO (m p bl al z : Bool) (wd pr : Int) (vb b : Nat) : ByteArray :=
 if vb = 88 then ⟨(Lib.toUpperA (padW m p bl al z wd pr vb b)).toArray⟩ else ⟨(padW m p bl al z wd pr vb b).toArray⟩
theorem trunc_fin {b : Nat} (hb : b < 18446744073709551616) (hf : fin b = true) : truncB b < 18446744073709551616 ∧ fin (truncB b) = true := by
 unfold truncB
 split
 ·exact ⟨hb, hf⟩
 ·have hm := mant_lt b
  have e : (2 : Nat) ^ 53 = 9007199254740992 := by decide
  have h1 : mant b / 2 ^ (-(expo b)).toNat < 9007199254740992 := Nat.lt_of_le_of_lt (Nat.div_le_self _ _) (by omega)
  obtain ⟨h2, _⟩ := whole_bits h1
  generalize FloatKind.f64.nearest ((mant b / 2 ^ (-(expo b)).toNat : Nat) : Int) = B at *
  refine ⟨by omega, ?_⟩
  rw [← (mant_mod _).2.2, Nat.add_mul_mod_self_right, Nat.mod_eq_of_lt (show B < 9223372036854775808 by omega)]
  exact (fin_lt_inf (by omega)).2 h2
theorem whole_text {b : Nat} (hb : b < 18446744073709551616) (hf : fin b = true) : ∃ l, Canon l (wholeN b) ∧ l.length ≤ 4001 ∧ fixT (truncB b) 0 = l ∧ dl (wholeN b) = l := by
 obtain ⟨h1, h2⟩ := trunc_fin hb hf
 obtain ⟨l, hc, hl, e⟩ := fix_ok (truncB b) 0 h1 h2 (by decide)
 refine ⟨l, hc, hl, ?_, dl_eq hc⟩
 rw [e, fixedL_zero hc.ne]
theorem whole_bits5 (b : Nat) : nbits (wholeN b) ≤ 4001 := scaledN_lt (by decide) (by decide)
theorem baseD_len {B n : Nat} (hB : 2 ≤ B) (hn : nbits n ≤ 4001) : (baseD B n).length ≤ 4001 := by
 unfold baseD
 rw [List.length_map]
 exact baseN_len (B := B) hB (k := 4001) (n := n) ((nbits_le (n := n) (k := 4001)).1 hn)
end Go.Proofs.YtfdnhkjeoeffoaaGreatDoor
end

section
/- Package printf: a value as a width. -/
namespace Go.Proofs.YtfdnhkjeoeffoaaGreatDoor
open Go.RowKit
set_option linter.unusedVariables false
theorem trunc_lt {b : Nat} (hb : b < 18446744073709551616) : truncB b < 18446744073709551616 := by
 cases hf : fin b
 ·unfold truncB; rw [if_pos (.inl hf)]; exact hb
 ·exact (trunc_fin hb hf).1
/-- a value's number -/
def numT (c : CellT) : Nat := numC c.1 c.2.1 c.2.2
set_option maxHeartbeats 8000000 in
set_option maxRecDepth 100000 in
theorem whole_gen {w : World} {b : Nat} (c : CellT) (ok : Bool) (R : World → Prop) (hR : ∀ w1 w2, R w1 → Below w1.heap.size w1 w2 → R w2) (hx : numT c < 18446744073709551616) (hs : c.2.2.size ≤ 140737488355328)
 (hnext : Calls Tryz.prog 142 #[.pointer (some ⟨b, 0, none⟩)] w fun e w' => e = .returned (.tuple #[.agg (agC c), .bool ok]) ∧ R w') :
 Calls Tryz.prog 207 #[.pointer (some ⟨b, 0, none⟩)] w fun e w' => e = .returned (.tuple #[.int .i64 (starI (numT c)), .bool ok]) ∧ R w' := by
 have HNx := Lib.hid hnext
 have HNm := Lib.hid (fun W => Num_all c.1 c.2.1 c.2.2 W hs)
 have HTr := Lib.hid (fun W => Trunc_any (numT c) W hx)
 obtain ⟨s1, s2, s3, s4, s5⟩ := starF_ok (numT c) (trunc_lt hx)
 have hnm : numC c.1 c.2.1 c.2.2 = numT c := rfl
 rw [hnm] at HNm
 have m1 : ∀ ts t w, (Builtin.max_ ts t #[.float .f64 (star0 (numT c)), .float .f64 13879882945323335680]).run Tryz.prog w = .ok (.float .f64 (maxF (star0 (numT c)) 13879882945323335680)) w := fun ts t w => run_maxF s1 ts t w
 have m2 : ∀ ts t w, (Builtin.min_ ts t #[.float .f64 (maxF (star0 (numT c)) 13879882945323335680), .float .f64 4656510908468559872]).run Tryz.prog w = .ok (.float .f64 (starF (numT c))) w := fun ts t w => run_minF s2 ts t w
 have m3 : ∀ w, (convert 24 3 (.float .f64 (starF (numT c)))).run Tryz.prog w = .ok (.int .i64 (starI (numT c))) w := fun w => run_convert_float_int w 24 3 .f64 .i64 _ _ (by rw [Tryz.underlying24]; rfl) Tryz.underlying3 s3
 have hst : star0 (numT c) = if nanF (truncB (numT c)) then 0 else truncB (numT c) := rfl
 obtain ⟨ck, cx, cs⟩ := c
 unfold agC at HNx
 unfold cellA at HNx HNm
 simp only [] at HNx HNm
 generalize starI (numT (ck, cx, cs)) = I at *
 generalize starF (numT (ck, cx, cs)) = F at *
 generalize star0 (numT (ck, cx, cs)) = Z at *
 generalize maxF Z 13879882945323335680 = M at *
 generalize hT : truncB (numT (ck, cx, cs)) = T at *
 generalize numT (ck, cx, cs) = X at *
 clear hT s1 s2 s3 s4 s5 hnm hnext
 cases hn : nanF T
 ·rw [hn, if_neg Bool.false_ne_true] at hst
  unfold nanF at hn
  subst hst
  go_enter Tryz.func207, Tryz.ntmps207
  go_wp2_with fail
  refine HNx.out.mono ?_
  rintro e w1 ⟨rfl, hr1⟩
  have HR1 := Lib.hid (hR _ _ hr1 ((Below.refl _ _).alloc (Nat.le_refl _) (.cells #[.int .i64 ck, .float .f64 cx, .string cs] 48)))
  clear hr1 HNx
  go_wp2_with fail
  refine (HNm.out _).mono ?_
  rintro e w2 ⟨rfl, hb2⟩
  have HR2 := Lib.hid (hR _ _ HR1.out hb2)
  clear hb2 HR1
  go_wp2_with fail
  refine (HTr.out _).mono ?_
  rintro e _ ⟨rfl, rfl⟩
  go_wp2_with fail
  go_ret2
  exact ⟨rfl, HR2.out⟩
 ·rw [hn, if_pos rfl] at hst
  unfold nanF at hn
  subst hst
  go_enter Tryz.func207, Tryz.ntmps207
  go_wp2_with fail
  refine HNx.out.mono ?_
  rintro e w1 ⟨rfl, hr1⟩
  have HR1 := Lib.hid (hR _ _ hr1 ((Below.refl _ _).alloc (Nat.le_refl _) (.cells #[.int .i64 ck, .float .f64 cx, .string cs] 48)))
  clear hr1 HNx
  go_wp2_with fail
  refine (HNm.out _).mono ?_
  rintro e w2 ⟨rfl, hb2⟩
  have HR2 := Lib.hid (hR _ _ HR1.out hb2)
  clear hb2 HR1
  go_wp2_with fail
  refine (HTr.out _).mono ?_
  rintro e _ ⟨rfl, rfl⟩
  go_wp2_with fail
  go_ret2
  exact ⟨rfl, HR2.out⟩
end Go.Proofs.YtfdnhkjeoeffoaaGreatDoor
end
