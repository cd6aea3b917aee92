/- Package ustr: Len and Sub. -/
import Derived.Test.YtjldeckcfdeklaaGreatDoorU2
import Derived.Test.YtjldeckcfdeklaaGreatDoorG3
namespace Go.Proofs.YtjldeckcfdeklaaGreatDoor
open Go.RowKit Go.Shelf
set_option linter.unusedVariables false
attribute [local go_sem] Oper.semAt_some

set_option maxHeartbeats 4000000 in
set_option maxRecDepth 100000 in
theorem ULen_any (s : ByteArray) (b : Bool) (w : World) (hs : s.size ≤ 140737488351232) (hU : U8Ok w) :
    Calls Tryz.prog 48 #[.string s, .bool b] w fun e w' => e = .returned (.int .i64 ((chars s b 0).length : Nat)) ∧ Below w.heap.size w w' := by
  have HU := Lib.hid hU
  have hL : Hid ((chars s b 0).length ≤ s.size) := chars_len s b s.size 0 (by omega)
  have hu1 := hU.lt1
  have hu2 := hU.lt2
  clear hU
  refine (callsIn_wide (n := 9)).1 ?_
  refine callsIn_of_wp_marks Tryz.func48 rfl trivial ?_ rfl
  simp only [Tryz.ntmps48, List.size_toArray, List.length_cons, List.length_nil, Nat.reduceAdd, Nat.reduceSub, Array.replicate_succ, Array.replicate_zero, List.push_toArray, List.append_toArray, List.nil_append, List.cons_append]
  refine wpIn_wide.2 ?_
  go_wp2_with fail
  refine (UAll_any s b _).mono ?_
  rintro e w1 ⟨rfl, hw1⟩
  have b0 := Boxed.new w 3 (.int .i64 0)
  have e1 : w1.heap.size = w.heap.size + 3 := by rw [hw1]; simp
  have hb1 : Below w.heap.size w w1 := by rw [hw1]; exact (((Below.refl _ w).alloc (Nat.le_refl _) _).alloc (by simp) _).alloc (by simp; omega) _
  have c1 : w1.cell? ⟨w.heap.size + 1, 0, none⟩ = some (.string s) := by rw [hw1]; simp [go_sem]
  have c2 : w1.cell? ⟨w.heap.size + 2, 0, none⟩ = some (.bool b) := by rw [hw1]; simp [go_sem]
  have k0 : w1.cell? ⟨w.heap.size, 0, none⟩ = some (.int .i64 0) := by rw [hw1]; simp [go_sem]
  have f0 : w1.frozen? ⟨w.heap.size, 0, none⟩ = false := by rw [hw1]; simp [go_sem]
  have hU1 : U8Ok w1 := HU.out.below hb1
  clear hw1 b0
  rw [World.size_alloc]
  go_wp2_with fail
  refine (wpIn_wide (n := 9)).1 ?_
  refine wpIn_rangeFunc_ownF (α := Nat × Nat) (encs := fun x => #[Value.int .i64 (x.1 : Int), Value.int .i64 (x.2 : Int)]) rfl (by decide) (gf := 109) (lb := #[.pointer (some ⟨w.heap.size + 1, 0, none⟩), .pointer (some ⟨w.heap.size + 1 + 1, 0, none⟩)]) rfl trivial (enters_of Tryz.func109 (by kernel_rfl) rfl)
    (all_stops 8 (w.heap.size + 1) (w.heap.size + 1 + 1) w.heap.size s b (by decide) hs w1 (by omega) (by omega) (by omega) (by omega) (by omega) c1 c2 hU1)
    (fun h k => KpU.trans h k) (fun W l o o' => KpU.put (by omega) (by omega) (by omega) W l o o') (Below.refl _ _) (fun _ => rfl)
    (fun pre W => (W.cell? ⟨w.heap.size, 0, none⟩ = some (.int .i64 (pre.length : Nat)) ∧ W.frozen? ⟨w.heap.size, 0, none⟩ = false) ∧ Below w.heap.size w W)
    (fun _ _ _ => False)
    (OwnFrom.and (Own.from (fun s A B row hs hg hr => ⟨cell_kept hs.1 hg hr, (frozen_kept hs.1 hg hr).trans hs.2⟩) _) (ownFrom_below (Nat.le_refl _) (by omega)))
    (fun _ _ _ _ _ hs _ _ => hs)
    ⟨⟨k0, f0⟩, hb1⟩
    (fun x => { tmps := #[.string s, .bool b, undef, undef, .int .i64 0, .pointer (some ⟨w.heap.size, 0, none⟩), .string s, .bool b, .func (.func 109) #[] #[.pointer (some ⟨w.heap.size + 1, 0, none⟩), .pointer (some ⟨w.heap.size + 1 + 1, 0, none⟩)], .int .i64 (x.1 : Int), .int .i64 (x.2 : Int), undef, undef, undef], defers := [] }) ?assign ?body ?done (fun _ _ _ _ _ _ h => h.elim)
  case assign =>
    intro l x W K hK
    gi_wp2
    simpa using hK
  case body =>
    rintro l pre x W ⟨⟨hc, hf⟩, hB⟩ hlt
    have hlt' : (pre.length : Int) ≤ 140737488351232 := by omega
    have HB := Lib.hid hB
    clear hB k0 f0 c1 c2
    gi_wp2
    refine ⟨(KeepsOthers.setCell _ _ _), KpU.set (KpU.refl _ _ _ _) (p := ⟨w.heap.size, 0, none⟩) (Nat.le_refl _) (by simp) (by simp only []; omega) _, ⟨?_, by rw [World.frozen?_setCell]; exact hf⟩, HB.out.setCell (p := ⟨w.heap.size, 0, none⟩) (Nat.le_refl _) _⟩
    rw [World.cell?_setCell_same' _ _ _ (by rw [hc]; rfl)]
    simp
  case done =>
    rintro D ys W hD rfl ⟨⟨hc, hf⟩, hB⟩ hK
    have HB := Lib.hid hB
    clear hB k0 f0 c1 c2
    go_wp2_with fail
    refine ⟨by simp, .inl ⟨_, _, rfl, run_takeDeferred hK, ?_⟩⟩
    exact ⟨_, results_tmp rfl _ _ _, rfl, HB.out.trans (belowK_b (w := w1) (by omega) W D _ _ hD hK rfl rfl)⟩

/-- where a character of a number begins -/
def placeC (s : ByteArray) (b : Bool) (q : Nat) : Nat := match (chars s b 0)[q]? with
  | some x => x.1
  | none => s.size
/-- the place at which Sub begins -/
def loF (n : Nat) : List (Nat × Nat) → Nat := List.foldl (fun lo x => if lo = n then x.1 else lo) n
theorem loF_snoc (n : Nat) (pre : List (Nat × Nat)) (x : Nat × Nat) : loF n (pre ++ [x]) = if loF n pre = n then x.1 else loF n pre := by
  unfold loF
  rw [List.foldl_append]
  rfl
theorem loF_cons (n a c : Nat) (l : List (Nat × Nat)) (h : a ≠ n) : loF n ((a, c) :: l) = a := by
  have : ∀ l : List (Nat × Nat), List.foldl (fun lo (x : Nat × Nat) => if lo = n then x.1 else lo) a l = a := by
    intro l
    induction l with
    | nil => rfl
    | cons x l ih => simp only [List.foldl_cons, if_neg h]; exact ih
  show List.foldl _ (if n = n then a else n) l = a
  rw [if_pos rfl]
  exact this l
theorem chars_at (s : ByteArray) (b : Bool) : ∀ (n m : Nat), s.size - m ≤ n → ∀ x ∈ chars s b m, m ≤ x.1 ∧ x.1 < s.size := by
  intro n
  induction n with
  | zero => intro m h x hx; rw [chars_end (by omega)] at hx; cases hx
  | succ n ih =>
    intro m h x hx
    rcases Nat.lt_or_ge m s.size with h' | h'
    · have hw := nxt_width b h'
      rw [chars_step h'] at hx
      rcases List.mem_cons.1 hx with rfl | hx
      · exact ⟨Nat.le_refl _, h'⟩
      · have := ih (m + (nxt s m b).2) (by omega) x hx
        omega
    · rw [chars_end h'] at hx; cases hx

/-- the cells that Sub reads and writes -/
structure SubC (p0 p1 p2 B1 B2 B3 : Nat) (s : ByteArray) (q lo hi k : Nat) (W : World) : Prop where
  c0 : W.cell? ⟨p0, 0, none⟩ = some (.string s)
  c1 : W.cell? ⟨p1, 0, none⟩ = some (.int .i64 1)
  c2 : W.cell? ⟨p2, 0, none⟩ = some (.int .i64 ((q : Int) + 1))
  d1 : W.cell? ⟨B1, 0, none⟩ = some (.int .i64 (lo : Nat))
  d2 : W.cell? ⟨B2, 0, none⟩ = some (.int .i64 (hi : Nat))
  d3 : W.cell? ⟨B3, 0, none⟩ = some (.int .i64 (k : Nat))
  f1 : W.frozen? ⟨B1, 0, none⟩ = false
  f2 : W.frozen? ⟨B2, 0, none⟩ = false
  f3 : W.frozen? ⟨B3, 0, none⟩ = false
section
variable {p0 p1 p2 B1 B2 B3 : Nat} {s : ByteArray} {q lo hi k : Nat} {W : World}
theorem cell_far {W : World} {B C : Nat} {u v : Value} (h : W.cell? ⟨B, 0, none⟩ = some v) (hne : B ≠ C) : (W.setCell ⟨C, 0, none⟩ u).cell? ⟨B, 0, none⟩ = some v := (World.cell?_setCell_far _ ⟨C, 0, none⟩ ⟨B, 0, none⟩ _ (by first | exact hne | exact hne.symm)).trans h
theorem cell_near {W : World} {B : Nat} {u v : Value} (h : W.cell? ⟨B, 0, none⟩ = some v) : (W.setCell ⟨B, 0, none⟩ u).cell? ⟨B, 0, none⟩ = some u := World.cell?_setCell_same' _ _ _ (by rw [h]; rfl)
theorem SubC.set1 (h : SubC p0 p1 p2 B1 B2 B3 s q lo hi k W) (a0 : p0 ≠ B1) (a1 : p1 ≠ B1) (a2 : p2 ≠ B1) (a3 : B2 ≠ B1) (a4 : B3 ≠ B1) (v : Nat) : SubC p0 p1 p2 B1 B2 B3 s q v hi k (W.setCell ⟨B1, 0, none⟩ (.int .i64 (v : Nat))) :=
  ⟨cell_far h.c0 a0, cell_far h.c1 a1, cell_far h.c2 a2, cell_near h.d1, cell_far h.d2 a3, cell_far h.d3 a4, by rw [World.frozen?_setCell]; exact h.f1, by rw [World.frozen?_setCell]; exact h.f2, by rw [World.frozen?_setCell]; exact h.f3⟩
theorem SubC.set2 (h : SubC p0 p1 p2 B1 B2 B3 s q lo hi k W) (a0 : p0 ≠ B2) (a1 : p1 ≠ B2) (a2 : p2 ≠ B2) (a3 : B1 ≠ B2) (a4 : B3 ≠ B2) (v : Nat) : SubC p0 p1 p2 B1 B2 B3 s q lo v k (W.setCell ⟨B2, 0, none⟩ (.int .i64 (v : Nat))) :=
  ⟨cell_far h.c0 a0, cell_far h.c1 a1, cell_far h.c2 a2, cell_far h.d1 a3, cell_near h.d2, cell_far h.d3 a4, by rw [World.frozen?_setCell]; exact h.f1, by rw [World.frozen?_setCell]; exact h.f2, by rw [World.frozen?_setCell]; exact h.f3⟩
theorem SubC.set3 (h : SubC p0 p1 p2 B1 B2 B3 s q lo hi k W) (a0 : p0 ≠ B3) (a1 : p1 ≠ B3) (a2 : p2 ≠ B3) (a3 : B1 ≠ B3) (a4 : B2 ≠ B3) (v : Nat) (x : Int) (hx : x = (v : Int)) : SubC p0 p1 p2 B1 B2 B3 s q lo hi v (W.setCell ⟨B3, 0, none⟩ (.int .i64 x)) := by
  subst hx
  exact ⟨cell_far h.c0 a0, cell_far h.c1 a1, cell_far h.c2 a2, cell_far h.d1 a3, cell_far h.d2 a4, cell_near h.d3, by rw [World.frozen?_setCell]; exact h.f1, by rw [World.frozen?_setCell]; exact h.f2, by rw [World.frozen?_setCell]; exact h.f3⟩
theorem SubC.own {α : Type} (lo hi k : α → Nat) : Own (fun (x : α) W => SubC p0 p1 p2 B1 B2 B3 s q (lo x) (hi x) (k x) W) := fun x A B row hs hg hr =>
  ⟨cell_kept hs.c0 hg hr, cell_kept hs.c1 hg hr, cell_kept hs.c2 hg hr, cell_kept hs.d1 hg hr, cell_kept hs.d2 hg hr, cell_kept hs.d3 hg hr, (frozen_kept hs.d1 hg hr).trans hs.f1, (frozen_kept hs.d2 hg hr).trans hs.f2, (frozen_kept hs.d3 hg hr).trans hs.f3⟩
end
theorem chars_lo (s : ByteArray) (b : Bool) {pre : List (Nat × Nat)} (hp : pre <+: chars s b 0) (h : pre ≠ [] ∨ chars s b 0 = []) : loF s.size pre = 0 ∨ (pre = [] ∧ s.size = 0) := by
  cases pre with
  | nil =>
    refine .inr ⟨rfl, ?_⟩
    rcases h with h | h
    · exact absurd rfl h
    · rcases Nat.eq_zero_or_pos s.size with h' | h'
      · exact h'
      · rw [chars_step h'] at h; cases h
  | cons x l =>
    obtain ⟨r, hr⟩ := hp
    have hs : 0 < s.size := by
      rcases Nat.eq_zero_or_pos s.size with h' | h'
      · rw [chars_end (by omega)] at hr; cases hr
      · exact h'
    rw [chars_step hs] at hr
    obtain ⟨x1, x2⟩ := x
    have e : x1 = 0 := by
      have := (List.cons.inj hr).1
      exact congrArg Prod.fst this
    subst e
    exact .inl (loF_cons _ _ _ _ (by omega))
theorem loF_zero (s : ByteArray) (b : Bool) {pre : List (Nat × Nat)} (hp : pre <+: chars s b 0) (h : pre ≠ [] ∨ chars s b 0 = []) : loF s.size pre = 0 := by
  rcases chars_lo s b hp h with h1 | ⟨rfl, h1⟩
  · exact h1
  · exact h1

set_option maxHeartbeats 4000000 in
set_option maxRecDepth 100000 in
theorem USub_any (s : ByteArray) (q : Nat) (b : Bool) (w : World) (hq : q ≤ 1000000) (hs : s.size ≤ 140737488351232) (hU : U8Ok w) :
    Calls Tryz.prog 46 #[.string s, .int .i64 1, .int .i64 ((q : Int) + 1), .bool b] w fun e w' => e = .returned (.string (s.extract 0 (placeC s b q))) ∧ Below w.heap.size w w' := by
  have HU := Lib.hid hU
  have hu1 := hU.lt1
  have hu2 := hU.lt2
  clear hU
  refine (callsIn_wide (n := 9)).1 ?_
  refine callsIn_of_wp_marks Tryz.func46 rfl trivial ?_ rfl
  simp only [Tryz.ntmps46, List.size_toArray, List.length_cons, List.length_nil, Nat.reduceAdd, Nat.reduceSub, Array.replicate_succ, Array.replicate_zero, List.push_toArray, List.append_toArray, List.nil_append, List.cons_append]
  refine wpIn_wide.2 ?_
  go_wp2_with fail
  have g0 : (((w.alloc (.cells #[.string s] 9)).alloc (.cells #[.int .i64 1] 3)).alloc (.cells #[.int .i64 ((q : Int) + 1)] 3)).cell? ⟨w.heap.size, 0, none⟩ = some (.string s) := by simp [go_sem]
  have g1 : (((w.alloc (.cells #[.string s] 9)).alloc (.cells #[.int .i64 1] 3)).alloc (.cells #[.int .i64 ((q : Int) + 1)] 3)).cell? ⟨w.heap.size + 1, 0, none⟩ = some (.int .i64 1) := by simp [go_sem]
  have g2 : (((w.alloc (.cells #[.string s] 9)).alloc (.cells #[.int .i64 1] 3)).alloc (.cells #[.int .i64 ((q : Int) + 1)] 3)).cell? ⟨w.heap.size + 2, 0, none⟩ = some (.int .i64 ((q : Int) + 1)) := by simp [go_sem]
  have hb0 : Below w.heap.size w (((w.alloc (.cells #[.string s] 9)).alloc (.cells #[.int .i64 1] 3)).alloc (.cells #[.int .i64 ((q : Int) + 1)] 3)) := (((Below.refl _ w).alloc (Nat.le_refl _) _).alloc (by simp) _).alloc (by simp; omega) _
  have hz0 : (((w.alloc (.cells #[.string s] 9)).alloc (.cells #[.int .i64 1] 3)).alloc (.cells #[.int .i64 ((q : Int) + 1)] 3)).heap.size = w.heap.size + 3 := by simp
  generalize hW0 : World.alloc _ _ = W0 at *
  have HB0 := Lib.hid hb0
  clear hW0 hb0
  refine wp_region_steps (by kernel_rfl) (by kernel_rfl) (by kernel_rfl) (fun a0 V0 L a W => ∃ (u9 u10 u11 u13 u14 u15 u16 : Value) (B1 B2 B3 : Nat), a = { tmps := (((((((a0.tmps.setIfInBounds 9 u9).setIfInBounds 10 u10).setIfInBounds 11 u11).setIfInBounds 13 u13).setIfInBounds 14 u14).setIfInBounds 15 u15).setIfInBounds 16 u16), defers := a0.defers } ∧
    Hid (Inv3 V0 W 3 (L 4) (L 5) (L 6) (L 7) (L 8) (L 9) u9 u10 u11 #[.int .i64 0] #[.int .i64 (s.size : Nat)] #[.int .i64 (s.size : Nat)] #[.int .i64 1] B1 B2 B3) ∧
    Hid (L 0 = true → u13 = .string s) ∧ Hid (L 1 = true → u14 = .int .i64 (s.size : Nat)) ∧ Hid (L 2 = true → u15 = .string s) ∧ Hid (L 3 = true → u16 = .int .i64 (s.size : Nat))) ?h0 ?hstep ?hdone
  case h0 =>
    refine ⟨undef, undef, undef, undef, undef, undef, undef, 0, 0, 0, ?_, Inv3.start _ _ _ _ _ _ _ _ _, fun h => (by cases h), fun h => (by cases h), fun h => (by cases h), fun h => (by cases h)⟩
    simp only [List.setIfInBounds_toArray, List.set_cons_zero, List.set_cons_succ]
  case hstep =>
    refine ⟨?o0, ?o1, ?o2, ?o3, ?o4, ?o5, ?o6, ?o7, ?o8, ?o9, trivial⟩
    case o0 =>
      rintro L a' W ⟨u9, u10, u11, u13, u14, u15, u16, B1, B2, B3, rfl, HI, E0, E1, E2, E3⟩ hL hd K hK
      have k0 : W.cell? ⟨w.heap.size, 0, none⟩ = some (.string s) := cellNext HI.out.below g0
      simp only [List.setIfInBounds_toArray, List.set_cons_zero, List.set_cons_succ]
      go_simp
      refine hK _ _ ⟨u9, u10, u11, .string s, u14, u15, u16, B1, B2, B3, ?_, HI, fun _ => rfl, E1.out, E2.out, E3.out⟩
      simp only [List.setIfInBounds_toArray, List.set_cons_zero, List.set_cons_succ]
    case o1 =>
      rintro L a' W ⟨u9, u10, u11, u13, u14, u15, u16, B1, B2, B3, rfl, HI, E0, E1, E2, E3⟩ hL hd K hK
      have d0 : L 0 = true := hd 0 (List.elem_iff.1 (by kernel_rfl))
      obtain rfl := E0.out d0
      simp only [List.setIfInBounds_toArray, List.set_cons_zero, List.set_cons_succ]
      go_simp
      refine hK _ _ ⟨u9, u10, u11, .string s, .int .i64 (s.size : Nat), u15, u16, B1, B2, B3, ?_, HI, E0.out, fun _ => rfl, E2.out, E3.out⟩
      simp only [List.setIfInBounds_toArray, List.set_cons_zero, List.set_cons_succ]
    case o2 =>
      rintro L a' W ⟨u9, u10, u11, u13, u14, u15, u16, B1, B2, B3, rfl, HI, E0, E1, E2, E3⟩ hL hd K hK
      have k0 : W.cell? ⟨w.heap.size, 0, none⟩ = some (.string s) := cellNext HI.out.below g0
      simp only [List.setIfInBounds_toArray, List.set_cons_zero, List.set_cons_succ]
      go_simp
      refine hK _ _ ⟨u9, u10, u11, u13, u14, .string s, u16, B1, B2, B3, ?_, HI, E0.out, E1.out, fun _ => rfl, E3.out⟩
      simp only [List.setIfInBounds_toArray, List.set_cons_zero, List.set_cons_succ]
    case o3 =>
      rintro L a' W ⟨u9, u10, u11, u13, u14, u15, u16, B1, B2, B3, rfl, HI, E0, E1, E2, E3⟩ hL hd K hK
      have d2 : L 2 = true := hd 2 (List.elem_iff.1 (by kernel_rfl))
      obtain rfl := E2.out d2
      simp only [List.setIfInBounds_toArray, List.set_cons_zero, List.set_cons_succ]
      go_simp
      refine hK _ _ ⟨u9, u10, u11, u13, u14, .string s, .int .i64 (s.size : Nat), B1, B2, B3, ?_, HI, E0.out, E1.out, E2.out, fun _ => rfl⟩
      simp only [List.setIfInBounds_toArray, List.set_cons_zero, List.set_cons_succ]
    case o4 =>
      rintro L a' W ⟨u9, u10, u11, u13, u14, u15, u16, B1, B2, B3, rfl, HI, E0, E1, E2, E3⟩ hL hd K hK
      rw [hL] at HI
      simp only [List.setIfInBounds_toArray, List.set_cons_zero, List.set_cons_succ]
      go_simp
      refine hK _ _ ⟨.pointer (some ⟨W.heap.size, 0, none⟩), u10, u11, u13, u14, u15, u16, W.heap.size, B2, B3, ?_, HI.out.alloc1, E0.out, E1.out, E2.out, E3.out⟩
      simp only [List.setIfInBounds_toArray, List.set_cons_zero, List.set_cons_succ]
    case o5 =>
      rintro L a' W ⟨u9, u10, u11, u13, u14, u15, u16, B1, B2, B3, rfl, HI, E0, E1, E2, E3⟩ hL hd K hK
      rw [hL] at HI
      simp only [List.setIfInBounds_toArray, List.set_cons_zero, List.set_cons_succ]
      go_simp
      refine hK _ _ ⟨u9, .pointer (some ⟨W.heap.size, 0, none⟩), u11, u13, u14, u15, u16, B1, W.heap.size, B3, ?_, HI.out.alloc2, E0.out, E1.out, E2.out, E3.out⟩
      simp only [List.setIfInBounds_toArray, List.set_cons_zero, List.set_cons_succ]
    case o6 =>
      rintro L a' W ⟨u9, u10, u11, u13, u14, u15, u16, B1, B2, B3, rfl, HI, E0, E1, E2, E3⟩ hL hd K hK
      rw [hL] at HI
      simp only [List.setIfInBounds_toArray, List.set_cons_zero, List.set_cons_succ]
      go_simp
      refine hK _ _ ⟨u9, u10, .pointer (some ⟨W.heap.size, 0, none⟩), u13, u14, u15, u16, B1, B2, W.heap.size, ?_, HI.out.alloc3, E0.out, E1.out, E2.out, E3.out⟩
      simp only [List.setIfInBounds_toArray, List.set_cons_zero, List.set_cons_succ]
    case o7 =>
      rintro L a' W ⟨u9, u10, u11, u13, u14, u15, u16, B1, B2, B3, rfl, HI, E0, E1, E2, E3⟩ hL hd K hK
      have d4 : L 4 = true := hd 4 (List.elem_iff.1 (by kernel_rfl))
      have d5 : L 5 = true := hd 5 (List.elem_iff.1 (by kernel_rfl))
      have d6 : L 6 = true := hd 6 (List.elem_iff.1 (by kernel_rfl))
      have d1 : L 1 = true := hd 1 (List.elem_iff.1 (by kernel_rfl))
      obtain rfl := E1.out d1
      rw [d4, d5, d6, hL] at HI
      have h1 := Blk.raw HI.out.b1
      have hu := h1.1
      have hB := h1.2.1
      have hh := h1.2.2
      clear h1
      subst hu
      have kc : W.cell? ⟨B1, 0, none⟩ = some (.int .i64 0) := by rw [Lib.cell_of_heap hh]; rfl
      have kf : W.frozen? ⟨B1, 0, none⟩ = false := Lib.frozen_of_heap hh 0
      simp only [List.setIfInBounds_toArray, List.set_cons_zero, List.set_cons_succ]
      go_simp
      refine hK _ _ ⟨.pointer (some ⟨B1, 0, none⟩), u10, u11, u13, .int .i64 (s.size : Nat), u15, u16, B1, B2, B3, ?_, ?_, E0.out, E1.out, E2.out, E3.out⟩
      · simp only [List.setIfInBounds_toArray, List.set_cons_zero, List.set_cons_succ]
      have h := HI.out.store1 (turned_one hh _)
      show Inv3 _ _ _ (L 4) (L 5) (L 6) _ _ _ _ _ _ _ _ _ _ _ _ _
      rw [d4, d5, d6]
      exact h
    case o8 =>
      rintro L a' W ⟨u9, u10, u11, u13, u14, u15, u16, B1, B2, B3, rfl, HI, E0, E1, E2, E3⟩ hL hd K hK
      have d4 : L 4 = true := hd 4 (List.elem_iff.1 (by kernel_rfl))
      have d5 : L 5 = true := hd 5 (List.elem_iff.1 (by kernel_rfl))
      have d6 : L 6 = true := hd 6 (List.elem_iff.1 (by kernel_rfl))
      have d3 : L 3 = true := hd 3 (List.elem_iff.1 (by kernel_rfl))
      obtain rfl := E3.out d3
      rw [d4, d5, d6, hL] at HI
      have h1 := Blk.raw HI.out.b2
      have hu := h1.1
      have hB := h1.2.1
      have hh := h1.2.2
      clear h1
      subst hu
      have kc : W.cell? ⟨B2, 0, none⟩ = some (.int .i64 0) := by rw [Lib.cell_of_heap hh]; rfl
      have kf : W.frozen? ⟨B2, 0, none⟩ = false := Lib.frozen_of_heap hh 0
      simp only [List.setIfInBounds_toArray, List.set_cons_zero, List.set_cons_succ]
      go_simp
      refine hK _ _ ⟨u9, .pointer (some ⟨B2, 0, none⟩), u11, u13, u14, u15, .int .i64 (s.size : Nat), B1, B2, B3, ?_, ?_, E0.out, E1.out, E2.out, E3.out⟩
      · simp only [List.setIfInBounds_toArray, List.set_cons_zero, List.set_cons_succ]
      have h := HI.out.store2 (turned_one hh _)
      show Inv3 _ _ _ (L 4) (L 5) (L 6) _ _ _ _ _ _ _ _ _ _ _ _ _
      rw [d4, d5, d6]
      exact h
    case o9 =>
      rintro L a' W ⟨u9, u10, u11, u13, u14, u15, u16, B1, B2, B3, rfl, HI, E0, E1, E2, E3⟩ hL hd K hK
      have d4 : L 4 = true := hd 4 (List.elem_iff.1 (by kernel_rfl))
      have d5 : L 5 = true := hd 5 (List.elem_iff.1 (by kernel_rfl))
      have d6 : L 6 = true := hd 6 (List.elem_iff.1 (by kernel_rfl))
      rw [d4, d5, d6, hL] at HI
      have h1 := Blk.raw HI.out.b3
      have hu := h1.1
      have hB := h1.2.1
      have hh := h1.2.2
      clear h1
      subst hu
      have kc : W.cell? ⟨B3, 0, none⟩ = some (.int .i64 0) := by rw [Lib.cell_of_heap hh]; rfl
      have kf : W.frozen? ⟨B3, 0, none⟩ = false := Lib.frozen_of_heap hh 0
      simp only [List.setIfInBounds_toArray, List.set_cons_zero, List.set_cons_succ]
      go_simp
      refine hK _ _ ⟨u9, u10, .pointer (some ⟨B3, 0, none⟩), u13, u14, u15, u16, B1, B2, B3, ?_, ?_, E0.out, E1.out, E2.out, E3.out⟩
      · simp only [List.setIfInBounds_toArray, List.set_cons_zero, List.set_cons_succ]
      have h := HI.out.store3 (turned_one hh _)
      show Inv3 _ _ _ (L 4) (L 5) (L 6) _ _ _ _ _ _ _ _ _ _ _ _ _
      rw [d4, d5, d6]
      exact h
  case hdone =>
    rintro L a' W1 hall ⟨u9, u10, u11, u13, u14, u15, u16, B1, B2, B3, rfl, HI, E0, E1, E2, E3⟩
    rw [hall 4 (by decide), hall 5 (by decide), hall 6 (by decide), hall 7 (by decide), hall 8 (by decide), hall 9 (by decide)] at HI
    obtain ⟨rfl, hB1, hh1⟩ := HI.out.b1.full
    obtain ⟨rfl, hB2, hh2⟩ := HI.out.b2.full
    obtain ⟨rfl, hB3, hh3⟩ := HI.out.b3.full
    have d12 := HI.out.d12 rfl rfl
    have d13 := HI.out.d13 rfl rfl
    have d23 := HI.out.d23 rfl rfl
    simp only [List.setIfInBounds_toArray, List.set_cons_zero, List.set_cons_succ]
    rename_i Q' K hKK
    have HBw : Hid (Below w.heap.size w W1) := HB0.out.trans (HI.out.below.mono (by omega))
    have hbz := HI.out.below.size
    have k0 : W1.cell? ⟨w.heap.size, 0, none⟩ = some (.string s) := cellNext HI.out.below g0
    have k1 : W1.cell? ⟨w.heap.size + 1, 0, none⟩ = some (.int .i64 1) := cellNext HI.out.below g1
    have k2 : W1.cell? ⟨w.heap.size + 2, 0, none⟩ = some (.int .i64 ((q : Int) + 1)) := cellNext HI.out.below g2
    have HS : Hid (SubC w.heap.size (w.heap.size + 1) (w.heap.size + 2) B1 B2 B3 s q s.size s.size 1 W1) :=
      ⟨k0, k1, k2, by rw [Lib.cell_of_heap hh1]; rfl, by rw [Lib.cell_of_heap hh2]; rfl, by rw [Lib.cell_of_heap hh3]; rfl, Lib.frozen_of_heap hh1 0, Lib.frozen_of_heap hh2 0, Lib.frozen_of_heap hh3 0⟩
    have hl1 := lt_of_heap hh1
    have hl2 := lt_of_heap hh2
    have hl3 := lt_of_heap hh3
    refine hKK _ _ ?_
    clear hKK hall HI E0 E1 E2 E3 g0 g1 g2 hh1 hh2 hh3 HB0 k1 k2
    go_wp2_with fail
    refine (UAll_any s b _).mono ?_
    rintro e w1 ⟨rfl, hw1⟩
    have e1 : w1.heap.size = W1.heap.size + 2 := by rw [hw1]; simp
    have hb1 : Below W1.heap.size W1 w1 := by rw [hw1]; exact ((Below.refl _ W1).alloc (Nat.le_refl _) _).alloc (by simp) _
    have c1 : w1.cell? ⟨W1.heap.size, 0, none⟩ = some (.string s) := by rw [hw1]; simp [go_sem]
    have c2 : w1.cell? ⟨W1.heap.size + 1, 0, none⟩ = some (.bool b) := by rw [hw1]; simp [go_sem]
    have HS1 : Hid (SubC w.heap.size (w.heap.size + 1) (w.heap.size + 2) B1 B2 B3 s q s.size s.size 1 w1) := by
      have h := HS.out
      exact ⟨cellNext hb1 h.c0, cellNext hb1 h.c1, cellNext hb1 h.c2, cellNext hb1 h.d1, cellNext hb1 h.d2, cellNext hb1 h.d3, (hb1.frozen (p := ⟨B1, 0, none⟩) hl1).trans h.f1, (hb1.frozen (p := ⟨B2, 0, none⟩) hl2).trans h.f2, (hb1.frozen (p := ⟨B3, 0, none⟩) hl3).trans h.f3⟩
    have HBw1 : Hid (Below w.heap.size w w1) := HBw.out.trans (hb1.mono (by omega))
    have hU1 : U8Ok w1 := HU.out.below HBw1.out
    clear hw1 HS HBw k0
    go_wp2_with fail
    refine (wpIn_wide (n := 9)).1 ?_
    refine wpIn_rangeFunc_ownF (α := Nat × Nat) (encs := fun x => #[Value.int .i64 (x.1 : Int), Value.int .i64 (x.2 : Int)]) rfl (by decide) (gf := 109) (lb := #[.pointer (some ⟨W1.heap.size, 0, none⟩), .pointer (some ⟨W1.heap.size + 1, 0, none⟩)]) rfl trivial (enters_of Tryz.func109 (by kernel_rfl) rfl)
      (all_stops 8 W1.heap.size (W1.heap.size + 1) w.heap.size s b (by decide) hs w1 (by omega) (by omega) (by omega) (by omega) (by omega) c1 c2 hU1)
      (fun h k => KpU.trans h k) (fun W l o o' => KpU.put (by omega) (by omega) (by omega) W l o o') (Below.refl _ _) (fun _ => rfl)
      (fun pre W => SubC w.heap.size (w.heap.size + 1) (w.heap.size + 2) B1 B2 B3 s q (loF s.size pre) s.size (pre.length + 1) W ∧ Below w.heap.size w W ∧ pre.length ≤ q)
      (fun c pre W => SubC w.heap.size (w.heap.size + 1) (w.heap.size + 2) B1 B2 B3 s q (loF s.size pre) ((pre.getLast?.map (·.1)).getD 0) pre.length W ∧ Below w.heap.size w W ∧ (pre.length = q + 1 ∧ c = .exit 0))
      (OwnFrom.and (Own.from (SubC.own _ _ _) _) (OwnFrom.and (ownFrom_below (Nat.le_refl _) (by omega)) (fun _ _ _ _ h _ _ => h)))
      (fun c => OwnFrom.and (Own.from (SubC.own _ _ _) _) (OwnFrom.and (ownFrom_below (Nat.le_refl _) (by omega)) (fun _ _ _ _ h _ _ => h)))
      ⟨HS1.out, HBw1.out, Nat.zero_le _⟩
      (fun x => { tmps := #[.string s, .int .i64 1, .int .i64 ((q : Int) + 1), .bool b, .pointer (some ⟨w.heap.size, 0, none⟩), .pointer (some ⟨w.heap.size + 1, 0, none⟩), .pointer (some ⟨w.heap.size + 1 + 1, 0, none⟩), undef, .string ⟨#[]⟩, .pointer (some ⟨B1, 0, none⟩), .pointer (some ⟨B2, 0, none⟩), .pointer (some ⟨B3, 0, none⟩), .int .i64 (x.1 : Int), u13, u14, u15, u16, .string s, .bool b, .func (.func 109) #[] #[.pointer (some ⟨W1.heap.size, 0, none⟩), .pointer (some ⟨W1.heap.size + 1, 0, none⟩)], .int .i64 (x.1 : Int), .int .i64 (x.2 : Int), undef, undef, undef, undef, undef, undef, undef, undef, undef, undef, undef, undef, undef, undef, undef, undef, undef, undef, undef, undef, undef, undef], defers := [] }) ?assign ?body ?done ?stop
    case assign =>
      intro l x W K hK
      gi_wp2
      simpa using hK
    case body =>
      rintro l pre x W ⟨hS, hB, hq1⟩ hlt
      obtain ⟨n, hn⟩ : ∃ n, n = s.size := ⟨_, rfl⟩
      have hlast : ((pre ++ [x]).getLast?.map (·.1)).getD 0 = x.1 := by simp
      have hlen : (pre ++ [x]).length = pre.length + 1 := by simp
      have HSn := loF_snoc s.size pre x
      have a1 : w.heap.size ≠ B1 := by omega
      have a2 : w.heap.size ≠ B2 := by omega
      have a3 : w.heap.size ≠ B3 := by omega
      have b1 : w.heap.size + 1 ≠ B1 := by omega
      have b2 : w.heap.size + 1 ≠ B2 := by omega
      have b3 : w.heap.size + 1 ≠ B3 := by omega
      have e1' : w.heap.size + 2 ≠ B1 := by omega
      have e2' : w.heap.size + 2 ≠ B2 := by omega
      have e3' : w.heap.size + 2 ≠ B3 := by omega
      have m1 : B1 ≠ W1.heap.size := by omega
      have m2 : B2 ≠ W1.heap.size := by omega
      have m3 : B3 ≠ W1.heap.size := by omega
      have n1 : B1 ≠ W1.heap.size + 1 := by omega
      have n2 : B2 ≠ W1.heap.size + 1 := by omega
      have n3 : B3 ≠ W1.heap.size + 1 := by omega
      obtain ⟨lo, hlo⟩ : ∃ lo, lo = loF s.size pre := ⟨_, rfl⟩
      obtain ⟨k, hk⟩ : ∃ k, k = pre.length + 1 := ⟨_, rfl⟩
      rw [← hlo, ← hk] at hS
      rw [← hlo] at HSn
      have hk1 : (1 : Int) ≤ (k : Nat) := by omega
      have hkq : (k : Int) ≤ 1000002 := by omega
      have HB := Lib.hid hB
      have HKL := Lib.hid hk
      have HQ1 := Lib.hid hq1
      have HL2 := Lib.hid hlast
      have HL3 := Lib.hid hlen
      have s0 := hS.c0
      have s1 := hS.c1
      have s2 := hS.c2
      have t1 := hS.d1
      have t2 := hS.d2
      have t3 := hS.d3
      have r1 := hS.f1
      have r2 := hS.f2
      have r3 := hS.f3
      have HS := Lib.hid hS
      have hn1 : w.heap.size ≤ B1 := by omega
      have hn2 : w.heap.size ≤ B2 := by omega
      have hn3 : w.heap.size ≤ B3 := by omega
      clear hB hlo hk hq1 hlast hlen hS c1 c2 HS1 HBw1 hlt
      by_cases hl : lo = s.size
      · have hlb : ((lo : Int) == (s.size : Int)) = true := by simp [hl]
        rw [if_pos hl] at HSn
        have HSN := Lib.hid HSn
        have HT : Hid (SubC w.heap.size (w.heap.size + 1) (w.heap.size + 2) B1 B2 B3 s q x.1 s.size k (W.setCell ⟨B1, 0, none⟩ (.int .i64 (x.1 : Nat)))) := HS.out.set1 a1 b1 e1' (Ne.symm d12) (Ne.symm d13) x.1
        have v0 := HT.out.c2
        have v3 := HT.out.d3
        have v5 := HT.out.d2
        have v2 := HT.out.f2
        have v4 := HT.out.f3
        clear hl HSn
        by_cases hkk : (q : Int) + 1 ≤ (k : Int)
        · gi_wp2
          refine ⟨?_, ?_, ?_, ?_, rfl⟩
          · exact (KeepsOthers.setCell _ _ _).trans (KeepsOthers.setCell _ _ _)
          · rw [HSN.out, HL2.out, HL3.out, ← HKL.out]
            exact HT.out.set2 a2 b2 e2' d12 (Ne.symm d23) x.1
          · exact (HB.out.setCell (p := ⟨B1, 0, none⟩) hn1 _).setCell (p := ⟨B2, 0, none⟩) hn2 _
          · rw [HL3.out]; have := HKL.out; have := HQ1.out; omega
        · have hkk' : (k : Int) < (q : Int) + 1 := by omega
          gi_wp2
          refine ⟨(KeepsOthers.setCell _ _ _).trans (KeepsOthers.setCell _ _ _), KpU.set (KpU.set (KpU.refl _ _ _ _) (p := ⟨B1, 0, none⟩) hn1 (Ne.symm m1) (Ne.symm n1) _) (p := ⟨B3, 0, none⟩) hn3 (Ne.symm m3) (Ne.symm n3) _, ?_, ?_, ?_⟩
          · rw [HSN.out, HL3.out, ← HKL.out]
            exact HT.out.set3 a3 b3 e3' d13 d23 (k + 1) _ (by omega)
          · exact (HB.out.setCell (p := ⟨B1, 0, none⟩) hn1 _).setCell (p := ⟨B3, 0, none⟩) hn3 _
          · rw [HL3.out]; have := HKL.out; omega
      · have hlb : ((lo : Int) == (s.size : Int)) = false := by simp; omega
        rw [if_neg hl] at HSn
        have HSN := Lib.hid HSn
        clear hl HSn
        by_cases hkk : (q : Int) + 1 ≤ (k : Int)
        · gi_wp2
          refine ⟨?_, ?_, ?_, ?_, rfl⟩
          · exact KeepsOthers.setCell _ _ _
          · rw [HSN.out, HL2.out, HL3.out, ← HKL.out]
            exact HS.out.set2 a2 b2 e2' d12 (Ne.symm d23) x.1
          · exact HB.out.setCell (p := ⟨B2, 0, none⟩) hn2 _
          · rw [HL3.out]; have := HKL.out; have := HQ1.out; omega
        · have hkk' : (k : Int) < (q : Int) + 1 := by omega
          gi_wp2
          refine ⟨KeepsOthers.setCell _ _ _, KpU.set (KpU.refl _ _ _ _) (p := ⟨B3, 0, none⟩) hn3 (Ne.symm m3) (Ne.symm n3) _, ?_, ?_, ?_⟩
          · rw [HSN.out, HL3.out, ← HKL.out]
            exact HS.out.set3 a3 b3 e3' d13 d23 (k + 1) _ (by omega)
          · exact HB.out.setCell (p := ⟨B3, 0, none⟩) hn3 _
          · rw [HL3.out]; have := HKL.out; omega
    case done =>
      rintro D ys W hD rfl ⟨hS, hB, hq1⟩ hK
      rw [loF_zero s b (List.prefix_refl _) (by by_cases h : chars s b 0 = []; exact .inr h; exact .inl h)] at hS
      have HP : Hid (s.extract 0 (placeC s b q) = s) := by
        show _ = _
        unfold placeC
        rw [List.getElem?_eq_none hq1]
        simp
      have s0 := hS.c0
      have t1 := hS.d1
      have t2 := hS.d2
      have HB := Lib.hid hB
      have hmin : min (0 : Int) (s.size : Int) = 0 := by omega
      clear hB hS hq1 c1 c2 HS1 HBw1
      go_wp2_with fail
      refine ⟨by simp, .inl ⟨_, _, rfl, run_takeDeferred hK, ?_⟩⟩
      rw [HP.out]
      exact ⟨_, results_tmp rfl _ _ _, rfl, HB.out.trans (belowK_b (w := w1) (by omega) W D _ _ hD hK rfl rfl)⟩
    case stop =>
      rintro D c pre W hD hpre ⟨hS, hB, hq1, rfl⟩ hK
      rw [loF_zero s b hpre (.inl (by rintro rfl; simp at hq1))] at hS
      obtain ⟨h, hh⟩ : ∃ h, h = (pre.getLast?.map (·.1)).getD 0 := ⟨_, rfl⟩
      rw [← hh] at hS
      have hpl : placeC s b q = h ∧ h ≤ s.size := by
        obtain ⟨r, hr⟩ := hpre
        have hg : pre.getLast? = pre[q]? := by rw [List.getLast?_eq_getElem?]; congr 1; omega
        have hx : pre[q]? = some pre[q] := List.getElem?_eq_getElem (by omega)
        have hc : (chars s b 0)[q]? = some pre[q] := by rw [← hr, List.getElem?_append_left (by omega)]; exact hx
        have hm := chars_at s b _ 0 (Nat.le_refl _) _ (List.mem_of_getElem? hc)
        unfold placeC
        rw [hc, hh, hg, hx]
        exact ⟨rfl, Nat.le_of_lt hm.2⟩
      have HP : Hid (s.extract 0 (placeC s b q) = s.extract 0 h) := by show _ = _; rw [hpl.1]
      have hle := hpl.2
      have s0 := hS.c0
      have t1 := hS.d1
      have t2 := hS.d2
      have HB := Lib.hid hB
      have hmin : min (0 : Int) (h : Int) = 0 := by omega
      have hhI : (h : Int) ≤ (s.size : Int) := by omega
      clear hB hS hq1 c1 c2 HS1 HBw1 hpl hh
      refine wpIn_wide.2 ?_
      go_wp2_with fail
      refine ⟨by simp, .inl ⟨_, _, rfl, run_takeDeferred hK, ?_⟩⟩
      rw [HP.out]
      exact ⟨_, results_tmp rfl _ _ _, rfl, HB.out.trans (belowK_b (w := w1) (by omega) W D _ _ hD hK rfl rfl)⟩
end Go.Proofs.YtjldeckcfdeklaaGreatDoor
