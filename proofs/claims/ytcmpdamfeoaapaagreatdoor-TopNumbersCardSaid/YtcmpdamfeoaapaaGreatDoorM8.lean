/- Several texts in one (U3, P7, K2, K3). -/
import Derived.Test.YtcmpdamfeoaapaaGreatDoorM7
import Derived.Test.YtcmpdamfeoaapaaGreatDoorM6
section
/- Package ustr: Len and Sub. -/
namespace Go.Proofs.YtcmpdamfeoaapaaGreatDoor
open Go.RowKit Go.Shelf
set_option linter.unusedVariables false
attribute [local go_sem] Oper.semAt_some

set_option maxHeartbeats 4000000 in
set_option maxRecDepth 100000 in
theorem ULen_any (s : ByteArray) (b : Bool) (w : World) (hs : s.size ≤ 140737488351232) (hU : U8Ok w) :
    Calls Tryz.prog 185 #[.string s, .bool b] w fun e w' => e = .returned (.int .i64 ((chars s b 0).length : Nat)) ∧ Below w.heap.size w w' := by
  have HU := Lib.hid hU
  have hL : Hid ((chars s b 0).length ≤ s.size) := chars_len s b s.size 0 (by omega)
  have hu1 := hU.lt1
  have hu2 := hU.lt2
  clear hU
  refine (callsIn_wide (n := 9)).1 ?_
  refine callsIn_of_wp_marks Tryz.func185 rfl trivial ?_ rfl
  simp only [Tryz.ntmps185, List.size_toArray, List.length_cons, List.length_nil, Nat.reduceAdd, Nat.reduceSub, Array.replicate_succ, Array.replicate_zero, List.push_toArray, List.append_toArray, List.nil_append, List.cons_append]
  refine wpIn_wide.2 ?_
  go_wp2_with fail
  refine (UAll_any s b _).mono ?_
  rintro e w1 ⟨rfl, hw1⟩
  have b0 := Boxed.new w 3 (.int .i64 0)
  have e1 : w1.heap.size = w.heap.size + 3 := by rw [hw1]; simp
  have hb1 : Below w.heap.size w w1 := by rw [hw1]; exact (((Below.refl _ w).alloc (Nat.le_refl _) _).alloc (by simp) _).alloc (by simp; omega) _
  have c1 : w1.cell? ⟨w.heap.size + 1, 0, none⟩ = some (.string s) := by rw [hw1]; simp [go_sem]
  have c2 : w1.cell? ⟨w.heap.size + 2, 0, none⟩ = some (.bool b) := by rw [hw1]; simp [go_sem]
  have k0 : w1.cell? ⟨w.heap.size, 0, none⟩ = some (.int .i64 0) := by rw [hw1]; simp [go_sem]
  have f0 : w1.frozen? ⟨w.heap.size, 0, none⟩ = false := by rw [hw1]; simp [go_sem]
  have hU1 : U8Ok w1 := HU.out.below hb1
  clear hw1 b0
  rw [World.size_alloc]
  go_wp2_with fail
  refine (wpIn_wide (n := 9)).1 ?_
  refine wpIn_rangeFunc_ownF (α := Nat × Nat) (encs := fun x => #[Value.int .i64 (x.1 : Int), Value.int .i64 (x.2 : Int)]) rfl (by decide) (gf := 237) (lb := #[.pointer (some ⟨w.heap.size + 1, 0, none⟩), .pointer (some ⟨w.heap.size + 1 + 1, 0, none⟩)]) rfl trivial (enters_of Tryz.func237 (by kernel_rfl) rfl)
    (all_stops 8 (w.heap.size + 1) (w.heap.size + 1 + 1) w.heap.size s b (by decide) hs w1 (by omega) (by omega) (by omega) (by omega) (by omega) c1 c2 hU1)
    (fun h k => KpU.trans h k) (fun W l o o' => KpU.put (by omega) (by omega) (by omega) W l o o') (Below.refl _ _) (fun _ => rfl)
    (fun pre W => (W.cell? ⟨w.heap.size, 0, none⟩ = some (.int .i64 (pre.length : Nat)) ∧ W.frozen? ⟨w.heap.size, 0, none⟩ = false) ∧ Below w.heap.size w W)
    (fun _ _ _ => False)
    (OwnFrom.and (Own.from (fun s A B row hs hg hr => ⟨cell_kept hs.1 hg hr, (frozen_kept hs.1 hg hr).trans hs.2⟩) _) (ownFrom_below (Nat.le_refl _) (by omega)))
    (fun _ _ _ _ _ hs _ _ => hs)
    ⟨⟨k0, f0⟩, hb1⟩
    (fun x => { tmps := #[.string s, .bool b, undef, undef, .int .i64 0, .pointer (some ⟨w.heap.size, 0, none⟩), .string s, .bool b, .func (.func 237) #[] #[.pointer (some ⟨w.heap.size + 1, 0, none⟩), .pointer (some ⟨w.heap.size + 1 + 1, 0, none⟩)], .int .i64 (x.1 : Int), .int .i64 (x.2 : Int), undef, undef, undef], defers := [] }) ?assign ?body ?done (fun _ _ _ _ _ _ h => h.elim)
  case assign =>
    intro l x W K hK
    gi_wp2
    simpa using hK
  case body =>
    rintro l pre x W ⟨⟨hc, hf⟩, hB⟩ hlt
    have hlt' : (pre.length : Int) ≤ 140737488351232 := by omega
    have HB := Lib.hid hB
    clear hB k0 f0 c1 c2
    gi_wp2
    refine ⟨(KeepsOthers.setCell _ _ _), KpU.set (KpU.refl _ _ _ _) (p := ⟨w.heap.size, 0, none⟩) (Nat.le_refl _) (by simp) (by simp only []; omega) _, ⟨?_, by rw [World.frozen?_setCell]; exact hf⟩, HB.out.setCell (p := ⟨w.heap.size, 0, none⟩) (Nat.le_refl _) _⟩
    rw [World.cell?_setCell_same' _ _ _ (by rw [hc]; rfl)]
    simp
  case done =>
    rintro D ys W hD rfl ⟨⟨hc, hf⟩, hB⟩ hK
    have HB := Lib.hid hB
    clear hB k0 f0 c1 c2
    go_wp2_with fail
    refine ⟨by simp, .inl ⟨_, _, rfl, run_takeDeferred hK, ?_⟩⟩
    exact ⟨_, results_tmp rfl _ _ _, rfl, HB.out.trans (belowK_b (w := w1) (by omega) W D _ _ hD hK rfl rfl)⟩

/-- where a character of a number begins -/
def placeC (s : ByteArray) (b : Bool) (q : Nat) : Nat := match (chars s b 0)[q]? with
  | some x => x.1
  | none => s.size
/-- the place at which Sub begins -/
def loF (n : Nat) : List (Nat × Nat) → Nat := List.foldl (fun lo x => if lo = n then x.1 else lo) n
theorem loF_snoc (n : Nat) (pre : List (Nat × Nat)) (x : Nat × Nat) : loF n (pre ++ [x]) = if loF n pre = n then x.1 else loF n pre := by
  unfold loF
  rw [List.foldl_append]
  rfl
theorem loF_cons (n a c : Nat) (l : List (Nat × Nat)) (h : a ≠ n) : loF n ((a, c) :: l) = a := by
  have : ∀ l : List (Nat × Nat), List.foldl (fun lo (x : Nat × Nat) => if lo = n then x.1 else lo) a l = a := by
    intro l
    induction l with
    | nil => rfl
    | cons x l ih => simp only [List.foldl_cons, if_neg h]; exact ih
  show List.foldl _ (if n = n then a else n) l = a
  rw [if_pos rfl]
  exact this l
theorem chars_at (s : ByteArray) (b : Bool) : ∀ (n m : Nat), s.size - m ≤ n → ∀ x ∈ chars s b m, m ≤ x.1 ∧ x.1 < s.size := by
  intro n
  induction n with
  | zero => intro m h x hx; rw [chars_end (by omega)] at hx; cases hx
  | succ n ih =>
    intro m h x hx
    rcases Nat.lt_or_ge m s.size with h' | h'
    · have hw := nxt_width b h'
      rw [chars_step h'] at hx
      rcases List.mem_cons.1 hx with rfl | hx
      · exact ⟨Nat.le_refl _, h'⟩
      · have := ih (m + (nxt s m b).2) (by omega) x hx
        omega
    · rw [chars_end h'] at hx; cases hx

/-- the cells that Sub reads and writes -/
structure SubC (p0 p1 p2 B1 B2 B3 : Nat) (s : ByteArray) (q lo hi k : Nat) (W : World) : Prop where
  c0 : W.cell? ⟨p0, 0, none⟩ = some (.string s)
  c1 : W.cell? ⟨p1, 0, none⟩ = some (.int .i64 1)
  c2 : W.cell? ⟨p2, 0, none⟩ = some (.int .i64 ((q : Int) + 1))
  d1 : W.cell? ⟨B1, 0, none⟩ = some (.int .i64 (lo : Nat))
  d2 : W.cell? ⟨B2, 0, none⟩ = some (.int .i64 (hi : Nat))
  d3 : W.cell? ⟨B3, 0, none⟩ = some (.int .i64 (k : Nat))
  f1 : W.frozen? ⟨B1, 0, none⟩ = false
  f2 : W.frozen? ⟨B2, 0, none⟩ = false
  f3 : W.frozen? ⟨B3, 0, none⟩ = false
section
variable {p0 p1 p2 B1 B2 B3 : Nat} {s : ByteArray} {q lo hi k : Nat} {W : World}
theorem cell_far {W : World} {B C : Nat} {u v : Value} (h : W.cell? ⟨B, 0, none⟩ = some v) (hne : B ≠ C) : (W.setCell ⟨C, 0, none⟩ u).cell? ⟨B, 0, none⟩ = some v := (World.cell?_setCell_far _ ⟨C, 0, none⟩ ⟨B, 0, none⟩ _ (by first | exact hne | exact hne.symm)).trans h
theorem cell_near {W : World} {B : Nat} {u v : Value} (h : W.cell? ⟨B, 0, none⟩ = some v) : (W.setCell ⟨B, 0, none⟩ u).cell? ⟨B, 0, none⟩ = some u := World.cell?_setCell_same' _ _ _ (by rw [h]; rfl)
theorem SubC.set1 (h : SubC p0 p1 p2 B1 B2 B3 s q lo hi k W) (a0 : p0 ≠ B1) (a1 : p1 ≠ B1) (a2 : p2 ≠ B1) (a3 : B2 ≠ B1) (a4 : B3 ≠ B1) (v : Nat) : SubC p0 p1 p2 B1 B2 B3 s q v hi k (W.setCell ⟨B1, 0, none⟩ (.int .i64 (v : Nat))) :=
  ⟨cell_far h.c0 a0, cell_far h.c1 a1, cell_far h.c2 a2, cell_near h.d1, cell_far h.d2 a3, cell_far h.d3 a4, by rw [World.frozen?_setCell]; exact h.f1, by rw [World.frozen?_setCell]; exact h.f2, by rw [World.frozen?_setCell]; exact h.f3⟩
theorem SubC.set2 (h : SubC p0 p1 p2 B1 B2 B3 s q lo hi k W) (a0 : p0 ≠ B2) (a1 : p1 ≠ B2) (a2 : p2 ≠ B2) (a3 : B1 ≠ B2) (a4 : B3 ≠ B2) (v : Nat) : SubC p0 p1 p2 B1 B2 B3 s q lo v k (W.setCell ⟨B2, 0, none⟩ (.int .i64 (v : Nat))) :=
  ⟨cell_far h.c0 a0, cell_far h.c1 a1, cell_far h.c2 a2, cell_far h.d1 a3, cell_near h.d2, cell_far h.d3 a4, by rw [World.frozen?_setCell]; exact h.f1, by rw [World.frozen?_setCell]; exact h.f2, by rw [World.frozen?_setCell]; exact h.f3⟩
theorem SubC.set3 (h : SubC p0 p1 p2 B1 B2 B3 s q lo hi k W) (a0 : p0 ≠ B3) (a1 : p1 ≠ B3) (a2 : p2 ≠ B3) (a3 : B1 ≠ B3) (a4 : B2 ≠ B3) (v : Nat) (x : Int) (hx : x = (v : Int)) : SubC p0 p1 p2 B1 B2 B3 s q lo hi v (W.setCell ⟨B3, 0, none⟩ (.int .i64 x)) := by
  subst hx
  exact ⟨cell_far h.c0 a0, cell_far h.c1 a1, cell_far h.c2 a2, cell_far h.d1 a3, cell_far h.d2 a4, cell_near h.d3, by rw [World.frozen?_setCell]; exact h.f1, by rw [World.frozen?_setCell]; exact h.f2, by rw [World.frozen?_setCell]; exact h.f3⟩
theorem SubC.own {α : Type} (lo hi k : α → Nat) : Own (fun (x : α) W => SubC p0 p1 p2 B1 B2 B3 s q (lo x) (hi x) (k x) W) := fun x A B row hs hg hr =>
  ⟨cell_kept hs.c0 hg hr, cell_kept hs.c1 hg hr, cell_kept hs.c2 hg hr, cell_kept hs.d1 hg hr, cell_kept hs.d2 hg hr, cell_kept hs.d3 hg hr, (frozen_kept hs.d1 hg hr).trans hs.f1, (frozen_kept hs.d2 hg hr).trans hs.f2, (frozen_kept hs.d3 hg hr).trans hs.f3⟩
end
theorem chars_lo (s : ByteArray) (b : Bool) {pre : List (Nat × Nat)} (hp : pre <+: chars s b 0) (h : pre ≠ [] ∨ chars s b 0 = []) : loF s.size pre = 0 ∨ (pre = [] ∧ s.size = 0) := by
  cases pre with
  | nil =>
    refine .inr ⟨rfl, ?_⟩
    rcases h with h | h
    · exact absurd rfl h
    · rcases Nat.eq_zero_or_pos s.size with h' | h'
      · exact h'
      · rw [chars_step h'] at h; cases h
  | cons x l =>
    obtain ⟨r, hr⟩ := hp
    have hs : 0 < s.size := by
      rcases Nat.eq_zero_or_pos s.size with h' | h'
      · rw [chars_end (by omega)] at hr; cases hr
      · exact h'
    rw [chars_step hs] at hr
    obtain ⟨x1, x2⟩ := x
    have e : x1 = 0 := by
      have := (List.cons.inj hr).1
      exact congrArg Prod.fst this
    subst e
    exact .inl (loF_cons _ _ _ _ (by omega))
theorem loF_zero (s : ByteArray) (b : Bool) {pre : List (Nat × Nat)} (hp : pre <+: chars s b 0) (h : pre ≠ [] ∨ chars s b 0 = []) : loF s.size pre = 0 := by
  rcases chars_lo s b hp h with h1 | ⟨rfl, h1⟩
  · exact h1
  · exact h1

set_option maxHeartbeats 4000000 in
set_option maxRecDepth 100000 in
theorem USub_any (s : ByteArray) (q : Nat) (b : Bool) (w : World) (hq : q ≤ 1000000) (hs : s.size ≤ 140737488351232) (hU : U8Ok w) :
    Calls Tryz.prog 184 #[.string s, .int .i64 1, .int .i64 ((q : Int) + 1), .bool b] w fun e w' => e = .returned (.string (s.extract 0 (placeC s b q))) ∧ Below w.heap.size w w' := by
  have HU := Lib.hid hU
  have hu1 := hU.lt1
  have hu2 := hU.lt2
  clear hU
  refine (callsIn_wide (n := 9)).1 ?_
  refine callsIn_of_wp_marks Tryz.func184 rfl trivial ?_ rfl
  simp only [Tryz.ntmps184, List.size_toArray, List.length_cons, List.length_nil, Nat.reduceAdd, Nat.reduceSub, Array.replicate_succ, Array.replicate_zero, List.push_toArray, List.append_toArray, List.nil_append, List.cons_append]
  refine wpIn_wide.2 ?_
  go_wp2_with fail
  have g0 : (((w.alloc (.cells #[.string s] 9)).alloc (.cells #[.int .i64 1] 3)).alloc (.cells #[.int .i64 ((q : Int) + 1)] 3)).cell? ⟨w.heap.size, 0, none⟩ = some (.string s) := by simp [go_sem]
  have g1 : (((w.alloc (.cells #[.string s] 9)).alloc (.cells #[.int .i64 1] 3)).alloc (.cells #[.int .i64 ((q : Int) + 1)] 3)).cell? ⟨w.heap.size + 1, 0, none⟩ = some (.int .i64 1) := by simp [go_sem]
  have g2 : (((w.alloc (.cells #[.string s] 9)).alloc (.cells #[.int .i64 1] 3)).alloc (.cells #[.int .i64 ((q : Int) + 1)] 3)).cell? ⟨w.heap.size + 2, 0, none⟩ = some (.int .i64 ((q : Int) + 1)) := by simp [go_sem]
  have hb0 : Below w.heap.size w (((w.alloc (.cells #[.string s] 9)).alloc (.cells #[.int .i64 1] 3)).alloc (.cells #[.int .i64 ((q : Int) + 1)] 3)) := (((Below.refl _ w).alloc (Nat.le_refl _) _).alloc (by simp) _).alloc (by simp; omega) _
  have hz0 : (((w.alloc (.cells #[.string s] 9)).alloc (.cells #[.int .i64 1] 3)).alloc (.cells #[.int .i64 ((q : Int) + 1)] 3)).heap.size = w.heap.size + 3 := by simp
  generalize hW0 : World.alloc _ _ = W0 at *
  have HB0 := Lib.hid hb0
  clear hW0 hb0
  refine wp_region_steps (by kernel_rfl) (by kernel_rfl) (by kernel_rfl) (fun a0 V0 L a W => ∃ (u9 u10 u11 u13 u14 u15 u16 : Value) (B1 B2 B3 : Nat), a = { tmps := (((((((a0.tmps.setIfInBounds 9 u9).setIfInBounds 10 u10).setIfInBounds 11 u11).setIfInBounds 13 u13).setIfInBounds 14 u14).setIfInBounds 15 u15).setIfInBounds 16 u16), defers := a0.defers } ∧
    Hid (Inv3 V0 W 3 (L 4) (L 5) (L 6) (L 7) (L 8) (L 9) u9 u10 u11 #[.int .i64 0] #[.int .i64 (s.size : Nat)] #[.int .i64 (s.size : Nat)] #[.int .i64 1] B1 B2 B3) ∧
    Hid (L 0 = true → u13 = .string s) ∧ Hid (L 1 = true → u14 = .int .i64 (s.size : Nat)) ∧ Hid (L 2 = true → u15 = .string s) ∧ Hid (L 3 = true → u16 = .int .i64 (s.size : Nat))) ?h0 ?hstep ?hdone
  case h0 =>
    refine ⟨undef, undef, undef, undef, undef, undef, undef, 0, 0, 0, ?_, Inv3.start _ _ _ _ _ _ _ _ _, fun h => (by cases h), fun h => (by cases h), fun h => (by cases h), fun h => (by cases h)⟩
    simp only [List.setIfInBounds_toArray, List.set_cons_zero, List.set_cons_succ]
  case hstep =>
    refine ⟨?o0, ?o1, ?o2, ?o3, ?o4, ?o5, ?o6, ?o7, ?o8, ?o9, trivial⟩
    case o0 =>
      rintro L a' W ⟨u9, u10, u11, u13, u14, u15, u16, B1, B2, B3, rfl, HI, E0, E1, E2, E3⟩ hL hd K hK
      have k0 : W.cell? ⟨w.heap.size, 0, none⟩ = some (.string s) := cellNext HI.out.below g0
      simp only [List.setIfInBounds_toArray, List.set_cons_zero, List.set_cons_succ]
      go_simp
      refine hK _ _ ⟨u9, u10, u11, .string s, u14, u15, u16, B1, B2, B3, ?_, HI, fun _ => rfl, E1.out, E2.out, E3.out⟩
      simp only [List.setIfInBounds_toArray, List.set_cons_zero, List.set_cons_succ]
    case o1 =>
      rintro L a' W ⟨u9, u10, u11, u13, u14, u15, u16, B1, B2, B3, rfl, HI, E0, E1, E2, E3⟩ hL hd K hK
      have d0 : L 0 = true := hd 0 (List.elem_iff.1 (by kernel_rfl))
      obtain rfl := E0.out d0
      simp only [List.setIfInBounds_toArray, List.set_cons_zero, List.set_cons_succ]
      go_simp
      refine hK _ _ ⟨u9, u10, u11, .string s, .int .i64 (s.size : Nat), u15, u16, B1, B2, B3, ?_, HI, E0.out, fun _ => rfl, E2.out, E3.out⟩
      simp only [List.setIfInBounds_toArray, List.set_cons_zero, List.set_cons_succ]
    case o2 =>
      rintro L a' W ⟨u9, u10, u11, u13, u14, u15, u16, B1, B2, B3, rfl, HI, E0, E1, E2, E3⟩ hL hd K hK
      have k0 : W.cell? ⟨w.heap.size, 0, none⟩ = some (.string s) := cellNext HI.out.below g0
      simp only [List.setIfInBounds_toArray, List.set_cons_zero, List.set_cons_succ]
      go_simp
      refine hK _ _ ⟨u9, u10, u11, u13, u14, .string s, u16, B1, B2, B3, ?_, HI, E0.out, E1.out, fun _ => rfl, E3.out⟩
      simp only [List.setIfInBounds_toArray, List.set_cons_zero, List.set_cons_succ]
    case o3 =>
      rintro L a' W ⟨u9, u10, u11, u13, u14, u15, u16, B1, B2, B3, rfl, HI, E0, E1, E2, E3⟩ hL hd K hK
      have d2 : L 2 = true := hd 2 (List.elem_iff.1 (by kernel_rfl))
      obtain rfl := E2.out d2
      simp only [List.setIfInBounds_toArray, List.set_cons_zero, List.set_cons_succ]
      go_simp
      refine hK _ _ ⟨u9, u10, u11, u13, u14, .string s, .int .i64 (s.size : Nat), B1, B2, B3, ?_, HI, E0.out, E1.out, E2.out, fun _ => rfl⟩
      simp only [List.setIfInBounds_toArray, List.set_cons_zero, List.set_cons_succ]
    case o4 =>
      rintro L a' W ⟨u9, u10, u11, u13, u14, u15, u16, B1, B2, B3, rfl, HI, E0, E1, E2, E3⟩ hL hd K hK
      rw [hL] at HI
      simp only [List.setIfInBounds_toArray, List.set_cons_zero, List.set_cons_succ]
      go_simp
      refine hK _ _ ⟨.pointer (some ⟨W.heap.size, 0, none⟩), u10, u11, u13, u14, u15, u16, W.heap.size, B2, B3, ?_, HI.out.alloc1, E0.out, E1.out, E2.out, E3.out⟩
      simp only [List.setIfInBounds_toArray, List.set_cons_zero, List.set_cons_succ]
    case o5 =>
      rintro L a' W ⟨u9, u10, u11, u13, u14, u15, u16, B1, B2, B3, rfl, HI, E0, E1, E2, E3⟩ hL hd K hK
      rw [hL] at HI
      simp only [List.setIfInBounds_toArray, List.set_cons_zero, List.set_cons_succ]
      go_simp
      refine hK _ _ ⟨u9, .pointer (some ⟨W.heap.size, 0, none⟩), u11, u13, u14, u15, u16, B1, W.heap.size, B3, ?_, HI.out.alloc2, E0.out, E1.out, E2.out, E3.out⟩
      simp only [List.setIfInBounds_toArray, List.set_cons_zero, List.set_cons_succ]
    case o6 =>
      rintro L a' W ⟨u9, u10, u11, u13, u14, u15, u16, B1, B2, B3, rfl, HI, E0, E1, E2, E3⟩ hL hd K hK
      rw [hL] at HI
      simp only [List.setIfInBounds_toArray, List.set_cons_zero, List.set_cons_succ]
      go_simp
      refine hK _ _ ⟨u9, u10, .pointer (some ⟨W.heap.size, 0, none⟩), u13, u14, u15, u16, B1, B2, W.heap.size, ?_, HI.out.alloc3, E0.out, E1.out, E2.out, E3.out⟩
      simp only [List.setIfInBounds_toArray, List.set_cons_zero, List.set_cons_succ]
    case o7 =>
      rintro L a' W ⟨u9, u10, u11, u13, u14, u15, u16, B1, B2, B3, rfl, HI, E0, E1, E2, E3⟩ hL hd K hK
      have d4 : L 4 = true := hd 4 (List.elem_iff.1 (by kernel_rfl))
      have d5 : L 5 = true := hd 5 (List.elem_iff.1 (by kernel_rfl))
      have d6 : L 6 = true := hd 6 (List.elem_iff.1 (by kernel_rfl))
      have d1 : L 1 = true := hd 1 (List.elem_iff.1 (by kernel_rfl))
      obtain rfl := E1.out d1
      rw [d4, d5, d6, hL] at HI
      have h1 := Blk.raw HI.out.b1
      have hu := h1.1
      have hB := h1.2.1
      have hh := h1.2.2
      clear h1
      subst hu
      have kc : W.cell? ⟨B1, 0, none⟩ = some (.int .i64 0) := by rw [Lib.cell_of_heap hh]; rfl
      have kf : W.frozen? ⟨B1, 0, none⟩ = false := Lib.frozen_of_heap hh 0
      simp only [List.setIfInBounds_toArray, List.set_cons_zero, List.set_cons_succ]
      go_simp
      refine hK _ _ ⟨.pointer (some ⟨B1, 0, none⟩), u10, u11, u13, .int .i64 (s.size : Nat), u15, u16, B1, B2, B3, ?_, ?_, E0.out, E1.out, E2.out, E3.out⟩
      · simp only [List.setIfInBounds_toArray, List.set_cons_zero, List.set_cons_succ]
      have h := HI.out.store1 (turned_one hh _)
      show Inv3 _ _ _ (L 4) (L 5) (L 6) _ _ _ _ _ _ _ _ _ _ _ _ _
      rw [d4, d5, d6]
      exact h
    case o8 =>
      rintro L a' W ⟨u9, u10, u11, u13, u14, u15, u16, B1, B2, B3, rfl, HI, E0, E1, E2, E3⟩ hL hd K hK
      have d4 : L 4 = true := hd 4 (List.elem_iff.1 (by kernel_rfl))
      have d5 : L 5 = true := hd 5 (List.elem_iff.1 (by kernel_rfl))
      have d6 : L 6 = true := hd 6 (List.elem_iff.1 (by kernel_rfl))
      have d3 : L 3 = true := hd 3 (List.elem_iff.1 (by kernel_rfl))
      obtain rfl := E3.out d3
      rw [d4, d5, d6, hL] at HI
      have h1 := Blk.raw HI.out.b2
      have hu := h1.1
      have hB := h1.2.1
      have hh := h1.2.2
      clear h1
      subst hu
      have kc : W.cell? ⟨B2, 0, none⟩ = some (.int .i64 0) := by rw [Lib.cell_of_heap hh]; rfl
      have kf : W.frozen? ⟨B2, 0, none⟩ = false := Lib.frozen_of_heap hh 0
      simp only [List.setIfInBounds_toArray, List.set_cons_zero, List.set_cons_succ]
      go_simp
      refine hK _ _ ⟨u9, .pointer (some ⟨B2, 0, none⟩), u11, u13, u14, u15, .int .i64 (s.size : Nat), B1, B2, B3, ?_, ?_, E0.out, E1.out, E2.out, E3.out⟩
      · simp only [List.setIfInBounds_toArray, List.set_cons_zero, List.set_cons_succ]
      have h := HI.out.store2 (turned_one hh _)
      show Inv3 _ _ _ (L 4) (L 5) (L 6) _ _ _ _ _ _ _ _ _ _ _ _ _
      rw [d4, d5, d6]
      exact h
    case o9 =>
      rintro L a' W ⟨u9, u10, u11, u13, u14, u15, u16, B1, B2, B3, rfl, HI, E0, E1, E2, E3⟩ hL hd K hK
      have d4 : L 4 = true := hd 4 (List.elem_iff.1 (by kernel_rfl))
      have d5 : L 5 = true := hd 5 (List.elem_iff.1 (by kernel_rfl))
      have d6 : L 6 = true := hd 6 (List.elem_iff.1 (by kernel_rfl))
      rw [d4, d5, d6, hL] at HI
      have h1 := Blk.raw HI.out.b3
      have hu := h1.1
      have hB := h1.2.1
      have hh := h1.2.2
      clear h1
      subst hu
      have kc : W.cell? ⟨B3, 0, none⟩ = some (.int .i64 0) := by rw [Lib.cell_of_heap hh]; rfl
      have kf : W.frozen? ⟨B3, 0, none⟩ = false := Lib.frozen_of_heap hh 0
      simp only [List.setIfInBounds_toArray, List.set_cons_zero, List.set_cons_succ]
      go_simp
      refine hK _ _ ⟨u9, u10, .pointer (some ⟨B3, 0, none⟩), u13, u14, u15, u16, B1, B2, B3, ?_, ?_, E0.out, E1.out, E2.out, E3.out⟩
      · simp only [List.setIfInBounds_toArray, List.set_cons_zero, List.set_cons_succ]
      have h := HI.out.store3 (turned_one hh _)
      show Inv3 _ _ _ (L 4) (L 5) (L 6) _ _ _ _ _ _ _ _ _ _ _ _ _
      rw [d4, d5, d6]
      exact h
  case hdone =>
    rintro L a' W1 hall ⟨u9, u10, u11, u13, u14, u15, u16, B1, B2, B3, rfl, HI, E0, E1, E2, E3⟩
    rw [hall 4 (by decide), hall 5 (by decide), hall 6 (by decide), hall 7 (by decide), hall 8 (by decide), hall 9 (by decide)] at HI
    obtain ⟨rfl, hB1, hh1⟩ := HI.out.b1.full
    obtain ⟨rfl, hB2, hh2⟩ := HI.out.b2.full
    obtain ⟨rfl, hB3, hh3⟩ := HI.out.b3.full
    have d12 := HI.out.d12 rfl rfl
    have d13 := HI.out.d13 rfl rfl
    have d23 := HI.out.d23 rfl rfl
    simp only [List.setIfInBounds_toArray, List.set_cons_zero, List.set_cons_succ]
    rename_i Q' K hKK
    have HBw : Hid (Below w.heap.size w W1) := HB0.out.trans (HI.out.below.mono (by omega))
    have hbz := HI.out.below.size
    have k0 : W1.cell? ⟨w.heap.size, 0, none⟩ = some (.string s) := cellNext HI.out.below g0
    have k1 : W1.cell? ⟨w.heap.size + 1, 0, none⟩ = some (.int .i64 1) := cellNext HI.out.below g1
    have k2 : W1.cell? ⟨w.heap.size + 2, 0, none⟩ = some (.int .i64 ((q : Int) + 1)) := cellNext HI.out.below g2
    have HS : Hid (SubC w.heap.size (w.heap.size + 1) (w.heap.size + 2) B1 B2 B3 s q s.size s.size 1 W1) :=
      ⟨k0, k1, k2, by rw [Lib.cell_of_heap hh1]; rfl, by rw [Lib.cell_of_heap hh2]; rfl, by rw [Lib.cell_of_heap hh3]; rfl, Lib.frozen_of_heap hh1 0, Lib.frozen_of_heap hh2 0, Lib.frozen_of_heap hh3 0⟩
    have hl1 := lt_of_heap hh1
    have hl2 := lt_of_heap hh2
    have hl3 := lt_of_heap hh3
    refine hKK _ _ ?_
    clear hKK hall HI E0 E1 E2 E3 g0 g1 g2 hh1 hh2 hh3 HB0 k1 k2
    go_wp2_with fail
    refine (UAll_any s b _).mono ?_
    rintro e w1 ⟨rfl, hw1⟩
    have e1 : w1.heap.size = W1.heap.size + 2 := by rw [hw1]; simp
    have hb1 : Below W1.heap.size W1 w1 := by rw [hw1]; exact ((Below.refl _ W1).alloc (Nat.le_refl _) _).alloc (by simp) _
    have c1 : w1.cell? ⟨W1.heap.size, 0, none⟩ = some (.string s) := by rw [hw1]; simp [go_sem]
    have c2 : w1.cell? ⟨W1.heap.size + 1, 0, none⟩ = some (.bool b) := by rw [hw1]; simp [go_sem]
    have HS1 : Hid (SubC w.heap.size (w.heap.size + 1) (w.heap.size + 2) B1 B2 B3 s q s.size s.size 1 w1) := by
      have h := HS.out
      exact ⟨cellNext hb1 h.c0, cellNext hb1 h.c1, cellNext hb1 h.c2, cellNext hb1 h.d1, cellNext hb1 h.d2, cellNext hb1 h.d3, (hb1.frozen (p := ⟨B1, 0, none⟩) hl1).trans h.f1, (hb1.frozen (p := ⟨B2, 0, none⟩) hl2).trans h.f2, (hb1.frozen (p := ⟨B3, 0, none⟩) hl3).trans h.f3⟩
    have HBw1 : Hid (Below w.heap.size w w1) := HBw.out.trans (hb1.mono (by omega))
    have hU1 : U8Ok w1 := HU.out.below HBw1.out
    clear hw1 HS HBw k0
    go_wp2_with fail
    refine (wpIn_wide (n := 9)).1 ?_
    refine wpIn_rangeFunc_ownF (α := Nat × Nat) (encs := fun x => #[Value.int .i64 (x.1 : Int), Value.int .i64 (x.2 : Int)]) rfl (by decide) (gf := 237) (lb := #[.pointer (some ⟨W1.heap.size, 0, none⟩), .pointer (some ⟨W1.heap.size + 1, 0, none⟩)]) rfl trivial (enters_of Tryz.func237 (by kernel_rfl) rfl)
      (all_stops 8 W1.heap.size (W1.heap.size + 1) w.heap.size s b (by decide) hs w1 (by omega) (by omega) (by omega) (by omega) (by omega) c1 c2 hU1)
      (fun h k => KpU.trans h k) (fun W l o o' => KpU.put (by omega) (by omega) (by omega) W l o o') (Below.refl _ _) (fun _ => rfl)
      (fun pre W => SubC w.heap.size (w.heap.size + 1) (w.heap.size + 2) B1 B2 B3 s q (loF s.size pre) s.size (pre.length + 1) W ∧ Below w.heap.size w W ∧ pre.length ≤ q)
      (fun c pre W => SubC w.heap.size (w.heap.size + 1) (w.heap.size + 2) B1 B2 B3 s q (loF s.size pre) ((pre.getLast?.map (·.1)).getD 0) pre.length W ∧ Below w.heap.size w W ∧ (pre.length = q + 1 ∧ c = .exit 0))
      (OwnFrom.and (Own.from (SubC.own _ _ _) _) (OwnFrom.and (ownFrom_below (Nat.le_refl _) (by omega)) (fun _ _ _ _ h _ _ => h)))
      (fun c => OwnFrom.and (Own.from (SubC.own _ _ _) _) (OwnFrom.and (ownFrom_below (Nat.le_refl _) (by omega)) (fun _ _ _ _ h _ _ => h)))
      ⟨HS1.out, HBw1.out, Nat.zero_le _⟩
      (fun x => { tmps := #[.string s, .int .i64 1, .int .i64 ((q : Int) + 1), .bool b, .pointer (some ⟨w.heap.size, 0, none⟩), .pointer (some ⟨w.heap.size + 1, 0, none⟩), .pointer (some ⟨w.heap.size + 1 + 1, 0, none⟩), undef, .string ⟨#[]⟩, .pointer (some ⟨B1, 0, none⟩), .pointer (some ⟨B2, 0, none⟩), .pointer (some ⟨B3, 0, none⟩), .int .i64 (x.1 : Int), u13, u14, u15, u16, .string s, .bool b, .func (.func 237) #[] #[.pointer (some ⟨W1.heap.size, 0, none⟩), .pointer (some ⟨W1.heap.size + 1, 0, none⟩)], .int .i64 (x.1 : Int), .int .i64 (x.2 : Int), undef, undef, undef, undef, undef, undef, undef, undef, undef, undef, undef, undef, undef, undef, undef, undef, undef, undef, undef, undef, undef, undef], defers := [] }) ?assign ?body ?done ?stop
    case assign =>
      intro l x W K hK
      gi_wp2
      simpa using hK
    case body =>
      rintro l pre x W ⟨hS, hB, hq1⟩ hlt
      obtain ⟨n, hn⟩ : ∃ n, n = s.size := ⟨_, rfl⟩
      have hlast : ((pre ++ [x]).getLast?.map (·.1)).getD 0 = x.1 := by simp
      have hlen : (pre ++ [x]).length = pre.length + 1 := by simp
      have HSn := loF_snoc s.size pre x
      have a1 : w.heap.size ≠ B1 := by omega
      have a2 : w.heap.size ≠ B2 := by omega
      have a3 : w.heap.size ≠ B3 := by omega
      have b1 : w.heap.size + 1 ≠ B1 := by omega
      have b2 : w.heap.size + 1 ≠ B2 := by omega
      have b3 : w.heap.size + 1 ≠ B3 := by omega
      have e1' : w.heap.size + 2 ≠ B1 := by omega
      have e2' : w.heap.size + 2 ≠ B2 := by omega
      have e3' : w.heap.size + 2 ≠ B3 := by omega
      have m1 : B1 ≠ W1.heap.size := by omega
      have m2 : B2 ≠ W1.heap.size := by omega
      have m3 : B3 ≠ W1.heap.size := by omega
      have n1 : B1 ≠ W1.heap.size + 1 := by omega
      have n2 : B2 ≠ W1.heap.size + 1 := by omega
      have n3 : B3 ≠ W1.heap.size + 1 := by omega
      obtain ⟨lo, hlo⟩ : ∃ lo, lo = loF s.size pre := ⟨_, rfl⟩
      obtain ⟨k, hk⟩ : ∃ k, k = pre.length + 1 := ⟨_, rfl⟩
      rw [← hlo, ← hk] at hS
      rw [← hlo] at HSn
      have hk1 : (1 : Int) ≤ (k : Nat) := by omega
      have hkq : (k : Int) ≤ 1000002 := by omega
      have HB := Lib.hid hB
      have HKL := Lib.hid hk
      have HQ1 := Lib.hid hq1
      have HL2 := Lib.hid hlast
      have HL3 := Lib.hid hlen
      have s0 := hS.c0
      have s1 := hS.c1
      have s2 := hS.c2
      have t1 := hS.d1
      have t2 := hS.d2
      have t3 := hS.d3
      have r1 := hS.f1
      have r2 := hS.f2
      have r3 := hS.f3
      have HS := Lib.hid hS
      have hn1 : w.heap.size ≤ B1 := by omega
      have hn2 : w.heap.size ≤ B2 := by omega
      have hn3 : w.heap.size ≤ B3 := by omega
      clear hB hlo hk hq1 hlast hlen hS c1 c2 HS1 HBw1 hlt
      by_cases hl : lo = s.size
      · have hlb : ((lo : Int) == (s.size : Int)) = true := by simp [hl]
        rw [if_pos hl] at HSn
        have HSN := Lib.hid HSn
        have HT : Hid (SubC w.heap.size (w.heap.size + 1) (w.heap.size + 2) B1 B2 B3 s q x.1 s.size k (W.setCell ⟨B1, 0, none⟩ (.int .i64 (x.1 : Nat)))) := HS.out.set1 a1 b1 e1' (Ne.symm d12) (Ne.symm d13) x.1
        have v0 := HT.out.c2
        have v3 := HT.out.d3
        have v5 := HT.out.d2
        have v2 := HT.out.f2
        have v4 := HT.out.f3
        clear hl HSn
        by_cases hkk : (q : Int) + 1 ≤ (k : Int)
        · gi_wp2
          refine ⟨?_, ?_, ?_, ?_, rfl⟩
          · exact (KeepsOthers.setCell _ _ _).trans (KeepsOthers.setCell _ _ _)
          · rw [HSN.out, HL2.out, HL3.out, ← HKL.out]
            exact HT.out.set2 a2 b2 e2' d12 (Ne.symm d23) x.1
          · exact (HB.out.setCell (p := ⟨B1, 0, none⟩) hn1 _).setCell (p := ⟨B2, 0, none⟩) hn2 _
          · rw [HL3.out]; have := HKL.out; have := HQ1.out; omega
        · have hkk' : (k : Int) < (q : Int) + 1 := by omega
          gi_wp2
          refine ⟨(KeepsOthers.setCell _ _ _).trans (KeepsOthers.setCell _ _ _), KpU.set (KpU.set (KpU.refl _ _ _ _) (p := ⟨B1, 0, none⟩) hn1 (Ne.symm m1) (Ne.symm n1) _) (p := ⟨B3, 0, none⟩) hn3 (Ne.symm m3) (Ne.symm n3) _, ?_, ?_, ?_⟩
          · rw [HSN.out, HL3.out, ← HKL.out]
            exact HT.out.set3 a3 b3 e3' d13 d23 (k + 1) _ (by omega)
          · exact (HB.out.setCell (p := ⟨B1, 0, none⟩) hn1 _).setCell (p := ⟨B3, 0, none⟩) hn3 _
          · rw [HL3.out]; have := HKL.out; omega
      · have hlb : ((lo : Int) == (s.size : Int)) = false := by simp; omega
        rw [if_neg hl] at HSn
        have HSN := Lib.hid HSn
        clear hl HSn
        by_cases hkk : (q : Int) + 1 ≤ (k : Int)
        · gi_wp2
          refine ⟨?_, ?_, ?_, ?_, rfl⟩
          · exact KeepsOthers.setCell _ _ _
          · rw [HSN.out, HL2.out, HL3.out, ← HKL.out]
            exact HS.out.set2 a2 b2 e2' d12 (Ne.symm d23) x.1
          · exact HB.out.setCell (p := ⟨B2, 0, none⟩) hn2 _
          · rw [HL3.out]; have := HKL.out; have := HQ1.out; omega
        · have hkk' : (k : Int) < (q : Int) + 1 := by omega
          gi_wp2
          refine ⟨KeepsOthers.setCell _ _ _, KpU.set (KpU.refl _ _ _ _) (p := ⟨B3, 0, none⟩) hn3 (Ne.symm m3) (Ne.symm n3) _, ?_, ?_, ?_⟩
          · rw [HSN.out, HL3.out, ← HKL.out]
            exact HS.out.set3 a3 b3 e3' d13 d23 (k + 1) _ (by omega)
          · exact HB.out.setCell (p := ⟨B3, 0, none⟩) hn3 _
          · rw [HL3.out]; have := HKL.out; omega
    case done =>
      rintro D ys W hD rfl ⟨hS, hB, hq1⟩ hK
      rw [loF_zero s b (List.prefix_refl _) (by by_cases h : chars s b 0 = []; exact .inr h; exact .inl h)] at hS
      have HP : Hid (s.extract 0 (placeC s b q) = s) := by
        show _ = _
        unfold placeC
        rw [List.getElem?_eq_none hq1]
        simp
      have s0 := hS.c0
      have t1 := hS.d1
      have t2 := hS.d2
      have HB := Lib.hid hB
      have hmin : min (0 : Int) (s.size : Int) = 0 := by omega
      clear hB hS hq1 c1 c2 HS1 HBw1
      go_wp2_with fail
      refine ⟨by simp, .inl ⟨_, _, rfl, run_takeDeferred hK, ?_⟩⟩
      rw [HP.out]
      exact ⟨_, results_tmp rfl _ _ _, rfl, HB.out.trans (belowK_b (w := w1) (by omega) W D _ _ hD hK rfl rfl)⟩
    case stop =>
      rintro D c pre W hD hpre ⟨hS, hB, hq1, rfl⟩ hK
      rw [loF_zero s b hpre (.inl (by rintro rfl; simp at hq1))] at hS
      obtain ⟨h, hh⟩ : ∃ h, h = (pre.getLast?.map (·.1)).getD 0 := ⟨_, rfl⟩
      rw [← hh] at hS
      have hpl : placeC s b q = h ∧ h ≤ s.size := by
        obtain ⟨r, hr⟩ := hpre
        have hg : pre.getLast? = pre[q]? := by rw [List.getLast?_eq_getElem?]; congr 1; omega
        have hx : pre[q]? = some pre[q] := List.getElem?_eq_getElem (by omega)
        have hc : (chars s b 0)[q]? = some pre[q] := by rw [← hr, List.getElem?_append_left (by omega)]; exact hx
        have hm := chars_at s b _ 0 (Nat.le_refl _) _ (List.mem_of_getElem? hc)
        unfold placeC
        rw [hc, hh, hg, hx]
        exact ⟨rfl, Nat.le_of_lt hm.2⟩
      have HP : Hid (s.extract 0 (placeC s b q) = s.extract 0 h) := by show _ = _; rw [hpl.1]
      have hle := hpl.2
      have s0 := hS.c0
      have t1 := hS.d1
      have t2 := hS.d2
      have HB := Lib.hid hB
      have hmin : min (0 : Int) (h : Int) = 0 := by omega
      have hhI : (h : Int) ≤ (s.size : Int) := by omega
      clear hB hS hq1 c1 c2 HS1 HBw1 hpl hh
      refine wpIn_wide.2 ?_
      go_wp2_with fail
      refine ⟨by simp, .inl ⟨_, _, rfl, run_takeDeferred hK, ?_⟩⟩
      rw [HP.out]
      exact ⟨_, results_tmp rfl _ _ _, rfl, HB.out.trans (belowK_b (w := w1) (by omega) W D _ _ hD hK rfl rfl)⟩
end Go.Proofs.YtcmpdamfeoaapaaGreatDoor
end

section
/- Package format: by, of a pattern that is one part. -/
namespace Go.Proofs.YtcmpdamfeoaapaaGreatDoor
open Go.RowKit
set_option linter.unusedVariables false

theorem owns_below {B : Nat} {e : TypeId} {k n : Nat} {v : Value} {xs : List Value} {w w' : World} (h : w.ownsRow B e k v n xs) (hb : Below w.heap.size w w') : w'.ownsRow B e k v n xs := by
  refine ⟨h.1, ?_⟩
  rcases h.2 with hn | ⟨g, cap, cur, rfl, hbg, hgg, rest⟩
  · exact .inl hn
  · refine .inr ⟨g, cap, cur, rfl, hbg, ?_, rest⟩
    rw [hb.block g (Array.getElem?_eq_some_iff.1 hgg).1]
    exact hgg
theorem builder_below {T e : TypeId} {B b : Nat} {p : Value} {bs : List Value} {w w' : World} (h : Lib.BuilderAt T e B b p bs w) (hb : Below w.heap.size w w') : Lib.BuilderAt T e B b p bs w' := by
  have hlt := h.lt
  obtain ⟨hB, v, hbk, hown, hne⟩ := h
  exact ⟨hB, v, (hb.block b hlt).trans hbk, owns_below hown hb, hne⟩
theorem isBuilder_below {T e : TypeId} {B b : Nat} {bs : List Value} {w w' : World} (h : Lib.IsBuilder T e B b bs w) (hb : Below w.heap.size w w') : Lib.IsBuilder T e B b bs w' := by
  rcases h with h | h
  · exact .inl (builder_below h hb)
  · exact .inr (builder_below h hb)


set_option maxHeartbeats 8000000 in
set_option maxRecDepth 1000000 in
/-- by, of a pattern that is one part for a number -/
theorem by_one (pat : ByteArray) (x : Nat) (m p bl a z : Bool) (wd pr : Int) (vb : Nat) (L : List UInt8) (w : World) (hs : pat.size ≤ 1000) (h0 : 0 < pat.size) (hE : ErrOk w) (hc : ch pat 0 = 37)
    (hA : parseA pat 0 = pieceA m p bl a z wd pr vb false false pat.size) (hQ : parseE pat 0 = 0) (hv : vb ≠ 37)
    (hN : ∀ W, Calls Tryz.prog 21 #[.agg (specA m p bl a z wd pr vb), .float .f64 x] W fun e w' => e = .returned (.tuple #[.string ⟨L.toArray⟩, .int .i64 0]) ∧ Below W.heap.size W w') (hL : L.length ≤ 1000000) :
    Calls Tryz.prog 107 #[.float .f64 x, .string pat] w fun e w' => e = .returned (.tuple #[.string ⟨L.toArray⟩, .bool true]) ∧ Below w.heap.size w w' := by
  have HP := Lib.hid (fun W h => FParse_any pat 0 W (by omega) h)
  rw [hA, hQ] at HP
  have HE := Lib.hid hE
  have hp0 : (pat[0]'h0).toNat = 37 := by rw [ch_in h0]; exact hc
  have hvn : ((vb : Int) == 37) = false := by simp; omega
  have HNm := Lib.hid hN
  unfold specA at HNm
  unfold pieceA at HP
  have HLl := Lib.hid hL
  obtain ⟨T, hT⟩ : ∃ T : ByteArray, T = ⟨L.toArray⟩ := ⟨_, rfl⟩
  rw [← hT] at HNm ⊢
  have HT := Lib.hid hT
  have hTs : T.size ≤ 1000000 := by rw [sz_list, hT]; exact hL
  have hsI : (0 : Int) < (pat.size : Int) := by omega
  clear hA hQ hE hN hL hT hv hc
  go_enter Tryz.func107, Tryz.ntmps107
  go_wp2_with fail
  refine wp_loop_rounds 2 ?_
  rw [rounds_succ]
  go_wp2_with fail
  refine (HP.out _ (HE.out.below ((Below.refl _ _).alloc (Nat.le_refl _) _))).mono ?_
  rintro e w1 ⟨rfl, hb1⟩
  have HB1 := Lib.hid (((Below.refl w.heap.size w).alloc (Nat.le_refl _) (.cells #[.pointer none, .slice none 0 0] 106)).trans (hb1.mono (by simp)))
  have hz1 := hb1.size
  rw [World.size_alloc] at hz1
  have HBu1 : Hid (Lib.IsBuilder 106 5 w.heap.size w.heap.size (Lib.byteCells []) w1) := by
    show Lib.IsBuilder _ _ _ _ _ _
    refine isBuilder_below (.inl ⟨Nat.le_refl _, .slice none 0 0, heap_alloc_at w _, World.ownsRow_nil .., by simp [Value.ownBlock]⟩) hb1
  clear hb1
  go_wp2_with fail
  refine (HNm.out _).mono ?_
  rintro e w2 ⟨rfl, hb2⟩
  have hz2 := hb2.size
  rw [World.size_alloc] at hz2
  have hb12 : Below w1.heap.size w1 w2 := ((Below.refl w1.heap.size w1).alloc (Nat.le_refl _) _).trans (hb2.mono (by simp))
  have HB2 := Lib.hid (HB1.out.trans (hb12.mono (by omega)))
  have HBu2 := Lib.hid (isBuilder_below HBu1.out hb12)
  clear hb2 hb12
  go_wp2_with fail
  refine (WriteString_any w.heap.size w.heap.size (Lib.byteCells []) T w2 HBu2.out (by rw [Lib.byteCells_length]; show 0 + T.size ≤ _; omega) (by omega)).mono ?_
  rintro e w3 ⟨rfl, hbu3, hb3⟩
  have HB3 := Lib.hid (HB2.out.trans hb3)
  have HBu3 : Hid (Lib.IsBuilder 106 5 w.heap.size w.heap.size (Lib.byteCells T.data.toList) w3) := by
    show Lib.IsBuilder _ _ _ _ _ _
    rw [Lib.strCells_eq] at hbu3
    exact .inr hbu3
  have hz3 := HB3.out.size
  clear hb3 hbu3
  go_wp2_with fail
  rw [rounds_succ]
  go_wp2_with fail
  refine (Tryz.Builder_String_any w.heap.size w.heap.size T.data.toList w3 HBu3.out hz3).mono ?_
  rintro e w4 ⟨rfl, hb4⟩
  have HB4 := Lib.hid (HB3.out.trans hb4)
  clear hb4
  go_wp2_with fail
  go_ret2
  exact ⟨rfl, HB4.out⟩
end Go.Proofs.YtcmpdamfeoaapaaGreatDoor
end

section
/- Package num: numeral. -/
namespace Go.Proofs.YtcmpdamfeoaapaaGreatDoor
open Go.RowKit
set_option linter.unusedVariables false

/-- the digits, the power and the bytes of what stands ahead of the exponent -/
def mantL (l : List UInt8) : List UInt8 × Int × Nat :=
  match l.drop (lead l).length with
  | 46 :: r => if 0 < (lead l).length + (lead r).length then (lead l ++ lead r, -((lead r).length : Int), (lead l).length + 1 + (lead r).length) else (lead l, 0, (lead l).length)
  | _ => (lead l, 0, (lead l).length)
/-- how many bytes the letter and its sign take, and whether the sign is a minus -/
def signK : List UInt8 → Nat × Bool
  | _ :: 43 :: _ => (2, false)
  | _ :: 45 :: _ => (2, true)
  | _ => (1, false)
/-- the exponent and its bytes -/
def expL (q : List UInt8) : Int × Nat :=
  match q with
  | c :: _ => if c = 101 ∨ c = 69 then (if 0 < (lead (q.drop (signK q).1)).length then (powL (lead (q.drop (signK q).1)) (signK q).2, (signK q).1 + (lead (q.drop (signK q).1)).length) else (0, 0)) else (0, 0)
  | [] => (0, 0)
def numeralL (l : List UInt8) : List UInt8 × Int × Nat :=
  if (mantL l).1 = [] then ([], 0, 0) else ((mantL l).1, (mantL l).2.1 + (expL (l.drop (mantL l).2.2)).1, (mantL l).2.2 + (expL (l.drop (mantL l).2.2)).2)

theorem hasPrefix_one (l : List UInt8) (c : UInt8) : Lib.hasPrefix l [c] = (match l with | x :: _ => x == c | [] => false) := by
  cases l with
  | nil => rfl
  | cons x r =>
    show ([c].isPrefixOf (x :: r)) = (x == c)
    simp [List.isPrefixOf]
    exact BEq.comm
theorem at_list (q : ByteArray) (i : Nat) (h : i < q.size) (c : UInt8) (hl : q.data.toList[i]? = some c) : q[i]'h = c := by
  show q.data[i]'_ = c
  have h2 : i < q.data.size := h
  rw [Array.getElem?_toList, Array.getElem?_eq_getElem h2] at hl
  exact Option.some.inj hl
theorem ne_lit (c k : UInt8) (m : Int) (hm : (k.toNat : Int) = m) (h : c ≠ k) : ((c.toNat : Int) == m) = false :=
  beq_eq_false_iff_ne.2 fun h2 => h (UInt8.toNat_inj.1 (by omega))
theorem ret3 {a : ByteArray} {x y x' y' : Int} (hx : x = x') (hy : y = y') : Ending.returned (.tuple #[.string a, .int .i64 x, .int .i64 y]) = Ending.returned (.tuple #[.string a, .int .i64 x', .int .i64 y']) := by
  subst hx; subst hy; rfl
theorem signK_other (c c1 : UInt8) (r : List UInt8) (h1 : c1 ≠ 43) (h2 : c1 ≠ 45) : signK (c :: c1 :: r) = (1, false) := by
  unfold signK
  split
  · rename_i h; injection h with _ h; injection h with h _; exact absurd h h1
  · rename_i h; injection h with _ h; injection h with h _; exact absurd h h2
  · rfl
theorem mantL_dot {l r : List UInt8} (h : l.drop (lead l).length = 46 :: r) : mantL l = if 0 < (lead l).length + (lead r).length then (lead l ++ lead r, -((lead r).length : Int), (lead l).length + 1 + (lead r).length) else (lead l, 0, (lead l).length) := by
  unfold mantL; rw [h]; rfl
theorem mantL_plain {l : List UInt8} (h : ∀ r, l.drop (lead l).length ≠ 46 :: r) : mantL l = (lead l, 0, (lead l).length) := by
  unfold mantL
  split
  · rename_i r hr; exact absurd hr (h r)
  · rfl

set_option maxRecDepth 100000 in
set_option maxHeartbeats 8000000 in
theorem numeral_any (s : ByteArray) (w : World) (hs : s.size ≤ 140737488355328) :
    Calls Tryz.prog 48 #[.string s] w fun e w' => ∃ a : ByteArray, e = .returned (.tuple #[.string a, .int .i64 (numeralL s.data.toList).2.1, .int .i64 ((numeralL s.data.toList).2.2 : Nat)]) ∧ a.data.toList = (numeralL s.data.toList).1 ∧ Below w.heap.size w w' := by
  obtain ⟨A3, X3, Y3, hnum⟩ : ∃ A3 X3 Y3, numeralL s.data.toList = (A3, X3, Y3) := ⟨_, _, _, rfl⟩
  rw [hnum]
  simp only []
  have HNUM := Lib.hid hnum
  have HD0 := Lib.hid (fun W => digits_any s W hs)
  have hle := lead_le s.data.toList
  have hsz := size_list s
  obtain ⟨n, hn⟩ : ∃ n, n = (lead s.data.toList).length := ⟨_, rfl⟩
  rw [← hn] at HD0 hle
  obtain ⟨sz, hszd⟩ : ∃ z, z = s.size := ⟨_, rfl⟩
  have hsz1 : s.size = sz := hszd.symm
  have hns : n ≤ sz := by omega
  have hsz2 : sz ≤ 140737488355328 := by omega
  have HSL : Hid (s.data.toList.length = sz) := by show _ = _; omega
  have HT0 : Hid ((s.extract 0 n).data.toList = lead s.data.toList) := by show _ = _; rw [ext_list, Nat.sub_zero, List.drop_zero, hn, lead_take]
  have hTn : ∀ i, n ≤ i → Hid ((s.extract i sz).data.toList = s.data.toList.drop i) := by
    intro i hi
    show _ = _
    rw [ext_list]
    exact List.take_of_length_le (by rw [List.length_drop, HSL.out]; omega)
  have HP0 : Hid (∀ W, Calls Tryz.prog 47 #[.string (s.extract n sz), .string ⟨#[46]⟩] W fun e w' => e = .returned (.bool (Lib.hasPrefix (s.data.toList.drop n) [46])) ∧ w' = W) := by
    intro W
    have h := Tryz.strings_HasPrefix (s.extract n sz) ⟨#[46]⟩ W
    rw [(hTn n (Nat.le_refl _)).out] at h
    exact h
  have hcase : (∃ r, s.data.toList.drop n = 46 :: r ∧ 0 < n + (lead r).length) ∨ (∃ r, s.data.toList.drop n = 46 :: r ∧ ¬ 0 < n + (lead r).length) ∨ (∀ r, s.data.toList.drop n ≠ 46 :: r) := by
    cases h : s.data.toList.drop n with
    | nil => exact .inr (.inr fun r h2 => by cases h2)
    | cons c r =>
      by_cases hc : c = 46
      · subst hc
        by_cases h0 : 0 < n + (lead r).length
        · exact .inl ⟨r, rfl, h0⟩
        · exact .inr (.inl ⟨r, rfl, h0⟩)
      · exact .inr (.inr fun r' h2 => hc (by injection h2))
  have hnl : n = (lead s.data.toList).length := hn
  have HNL := Lib.hid hnl
  clear hn hle hsz hszd hs hnl hnum
  go_enter Tryz.func48, Tryz.ntmps48
  go_wp2_with fail
  refine (HD0.out w).mono ?_
  rintro e w1 ⟨rfl, hb1⟩
  have HB1 := Lib.hid hb1
  have hs1 := hb1.size
  clear hb1 HD0
  go_wp2_with fail
  refine (HP0.out w1).mono ?_
  rintro e w5 ⟨rfl, rfl⟩
  clear HP0
  rcases hcase with ⟨r, hr, h0⟩ | ⟨r, hr, h0⟩ | hr
  case' inl =>
    obtain ⟨k, hk⟩ : ∃ k, k = (lead r).length := ⟨_, rfl⟩
    rw [← hk] at h0
    have hE1 : (s.extract (n + 1) sz).data.toList = r := by
      rw [(hTn (n + 1) (by omega)).out, ← List.drop_drop, hr]; rfl
    have hrl : r.length + 1 + n = sz := by
      have h := congrArg List.length hr
      rw [List.length_drop, HSL.out] at h
      simp at h
      omega
    have hkr : k ≤ r.length := by rw [hk]; exact lead_le r
    have hes : (s.extract (n + 1) sz).size ≤ 140737488355328 := by rw [size_list, hE1]; omega
    have HDG := Lib.hid (fun W => digits_any (s.extract (n + 1) sz) W hes)
    rw [hE1, ← hk] at HDG
    have hpre : Lib.hasPrefix (s.data.toList.drop n) [46] = true := by rw [hr, hasPrefix_one]; rfl
    obtain ⟨p, hp⟩ : ∃ p, p = n + 1 + k := ⟨_, rfl⟩
    have hpk : p - (n + 1) = k := by omega
    obtain ⟨a, ha⟩ : ∃ a, a = s.extract 0 n ++ s.extract (n + 1) p := ⟨_, rfl⟩
    have hae0 : s.extract 0 n ++ s.extract (n + 1) p = a := ha.symm
    obtain ⟨A, hAd⟩ : ∃ A, A = lead s.data.toList ++ lead r := ⟨_, rfl⟩
    have HA : Hid (a.data.toList = A) := by
      show _ = _
      rw [ha, ByteArray.data_append, Array.toList_append, HT0.out, ext_list, hpk, ← List.drop_drop, hr, hAd, hk]
      congr 1
      exact lead_take r
    have ep : (n : Int) + 1 + k = (p : Int) := by omega
    obtain ⟨ex, hex⟩ : ∃ ex : Int, ex = -(k : Int) := ⟨_, rfl⟩
    have eex : -(k : Int) = ex := hex.symm
    have hexb : -140737488355328 ≤ ex ∧ ex ≤ 0 := by omega
    have hps : p ≤ sz := by omega
    have HM : Hid (mantL s.data.toList = (A, ex, p)) := by
      show _ = _
      have h := mantL_dot (l := s.data.toList) (r := r) (by rw [← HNL.out]; exact hr)
      rw [← HNL.out, ← hk, if_pos h0, ← hAd, ← hex, ← hp] at h
      exact h
    have h0' : 0 < (n : Int) + (k : Int) := by omega
    rw [hpre]
    clear hr hk hE1 hrl hes hpre ha hAd hTn HT0 HNL h0 hex hpk
    have hpn : p = n + 1 + k := hp
    have hpn1 : n + 1 ≤ p := by omega
    clear hp hpn
    go_wp2_with fail
    refine (HDG.out w5).mono ?_
    rintro e w2 ⟨rfl, hb2⟩
    have HB2 := Lib.hid (HB1.out.trans (hb2.mono hs1))
    have hs2 : w.heap.size ≤ w2.heap.size := by have := hb2.size; omega
    clear hb2 HDG HB1
  case' inr.inl =>
    have hn0 : n = 0 := by omega
    have hk : (lead r).length = 0 := by omega
    have hE1 : (s.extract (n + 1) sz).data.toList = r := by
      rw [(hTn (n + 1) (by omega)).out, ← List.drop_drop, hr]; rfl
    have hrl : r.length + 1 + n = sz := by
      have h := congrArg List.length hr
      rw [List.length_drop, HSL.out] at h
      simp at h
      omega
    have hes : (s.extract (n + 1) sz).size ≤ 140737488355328 := by rw [size_list, hE1]; omega
    have HDG := Lib.hid (fun W => digits_any (s.extract (n + 1) sz) W hes)
    rw [hE1, hk] at HDG
    have HDG : Hid (∀ W, Calls Tryz.prog 100 #[.string (s.extract (n + 1) sz)] W fun e w' => e = .returned (.int .i64 0) ∧ Below W.heap.size W w') := HDG.out
    have hpre : Lib.hasPrefix (s.data.toList.drop n) [46] = true := by rw [hr, hasPrefix_one]; rfl
    obtain ⟨a, ha⟩ : ∃ a, a = s.extract 0 n := ⟨_, rfl⟩
    obtain ⟨A, hAd⟩ : ∃ A, A = lead s.data.toList := ⟨_, rfl⟩
    have HA : Hid (a.data.toList = A) := by
      show _ = _
      rw [ha, HT0.out, hAd]
    obtain ⟨ex, hex⟩ : ∃ ex : Int, ex = 0 := ⟨_, rfl⟩
    have hexb : -140737488355328 ≤ ex ∧ ex ≤ 0 := by omega
    have HM : Hid (mantL s.data.toList = (A, ex, n)) := by
      show _ = _
      have h := mantL_dot (l := s.data.toList) (r := r) (by rw [← HNL.out]; exact hr)
      rw [← HNL.out, if_neg h0, ← hAd, ← hex] at h
      exact h
    have h0' : ¬ 0 < (n : Int) := by omega
    have hn1sz : n + 1 ≤ sz := by omega
    rw [hpre, ← ha]
    clear hr hk hE1 hrl hes hpre ha hAd hTn HT0 HNL h0 hn0
    obtain ⟨p, rfl⟩ : ∃ p, p = n := ⟨_, rfl⟩
    have hps : p ≤ sz := hns
    go_wp2_with fail
    refine (HDG.out w5).mono ?_
    rintro e w2 ⟨rfl, hb2⟩
    have HB2 := Lib.hid (HB1.out.trans (hb2.mono hs1))
    have hs2 : w.heap.size ≤ w2.heap.size := by have := hb2.size; omega
    clear hb2 HDG HB1
  case' inr.inr =>
    have hpre : Lib.hasPrefix (s.data.toList.drop n) [46] = false := by
      rw [hasPrefix_one]
      cases h : s.data.toList.drop n with
      | nil => rfl
      | cons x t => exact beq_eq_false_iff_ne.2 fun h2 => hr t (by rw [h, h2])
    obtain ⟨a, ha⟩ : ∃ a, a = s.extract 0 n := ⟨_, rfl⟩
    obtain ⟨A, hAd⟩ : ∃ A, A = lead s.data.toList := ⟨_, rfl⟩
    have HA : Hid (a.data.toList = A) := by
      show _ = _
      rw [ha, HT0.out, hAd]
    obtain ⟨ex, hex⟩ : ∃ ex : Int, ex = 0 := ⟨_, rfl⟩
    have hexb : -140737488355328 ≤ ex ∧ ex ≤ 0 := by omega
    have HM : Hid (mantL s.data.toList = (A, ex, n)) := by
      show _ = _
      have h := mantL_plain (l := s.data.toList) (by rw [← HNL.out]; exact hr)
      rw [← HNL.out, ← hAd, ← hex] at h
      exact h
    rw [hpre, ← ha]
    clear hr hpre ha hAd hTn HT0 HNL
    obtain ⟨p, rfl⟩ : ∃ p, p = n := ⟨_, rfl⟩
    have hps : p ≤ sz := hns
    obtain ⟨w2, rfl⟩ : ∃ w2 : World, w2 = w5 := ⟨_, rfl⟩
    have HB2 := HB1
    have hs2 := hs1
    clear HB1 hs1
  all_goals
    by_cases hA0 : A = []
    · have hae : a.toList.isEmpty = true := by rw [ByteArray.toList_eq, HA.out, hA0]; rfl
      have h := HNUM.out
      unfold numeralL at h
      rw [HM.out] at h
      simp only at h
      rw [if_pos hA0] at h
      obtain ⟨h1, h2⟩ := Prod.mk.inj h
      obtain ⟨h3, h4⟩ := Prod.mk.inj h2
      have HAR : Hid ((⟨#[]⟩ : ByteArray).data.toList = A3) := by show _ = _; rw [← h1]
      have HX1 := Lib.hid h3
      have HX2 := Lib.hid h4
      clear h h1 h2 h3 h4 HNUM HM hA0 HA
      go_wp2_with fail
      go_ret3
      have hx1 := HX1.out
      have hx2 := HX2.out
      exact ⟨_, ret3 (by omega) (by omega), HAR.out, HB2.out⟩
    · have hae : a.toList.isEmpty = false := by rw [ByteArray.toList_eq, HA.out]; simpa using hA0
      have h := HNUM.out
      unfold numeralL at h
      rw [HM.out] at h
      simp only at h
      rw [if_neg hA0] at h
      obtain ⟨h1, h2⟩ := Prod.mk.inj h
      obtain ⟨h3, h4⟩ := Prod.mk.inj h2
      have HAR : Hid (a.data.toList = A3) := by show _ = _; rw [HA.out, h1]
      obtain ⟨Q, hQ⟩ : ∃ Q, Q = s.data.toList.drop p := ⟨_, rfl⟩
      rw [← hQ] at h3 h4
      have HX : Hid (X3 = ex + (expL Q).1 ∧ Y3 = p + (expL Q).2) := ⟨h3.symm, h4.symm⟩
      obtain ⟨q, hq⟩ : ∃ q, q = s.extract p sz := ⟨_, rfl⟩
      have hqe : s.extract p sz = q := hq.symm
      have HQ : Hid (q.data.toList = Q) := by
        show _ = _
        rw [hq, ext_list, hQ]
        exact List.take_of_length_le (by rw [List.length_drop, HSL.out]; omega)
      obtain ⟨qz, hqz⟩ : ∃ z, z = q.size := ⟨_, rfl⟩
      have hqz1 : q.size = qz := hqz.symm
      have HQL : Hid (Q.length = qz) := by show _ = _; rw [hqz, size_list, HQ.out]
      have hqp : qz + p = sz := by
        have h := HQL.out
        rw [hQ, List.length_drop, HSL.out] at h
        omega
      clear h h1 h2 h3 h4 HNUM HM hA0 HA hQ hq hqz
      rcases hQc : Q with _ | ⟨c, r⟩
      · have hqe0 : q.toList.isEmpty = true := by rw [ByteArray.toList_eq, HQ.out, hQc]; rfl
        have hX := HX.out
        rw [hQc] at hX
        obtain ⟨hx1, hx2⟩ := hX
        have HBB := HB2
        clear HX HQ HQL hQc
        simp only [expL] at hx1 hx2
        have HX1 := Lib.hid hx1
        have HX2 := Lib.hid hx2
        clear hx1 hx2
        go_wp2_with fail
        go_ret3
        have hx1 := HX1.out
        have hx2 := HX2.out
        exact ⟨_, ret3 (by omega) (by omega), HAR.out, HBB.out⟩
      · have hqe0 : q.toList.isEmpty = false := by rw [ByteArray.toList_eq, HQ.out, hQc]; rfl
        have hqz0 : 0 < qz := by have h := HQL.out; rw [hQc] at h; simp at h; omega
        have hqs0 : 0 < q.size := by omega
        have hq0 : q[0]'hqs0 = c := at_list q 0 hqs0 c (by rw [HQ.out, hQc]; rfl)
        have HQC : Hid (Q = c :: r) := hQc
        by_cases hce : c = 101 ∨ c = 69
        · have hc1 : (((q[0]'hqs0).toNat : Int) == 101) = true ∨ (((q[0]'hqs0).toNat : Int) == 101) = false ∧ (((q[0]'hqs0).toNat : Int) == 69) = true := by
            rw [hq0]
            rcases hce with h | h
            · left; rw [h]; decide
            · right; rw [h]; decide
          clear hq0 hqe0
          have hqe0 : q.toList.isEmpty = false := by rw [ByteArray.toList_eq, HQ.out, hQc]; rfl
          rcases hr : r with _ | ⟨c1, r1⟩
          · have HSK : Hid (signK Q = (1, false)) := by show _ = _; rw [hQc, hr]; rfl
            have hqz1' : qz = 1 := by have h := HQL.out; rw [hQc, hr] at h; simp at h; omega
            have hnot : ¬ 1 < (qz : Int) := by omega
            clear hQc hr hqz1'
            rcases hc1 with h101 | ⟨h101, h69⟩
            all_goals
              have hQk : Hid ((q.extract 1 qz).data.toList = Q.drop 1) := by
                show _ = _
                rw [ext_list, HQ.out]
                exact List.take_of_length_le (by rw [List.length_drop, HQL.out]; omega)
              have hqk : (q.extract 1 qz).size ≤ 140737488355328 := by
                rw [size_list, hQk.out, List.length_drop, HQL.out]; omega
              have HDG := Lib.hid (fun W => digits_any (q.extract 1 qz) W hqk)
              rw [hQk.out] at HDG
              have hml := lead_le (Q.drop 1)
              rw [List.length_drop, HQL.out] at hml
              have HEX : Hid (expL Q = if 0 < (lead (Q.drop 1)).length then (powL (lead (Q.drop 1)) false, 1 + (lead (Q.drop 1)).length) else (0, 0)) := by
                show _ = _
                unfold expL
                rw [HQC.out]
                simp only []
                rw [if_pos hce, ← HQC.out, HSK.out]
              have hqm : Hid ((q.extract 1 (1 + (lead (Q.drop 1)).length)).data.toList = lead (Q.drop 1)) := by
                show _ = _
                rw [ext_list, HQ.out, Nat.add_sub_cancel_left, lead_take]
              have hpl : -100000 ≤ powL (lead (Q.drop 1)) false ∧ powL (lead (Q.drop 1)) false ≤ 100000 := by
                have := powN_le (lead (Q.drop 1))
                unfold powL
                split <;> omega
              have HPW := Lib.hid (fun W h => power_any (q.extract 1 (1 + (lead (Q.drop 1)).length)) false W (by rw [hqm.out]; exact lead_digits _) h)
              rw [hqm.out] at HPW
              have HPS : Hid ((q.extract 1 (1 + (lead (Q.drop 1)).length)).size ≤ 140737488355328) := by
                show _ ≤ _
                rw [size_list, hqm.out]; omega
              generalize lead (Q.drop 1) = D at *
              generalize hm : D.length = m at *
              generalize powL D false = P at *
              have hq2 : 1 ≤ qz := by omega
              clear hQk hqk hqm hce
              go_wp2_with fail
              refine (HDG.out _).mono ?_
              rintro e w3 ⟨rfl, hb3⟩
              have HBB := Lib.hid (show Below w.heap.size w w3 by first | exact HB2.out.trans (hb3.mono hs2) | exact HB2.out.drew.trans (hb3.mono hs2))
              have hs3 : w2.heap.size ≤ w3.heap.size := hb3.size
              clear hb3 HDG HB2
              by_cases hm0 : 0 < m
              · have hX := HX.out
                rw [HEX.out, if_pos hm0] at hX
                obtain ⟨hx1, hx2⟩ := hX
                simp only at hx1 hx2
                have HX1 := Lib.hid hx1
                have HX2 := Lib.hid hx2
                clear HEX HX hx1 hx2
                have hm0' : 0 < (m : Int) := by omega
                have hkm : 1 + m ≤ qz := by omega
                go_wp2_with fail
                refine (HPW.out w3 HPS.out).mono ?_
                rintro e w4 ⟨rfl, hb4⟩
                have HBC := Lib.hid (HBB.out.trans (hb4.mono (by omega)))
                clear hb4 HPW HBB
                have HBB := HBC
                have hx1 := HX1.out
                have hx2 := HX2.out
                have HX1 := Lib.hid hx1
                have HX2 := Lib.hid hx2
                clear hx1 hx2
                go_wp2_with fail
                go_ret3
                have hx1 := HX1.out
                have hx2 := HX2.out
                exact ⟨_, ret3 (by omega) (by omega), HAR.out, HBB.out⟩
              · have hX := HX.out
                rw [HEX.out, if_neg hm0] at hX
                obtain ⟨hx1, hx2⟩ := hX
                clear HEX HX
                have hm0' : ¬ 0 < (m : Int) := by omega
                simp only at hx1 hx2
                have HX1 := Lib.hid hx1
                have HX2 := Lib.hid hx2
                clear hx1 hx2
                go_wp2_with fail
                go_ret3
                have hx1 := HX1.out
                have hx2 := HX2.out
                exact ⟨_, ret3 (by omega) (by omega), HAR.out, HBB.out⟩
          · have hqs1 : 1 < q.size := by have h := HQL.out; rw [hQc, hr] at h; simp at h; omega
            have hlt : 1 < (qz : Int) := by omega
            have hq1 : q[1]'hqs1 = c1 := at_list q 1 hqs1 c1 (by rw [HQ.out, hQc, hr]; rfl)
            by_cases h43 : c1 = 43
            · have HSK : Hid (signK Q = (2, false)) := by show _ = _; rw [hQc, hr, h43]; rfl
              have ht1 : (((q[1]'hqs1).toNat : Int) == 43) = true := by rw [hq1, h43]; decide
              have ht2 : (((q[1]'hqs1).toNat : Int) == 45) = false := by rw [hq1, h43]; decide
              clear hQc hr hq1
              rcases hc1 with h101 | ⟨h101, h69⟩
              all_goals
                go_wp2_with fail
                go_region
                have hQk : Hid ((q.extract 2 qz).data.toList = Q.drop 2) := by
                  show _ = _
                  rw [ext_list, HQ.out]
                  exact List.take_of_length_le (by rw [List.length_drop, HQL.out]; omega)
                have hqk : (q.extract 2 qz).size ≤ 140737488355328 := by
                  rw [size_list, hQk.out, List.length_drop, HQL.out]; omega
                have HDG := Lib.hid (fun W => digits_any (q.extract 2 qz) W hqk)
                rw [hQk.out] at HDG
                have hml := lead_le (Q.drop 2)
                rw [List.length_drop, HQL.out] at hml
                have HEX : Hid (expL Q = if 0 < (lead (Q.drop 2)).length then (powL (lead (Q.drop 2)) false, 2 + (lead (Q.drop 2)).length) else (0, 0)) := by
                  show _ = _
                  unfold expL
                  rw [HQC.out]
                  simp only []
                  rw [if_pos hce, ← HQC.out, HSK.out]
                have hqm : Hid ((q.extract 2 (2 + (lead (Q.drop 2)).length)).data.toList = lead (Q.drop 2)) := by
                  show _ = _
                  rw [ext_list, HQ.out, Nat.add_sub_cancel_left, lead_take]
                have hpl : -100000 ≤ powL (lead (Q.drop 2)) false ∧ powL (lead (Q.drop 2)) false ≤ 100000 := by
                  have := powN_le (lead (Q.drop 2))
                  unfold powL
                  split <;> omega
                have HPW := Lib.hid (fun W h => power_any (q.extract 2 (2 + (lead (Q.drop 2)).length)) false W (by rw [hqm.out]; exact lead_digits _) h)
                rw [hqm.out] at HPW
                have HPS : Hid ((q.extract 2 (2 + (lead (Q.drop 2)).length)).size ≤ 140737488355328) := by
                  show _ ≤ _
                  rw [size_list, hqm.out]; omega
                generalize lead (Q.drop 2) = D at *
                generalize hm : D.length = m at *
                generalize powL D false = P at *
                have hq2 : 2 ≤ qz := by omega
                clear hQk hqk hqm hce
                go_wp2_with fail
                refine (HDG.out _).mono ?_
                rintro e w3 ⟨rfl, hb3⟩
                have HBB := Lib.hid (show Below w.heap.size w w3 by first | exact HB2.out.trans (hb3.mono hs2) | exact HB2.out.drew.trans (hb3.mono hs2))
                have hs3 : w2.heap.size ≤ w3.heap.size := hb3.size
                clear hb3 HDG HB2
                by_cases hm0 : 0 < m
                · have hX := HX.out
                  rw [HEX.out, if_pos hm0] at hX
                  obtain ⟨hx1, hx2⟩ := hX
                  simp only at hx1 hx2
                  have HX1 := Lib.hid hx1
                  have HX2 := Lib.hid hx2
                  clear HEX HX hx1 hx2
                  have hm0' : 0 < (m : Int) := by omega
                  have hkm : 2 + m ≤ qz := by omega
                  go_wp2_with fail
                  refine (HPW.out w3 HPS.out).mono ?_
                  rintro e w4 ⟨rfl, hb4⟩
                  have HBC := Lib.hid (HBB.out.trans (hb4.mono (by omega)))
                  clear hb4 HPW HBB
                  have HBB := HBC
                  have hx1 := HX1.out
                  have hx2 := HX2.out
                  have HX1 := Lib.hid hx1
                  have HX2 := Lib.hid hx2
                  clear hx1 hx2
                  go_wp2_with fail
                  go_ret3
                  have hx1 := HX1.out
                  have hx2 := HX2.out
                  exact ⟨_, ret3 (by omega) (by omega), HAR.out, HBB.out⟩
                · have hX := HX.out
                  rw [HEX.out, if_neg hm0] at hX
                  obtain ⟨hx1, hx2⟩ := hX
                  clear HEX HX
                  have hm0' : ¬ 0 < (m : Int) := by omega
                  simp only at hx1 hx2
                  have HX1 := Lib.hid hx1
                  have HX2 := Lib.hid hx2
                  clear hx1 hx2
                  go_wp2_with fail
                  go_ret3
                  have hx1 := HX1.out
                  have hx2 := HX2.out
                  exact ⟨_, ret3 (by omega) (by omega), HAR.out, HBB.out⟩
            · by_cases h45 : c1 = 45
              · have HSK : Hid (signK Q = (2, true)) := by show _ = _; rw [hQc, hr, h45]; rfl
                have ht1 : (((q[1]'hqs1).toNat : Int) == 43) = false := by rw [hq1, h45]; decide
                have ht2 : (((q[1]'hqs1).toNat : Int) == 45) = true := by rw [hq1, h45]; decide
                clear hQc hr hq1
                rcases hc1 with h101 | ⟨h101, h69⟩
                all_goals
                  go_wp2_with fail
                  go_region
                  have hQk : Hid ((q.extract 2 qz).data.toList = Q.drop 2) := by
                    show _ = _
                    rw [ext_list, HQ.out]
                    exact List.take_of_length_le (by rw [List.length_drop, HQL.out]; omega)
                  have hqk : (q.extract 2 qz).size ≤ 140737488355328 := by
                    rw [size_list, hQk.out, List.length_drop, HQL.out]; omega
                  have HDG := Lib.hid (fun W => digits_any (q.extract 2 qz) W hqk)
                  rw [hQk.out] at HDG
                  have hml := lead_le (Q.drop 2)
                  rw [List.length_drop, HQL.out] at hml
                  have HEX : Hid (expL Q = if 0 < (lead (Q.drop 2)).length then (powL (lead (Q.drop 2)) true, 2 + (lead (Q.drop 2)).length) else (0, 0)) := by
                    show _ = _
                    unfold expL
                    rw [HQC.out]
                    simp only []
                    rw [if_pos hce, ← HQC.out, HSK.out]
                  have hqm : Hid ((q.extract 2 (2 + (lead (Q.drop 2)).length)).data.toList = lead (Q.drop 2)) := by
                    show _ = _
                    rw [ext_list, HQ.out, Nat.add_sub_cancel_left, lead_take]
                  have hpl : -100000 ≤ powL (lead (Q.drop 2)) true ∧ powL (lead (Q.drop 2)) true ≤ 100000 := by
                    have := powN_le (lead (Q.drop 2))
                    unfold powL
                    split <;> omega
                  have HPW := Lib.hid (fun W h => power_any (q.extract 2 (2 + (lead (Q.drop 2)).length)) true W (by rw [hqm.out]; exact lead_digits _) h)
                  rw [hqm.out] at HPW
                  have HPS : Hid ((q.extract 2 (2 + (lead (Q.drop 2)).length)).size ≤ 140737488355328) := by
                    show _ ≤ _
                    rw [size_list, hqm.out]; omega
                  generalize lead (Q.drop 2) = D at *
                  generalize hm : D.length = m at *
                  generalize powL D true = P at *
                  have hq2 : 2 ≤ qz := by omega
                  clear hQk hqk hqm hce
                  go_wp2_with fail
                  refine (HDG.out _).mono ?_
                  rintro e w3 ⟨rfl, hb3⟩
                  have HBB := Lib.hid (show Below w.heap.size w w3 by first | exact HB2.out.trans (hb3.mono hs2) | exact HB2.out.drew.trans (hb3.mono hs2))
                  have hs3 : w2.heap.size ≤ w3.heap.size := hb3.size
                  clear hb3 HDG HB2
                  by_cases hm0 : 0 < m
                  · have hX := HX.out
                    rw [HEX.out, if_pos hm0] at hX
                    obtain ⟨hx1, hx2⟩ := hX
                    simp only at hx1 hx2
                    have HX1 := Lib.hid hx1
                    have HX2 := Lib.hid hx2
                    clear HEX HX hx1 hx2
                    have hm0' : 0 < (m : Int) := by omega
                    have hkm : 2 + m ≤ qz := by omega
                    go_wp2_with fail
                    refine (HPW.out w3 HPS.out).mono ?_
                    rintro e w4 ⟨rfl, hb4⟩
                    have HBC := Lib.hid (HBB.out.trans (hb4.mono (by omega)))
                    clear hb4 HPW HBB
                    have HBB := HBC
                    have hx1 := HX1.out
                    have hx2 := HX2.out
                    have HX1 := Lib.hid hx1
                    have HX2 := Lib.hid hx2
                    clear hx1 hx2
                    go_wp2_with fail
                    go_ret3
                    have hx1 := HX1.out
                    have hx2 := HX2.out
                    exact ⟨_, ret3 (by omega) (by omega), HAR.out, HBB.out⟩
                  · have hX := HX.out
                    rw [HEX.out, if_neg hm0] at hX
                    obtain ⟨hx1, hx2⟩ := hX
                    clear HEX HX
                    have hm0' : ¬ 0 < (m : Int) := by omega
                    simp only at hx1 hx2
                    have HX1 := Lib.hid hx1
                    have HX2 := Lib.hid hx2
                    clear hx1 hx2
                    go_wp2_with fail
                    go_ret3
                    have hx1 := HX1.out
                    have hx2 := HX2.out
                    exact ⟨_, ret3 (by omega) (by omega), HAR.out, HBB.out⟩
              · have HSK : Hid (signK Q = (1, false)) := by
                  show _ = _
                  rw [hQc, hr]
                  exact signK_other c c1 r1 h43 h45
                have ht1 : (((q[1]'hqs1).toNat : Int) == 43) = false := by rw [hq1]; exact ne_lit c1 43 43 (by decide) h43
                have ht2 : (((q[1]'hqs1).toNat : Int) == 45) = false := by rw [hq1]; exact ne_lit c1 45 45 (by decide) h45
                clear hQc hr hq1
                rcases hc1 with h101 | ⟨h101, h69⟩
                all_goals
                  have hQk : Hid ((q.extract 1 qz).data.toList = Q.drop 1) := by
                    show _ = _
                    rw [ext_list, HQ.out]
                    exact List.take_of_length_le (by rw [List.length_drop, HQL.out]; omega)
                  have hqk : (q.extract 1 qz).size ≤ 140737488355328 := by
                    rw [size_list, hQk.out, List.length_drop, HQL.out]; omega
                  have HDG := Lib.hid (fun W => digits_any (q.extract 1 qz) W hqk)
                  rw [hQk.out] at HDG
                  have hml := lead_le (Q.drop 1)
                  rw [List.length_drop, HQL.out] at hml
                  have HEX : Hid (expL Q = if 0 < (lead (Q.drop 1)).length then (powL (lead (Q.drop 1)) false, 1 + (lead (Q.drop 1)).length) else (0, 0)) := by
                    show _ = _
                    unfold expL
                    rw [HQC.out]
                    simp only []
                    rw [if_pos hce, ← HQC.out, HSK.out]
                  have hqm : Hid ((q.extract 1 (1 + (lead (Q.drop 1)).length)).data.toList = lead (Q.drop 1)) := by
                    show _ = _
                    rw [ext_list, HQ.out, Nat.add_sub_cancel_left, lead_take]
                  have hpl : -100000 ≤ powL (lead (Q.drop 1)) false ∧ powL (lead (Q.drop 1)) false ≤ 100000 := by
                    have := powN_le (lead (Q.drop 1))
                    unfold powL
                    split <;> omega
                  have HPW := Lib.hid (fun W h => power_any (q.extract 1 (1 + (lead (Q.drop 1)).length)) false W (by rw [hqm.out]; exact lead_digits _) h)
                  rw [hqm.out] at HPW
                  have HPS : Hid ((q.extract 1 (1 + (lead (Q.drop 1)).length)).size ≤ 140737488355328) := by
                    show _ ≤ _
                    rw [size_list, hqm.out]; omega
                  generalize lead (Q.drop 1) = D at *
                  generalize hm : D.length = m at *
                  generalize powL D false = P at *
                  have hq2 : 1 ≤ qz := by omega
                  clear hQk hqk hqm hce
                  go_wp2_with fail
                  refine (HDG.out _).mono ?_
                  rintro e w3 ⟨rfl, hb3⟩
                  have HBB := Lib.hid (show Below w.heap.size w w3 by first | exact HB2.out.trans (hb3.mono hs2) | exact HB2.out.drew.trans (hb3.mono hs2))
                  have hs3 : w2.heap.size ≤ w3.heap.size := hb3.size
                  clear hb3 HDG HB2
                  by_cases hm0 : 0 < m
                  · have hX := HX.out
                    rw [HEX.out, if_pos hm0] at hX
                    obtain ⟨hx1, hx2⟩ := hX
                    simp only at hx1 hx2
                    have HX1 := Lib.hid hx1
                    have HX2 := Lib.hid hx2
                    clear HEX HX hx1 hx2
                    have hm0' : 0 < (m : Int) := by omega
                    have hkm : 1 + m ≤ qz := by omega
                    go_wp2_with fail
                    refine (HPW.out w3 HPS.out).mono ?_
                    rintro e w4 ⟨rfl, hb4⟩
                    have HBC := Lib.hid (HBB.out.trans (hb4.mono (by omega)))
                    clear hb4 HPW HBB
                    have HBB := HBC
                    have hx1 := HX1.out
                    have hx2 := HX2.out
                    have HX1 := Lib.hid hx1
                    have HX2 := Lib.hid hx2
                    clear hx1 hx2
                    go_wp2_with fail
                    go_ret3
                    have hx1 := HX1.out
                    have hx2 := HX2.out
                    exact ⟨_, ret3 (by omega) (by omega), HAR.out, HBB.out⟩
                  · have hX := HX.out
                    rw [HEX.out, if_neg hm0] at hX
                    obtain ⟨hx1, hx2⟩ := hX
                    clear HEX HX
                    have hm0' : ¬ 0 < (m : Int) := by omega
                    simp only at hx1 hx2
                    have HX1 := Lib.hid hx1
                    have HX2 := Lib.hid hx2
                    clear hx1 hx2
                    go_wp2_with fail
                    go_ret3
                    have hx1 := HX1.out
                    have hx2 := HX2.out
                    exact ⟨_, ret3 (by omega) (by omega), HAR.out, HBB.out⟩
        · have hx := HX.out
          have hex : expL Q = (0, 0) := by rw [hQc]; unfold expL; simp only []; rw [if_neg hce]
          rw [hex] at hx
          obtain ⟨hx1, hx2⟩ := hx
          have h101 : (((q[0]'hqs0).toNat : Int) == 101) = false := by rw [hq0]; exact ne_lit c 101 101 (by decide) fun h => hce (.inl h)
          have h69 : (((q[0]'hqs0).toNat : Int) == 69) = false := by rw [hq0]; exact ne_lit c 69 69 (by decide) fun h => hce (.inr h)
          have HBB := HB2
          clear HX hex hq0 hQc HQC
          simp only at hx1 hx2
          have HX1 := Lib.hid hx1
          have HX2 := Lib.hid hx2
          clear hx1 hx2
          go_wp2_with fail
          go_ret3
          have hx1 := HX1.out
          have hx2 := HX2.out
          exact ⟨_, ret3 (by omega) (by omega), HAR.out, HBB.out⟩
end Go.Proofs.YtcmpdamfeoaapaaGreatDoor
end

section
/- Package num: Prefix, Looks. -/
namespace Go.Proofs.YtcmpdamfeoaapaaGreatDoor
open Go.RowKit
set_option linter.unusedVariables false

theorem lead_app_digits {l r : List UInt8} : Digits (lead l ++ lead r) := by
  intro c hc
  rcases List.mem_append.1 hc with h | h
  · exact lead_digits l c h
  · exact lead_digits r c h
theorem mantL_facts (l : List UInt8) : Digits (mantL l).1 ∧ -(l.length : Int) ≤ (mantL l).2.1 ∧ (mantL l).2.1 ≤ 0 ∧ (mantL l).2.2 ≤ l.length := by
  have hl := lead_le l
  by_cases h : ∃ r, l.drop (lead l).length = 46 :: r
  · obtain ⟨r, hr⟩ := h
    have h2 := lead_le r
    have h3 := congrArg List.length hr
    rw [List.length_drop, List.length_cons] at h3
    rw [mantL_dot hr]
    split
    · exact ⟨lead_app_digits, by simp only []; omega, by simp only []; omega, by simp only []; omega⟩
    · exact ⟨lead_digits l, by simp only []; omega, by simp only []; omega, hl⟩
  · rw [mantL_plain fun r hr => h ⟨r, hr⟩]
    exact ⟨lead_digits l, by simp only []; omega, by simp only []; omega, hl⟩
theorem expL_facts (q : List UInt8) : -100000 ≤ (expL q).1 ∧ (expL q).1 ≤ 100000 ∧ (expL q).2 ≤ q.length := by
  cases q with
  | nil => simp [expL]
  | cons c r =>
    unfold expL
    simp only []
    split
    · split
      · have h1 := powN_le (lead ((c :: r).drop (signK (c :: r)).1))
        have h2 := lead_le ((c :: r).drop (signK (c :: r)).1)
        rw [List.length_drop] at h2
        refine ⟨?_, ?_, ?_⟩
        · simp only []; unfold powL; split <;> omega
        · simp only []; unfold powL; split <;> omega
        · simp only []; omega
      · simp
    · simp
theorem numeralL_facts (l : List UInt8) : Digits (numeralL l).1 ∧ -(l.length : Int) - 100000 ≤ (numeralL l).2.1 ∧ (numeralL l).2.1 ≤ 100000 ∧ (numeralL l).2.2 ≤ l.length := by
  obtain ⟨h1, h2, h3, h4⟩ := mantL_facts l
  obtain ⟨e1, e2, e3⟩ := expL_facts (l.drop (mantL l).2.2)
  rw [List.length_drop] at e3
  unfold numeralL
  split
  · exact ⟨by intro c hc; simp at hc, by simp only []; omega, by simp only []; omega, by simp only []; omega⟩
  · exact ⟨h1, by simp only []; omega, by simp only []; omega, by simp only []; omega⟩

/-- blanks -/
def wsL : List UInt8 := [32, 9, 10]
def unblank (l : List UInt8) : List UInt8 := l.dropWhile (wsL.contains ·)
/-- how many bytes a sign takes, and whether it is a minus -/
def signB : List UInt8 → Nat × Bool
  | 45 :: _ => (1, true)
  | 43 :: _ => (1, false)
  | _ => (0, false)
@[go_sem] theorem run_neg64 (R : Nat) (w : World) : (Op.unary UnOp.neg (Value.float FloatKind.f64 R)).run Tryz.prog w = .ok (.float .f64 (Op.negFloat .f64 R)) w := rfl
theorem negF {R : Nat} (h : R < 9223372036854775808) : Op.negFloat .f64 R = R + 9223372036854775808 := by
  have e : Op.negFloat .f64 R = R ^^^ 2 ^ 63 := rfl
  rw [e, show (9223372036854775808 : Nat) = 2 ^ 63 by decide, Nat.add_comm]
  have h63 : R < 2 ^ 63 := h
  refine Nat.eq_of_testBit_eq fun i => ?_
  rw [Nat.testBit_xor, Nat.testBit_two_pow]
  rcases Nat.lt_trichotomy i 63 with hi | hi | hi
  · rw [Nat.testBit_two_pow_add_gt hi, decide_eq_false (by omega), Bool.xor_false]
  · subst hi
    rw [Nat.testBit_two_pow_add_eq, decide_eq_true rfl, Bool.xor_true]
  · rw [Nat.testBit_lt_two_pow (Nat.lt_of_lt_of_le h63 (p2_le (a := 63) (b := i) (by omega))), decide_eq_false (by omega), Nat.testBit_lt_two_pow (x := 2 ^ 63 + R) (i := i)]
    · rfl
    · have h2 := p2_le (a := 64) (b := i) (by omega)
      have h3 : (2 : Nat) ^ 64 = 2 ^ 63 + 2 ^ 63 := by decide
      omega
theorem readN_le (l : List UInt8) (e : Int) : readN l e < 9223372036854775808 := by
  have h : readN l e ≤ 9218868437227405312 := by
    unfold readN
    split
    · omega
    · split
      · exact readB_le _ _
      · split
        · exact readB_le _ _
        · exact readB_le _ _
  omega
theorem retF {x x' : Nat} {y y' : Int} (hx : x = x') (hy : y = y') : Ending.returned (.tuple #[.float .f64 x, .int .i64 y]) = Ending.returned (.tuple #[.float .f64 x', .int .i64 y']) := by
  subst hx; subst hy; rfl
theorem signB_other (c : UInt8) (r : List UInt8) (h1 : c ≠ 45) (h2 : c ≠ 43) : signB (c :: r) = (0, false) := by
  unfold signB
  split
  · rename_i h; injection h with h _; exact absurd h h1
  · rename_i h; injection h with h _; exact absurd h h2
  · rfl
theorem mantL_len (l : List UInt8) : (mantL l).1.length ≤ l.length := by
  have hl := lead_le l
  by_cases h : ∃ r, l.drop (lead l).length = 46 :: r
  · obtain ⟨r, hr⟩ := h
    have h2 := lead_le r
    have h3 := congrArg List.length hr
    rw [List.length_drop, List.length_cons] at h3
    rw [mantL_dot hr]
    split
    · simp only [List.length_append]; omega
    · exact hl
  · rw [mantL_plain fun r hr => h ⟨r, hr⟩]
    exact hl
theorem numeralL_len (l : List UInt8) : (numeralL l).1.length ≤ l.length := by
  unfold numeralL
  split
  · simp
  · exact mantL_len l
/-- what is read behind blanks and a sign -/
def coreL (l : List UInt8) : List UInt8 × Int × Nat := numeralL ((unblank l).drop (signB (unblank l)).1)
/-- how many bytes Prefix takes -/
def prefN (l : List UInt8) : Nat := if (coreL l).2.2 = 0 then 0 else l.length - (unblank l).length + (signB (unblank l)).1 + (coreL l).2.2
/-- the float of what is read, without its sign -/
def prefV (l : List UInt8) : Nat := if (coreL l).2.2 = 0 then 0 else readN (coreL l).1 (coreL l).2.1
/-- is it below nought -/
def prefM (l : List UInt8) : Bool := if (coreL l).2.2 = 0 then false else (signB (unblank l)).2

/-- the bits of what Prefix reads -/
def prefB (l : List UInt8) : Nat := if prefM l then prefV l + 9223372036854775808 else prefV l
theorem TrimLeft_ws (s : ByteArray) (w : World) :
    Calls Tryz.prog 46 #[.string s, .string ⟨#[32, 9, 10]⟩] w fun e w' => e = .returned (.string ⟨(unblank s.data.toList).toArray⟩) ∧ Below w.heap.size w w' :=
  Any.strings_TrimLeft_laid Tryz.lays161 (by kernel_rfl) s ⟨#[32, 9, 10]⟩ w (by decide) (ascii_of_all (by decide))
theorem Trim_ws (s : ByteArray) (w : World) (hs : s.size ≤ 9223372036854775807) :
    Calls Tryz.prog 54 #[.string s, .string ⟨#[32, 9, 10]⟩] w fun e w' => e = .returned (.string ⟨(Lib.trimS s.data.toList wsL).toArray⟩) ∧ Below w.heap.size w w' :=
  Any.strings_Trim_laid Tryz.lays160 (by kernel_rfl) s ⟨#[32, 9, 10]⟩ w hs (by decide) (ascii_of_all (by decide))

set_option maxRecDepth 100000 in
set_option maxHeartbeats 4000000 in
theorem Prefix_any (s : ByteArray) (w : World) (hs : s.size ≤ 140737488355328) :
    Calls Tryz.prog 10 #[.string s] w fun e w' => e = .returned (.tuple #[.float .f64 (prefB s.data.toList), .int .i64 (prefN s.data.toList : Nat)]) ∧ Below w.heap.size w w' := by
  obtain ⟨t, ht⟩ : ∃ t : ByteArray, t = ⟨(unblank s.data.toList).toArray⟩ := ⟨_, rfl⟩
  have HT := Lib.hid (TrimLeft_ws s w)
  rw [← ht] at HT
  have htl : unblank s.data.toList = t.data.toList := by rw [ht]
  obtain ⟨tz, htz⟩ : ∃ z, z = t.size := ⟨_, rfl⟩
  obtain ⟨sz, hsz⟩ : ∃ z, z = s.size := ⟨_, rfl⟩
  have hts : t.size = tz := htz.symm
  have hss : s.size = sz := hsz.symm
  have hsl : s.data.toList.length = sz := by rw [hsz]; exact (size_list s).symm
  have htl2 : t.data.toList.length = tz := by rw [htz]; exact (size_list t).symm
  have hle : tz ≤ sz := by
    rw [← hsl, ← htl2, ← htl]
    exact (List.dropWhile_sublist _).length_le
  have hszb : sz ≤ 140737488355328 := by omega
  obtain ⟨sg, mi, hsm⟩ : ∃ sg mi, signB t.data.toList = (sg, mi) := ⟨_, _, rfl⟩
  obtain ⟨A, X, Y, hco⟩ : ∃ A X Y, coreL s.data.toList = (A, X, Y) := ⟨_, _, _, rfl⟩
  have hco2 : numeralL (t.data.toList.drop sg) = (A, X, Y) := by
    rw [← hco]; unfold coreL; rw [htl, hsm]
  obtain ⟨f1, f2, f3, f4⟩ := numeralL_facts (t.data.toList.drop sg)
  rw [hco2] at f1 f2 f3 f4
  rw [List.length_drop, htl2] at f2 f4
  simp only at f1 f2 f3 f4
  have hV : prefV s.data.toList = if Y = 0 then 0 else readN A X := by unfold prefV; rw [hco]
  have hN : prefN s.data.toList = if Y = 0 then 0 else sz - tz + sg + Y := by unfold prefN; rw [hco, hsl, htl, htl2, hsm]
  have hM : prefM s.data.toList = if Y = 0 then false else mi := by unfold prefM; rw [hco, htl, hsm]
  have hB : prefB s.data.toList = if Y = 0 then 0 else if mi then readN A X + 9223372036854775808 else readN A X := by
    unfold prefB
    rw [hV, hM]
    by_cases h : Y = 0
    · rw [if_pos h, if_pos h, if_pos h]
      exact if_neg (by decide)
    · rw [if_neg h, if_neg h, if_neg h]
  have HV := Lib.hid hB
  have HN := Lib.hid hN
  generalize prefB s.data.toList = V at *
  generalize prefN s.data.toList = N at *
  have hP1 := Lib.hid (fun W => Tryz.strings_HasPrefix t ⟨#[45]⟩ W)
  have hP2 := Lib.hid (fun W => Tryz.strings_HasPrefix t ⟨#[43]⟩ W)
  have hcase : (sg = 1 ∧ mi = true ∧ Lib.hasPrefix t.data.toList [45] = true) ∨ (sg = 1 ∧ mi = false ∧ Lib.hasPrefix t.data.toList [45] = false ∧ Lib.hasPrefix t.data.toList [43] = true) ∨ (sg = 0 ∧ mi = false ∧ Lib.hasPrefix t.data.toList [45] = false ∧ Lib.hasPrefix t.data.toList [43] = false) := by
    rw [hasPrefix_one, hasPrefix_one]
    cases hl : t.data.toList with
    | nil =>
      rw [hl] at hsm
      obtain ⟨h1, h2⟩ := Prod.mk.inj (hsm.symm.trans (rfl : signB [] = (0, false)))
      exact .inr (.inr ⟨h1, h2, rfl, rfl⟩)
    | cons c r =>
      rw [hl] at hsm
      by_cases h45 : c = 45
      · subst h45
        obtain ⟨h1, h2⟩ := Prod.mk.inj (hsm.symm.trans (rfl : signB (45 :: r) = (1, true)))
        exact .inl ⟨h1, h2, rfl⟩
      · by_cases h43 : c = 43
        · subst h43
          obtain ⟨h1, h2⟩ := Prod.mk.inj (hsm.symm.trans (rfl : signB (43 :: r) = (1, false)))
          exact .inr (.inl ⟨h1, h2, rfl, rfl⟩)
        · obtain ⟨h1, h2⟩ := Prod.mk.inj (hsm.symm.trans (signB_other c r h45 h43))
          exact .inr (.inr ⟨h1, h2, beq_eq_false_iff_ne.2 h45, beq_eq_false_iff_ne.2 h43⟩)
  have HTL2 := Lib.hid htl2
  have HF1 := Lib.hid f1
  have HNU : Hid (∀ (u : ByteArray) (W : World), u.size ≤ 140737488355328 → u.data.toList = t.data.toList.drop sg → Calls Tryz.prog 48 #[.string u] W fun e w' => ∃ a : ByteArray, e = .returned (.tuple #[.string a, .int .i64 X, .int .i64 (Y : Nat)]) ∧ a.data.toList = A ∧ a.size ≤ 140737488355328 ∧ Below W.heap.size W w') := by
    intro u W hu hul
    refine (numeral_any u W hu).mono ?_
    rintro e w' ⟨a, rfl, ha, hb⟩
    rw [hul, hco2] at ha ⊢
    refine ⟨a, rfl, ha, ?_, hb⟩
    have h := numeralL_len (t.data.toList.drop sg)
    rw [hco2, List.length_drop, htl2] at h
    rw [size_list, ha]
    have h2 : A.length ≤ tz - sg := h
    show A.length ≤ _
    omega
  have HRD : Hid (∀ (a : ByteArray) (W : World), a.data.toList = A → a.size ≤ 140737488355328 → Calls Tryz.prog 49 #[.string a, .int .i64 X] W fun e w' => e = .returned (.float .f64 (readN A X)) ∧ Below W.heap.size W w') := by
    intro a W ha hu
    have h := read_any a X W (by rw [ha]; exact f1) hu (by omega) (by omega)
    rw [ha] at h
    exact h
  have HEX : Hid (∀ i, i ≤ tz → (t.extract i tz).data.toList = t.data.toList.drop i ∧ (t.extract i tz).size ≤ 140737488355328) := by
    intro i hi
    have h1 : (t.extract i tz).data.toList = t.data.toList.drop i := by
      rw [ext_list]
      exact List.take_of_length_le (by rw [List.length_drop, htl2]; omega)
    refine ⟨h1, ?_⟩
    rw [size_list, h1, List.length_drop, htl2]; omega
  have HLP : Hid (∀ c, Lib.hasPrefix t.data.toList [c] = true → 1 ≤ tz) := by
    intro c h
    rw [hasPrefix_one] at h
    rcases Nat.eq_zero_or_pos tz with h0 | h0
    · have : t.data.toList = [] := List.eq_nil_of_length_eq_zero (by omega)
      rw [this] at h; cases h
    · exact h0
  have HRB : Hid (readN A X < 9223372036854775808) := readN_le A X
  generalize readN A X = R at *
  clear ht htl htz hsz hsl htl2 hs hco hco2 f1 hV hN hM hB hsm
  have hd0 : (sz : Int) - tz = ((sz - tz : Nat) : Int) := by omega
  obtain ⟨bl, hbl⟩ : ∃ b, b = sz - tz := ⟨_, rfl⟩
  rw [← hbl] at hd0 HN
  have hblb : bl ≤ sz := by omega
  clear hbl
  go_enter Tryz.func10, Tryz.ntmps10
  go_wp2_with fail
  refine (HT.out).mono ?_
  rintro e w1 ⟨rfl, hb1⟩
  have HB1 := Lib.hid hb1
  have hs1 := hb1.size
  clear hb1 HT
  go_wp2_with fail
  refine (hP1.out w1).mono ?_
  rintro e w2 ⟨rfl, rfl⟩
  clear hP1
  rcases hcase with ⟨rfl, rfl, h45⟩ | ⟨rfl, rfl, h45, h43⟩ | ⟨rfl, rfl, h45, h43⟩
  · have htz1 := HLP.out 45 h45
    rw [h45]
    clear HLP h45
    have hu := HEX.out 1 (by omega)
    have hu1 := Lib.hid hu.1
    have hu2 := Lib.hid hu.2
    clear hu
    go_wp2_with fail
    refine (HNU.out _ _ hu2.out hu1.out).mono ?_
    rintro e w3 ⟨a, rfl, ha, hza, hb3⟩
    have HA := Lib.hid ha
    have HZA := Lib.hid hza
    have HB3 := Lib.hid (HB1.out.trans (hb3.mono hs1))
    have hs3 := hb3.size
    clear hb3 HB1 HNU ha hza hu1 hu2
    by_cases hY : Y = 0
    · have hN := HN.out
      have hV := HV.out
      rw [if_pos hY] at hN hV
      subst hY
      have HN2 := Lib.hid hN
      have HV2 := Lib.hid hV
      clear hN hV HN HV
      go_wp2_with fail
      go_ret2
      exact ⟨retF (by rw [HV2.out]) (by rw [HN2.out]; rfl), HB3.out⟩
    · have hN := HN.out
      have hV := HV.out
      rw [if_neg hY] at hN hV
      have HN2 := Lib.hid hN
      have HV2 := Lib.hid hV
      have hY' : (Y : Int) ≠ 0 := by omega
      clear hN hV HN HV hY
      go_wp2_with fail
      refine (HRD.out a w3 HA.out HZA.out).mono ?_
      rintro e w4 ⟨rfl, hb4⟩
      have HB4 := Lib.hid (HB3.out.trans (hb4.mono (by omega)))
      clear hb4 HB3 HRD
      go_wp2_with fail
      go_ret2
      exact ⟨retF (by rw [HV2.out, if_pos trivial, negF HRB.out]) (by rw [HN2.out]; omega), HB4.out⟩
  · have htz1 := HLP.out 43 h43
    rw [h45]
    go_wp2_with fail
    refine (hP2.out _).mono ?_
    rintro e w2 ⟨rfl, rfl⟩
    rw [h43]
    clear HLP h45 h43 hP2
    have hu := HEX.out 1 (by omega)
    have hu1 := Lib.hid hu.1
    have hu2 := Lib.hid hu.2
    clear hu
    go_wp2_with fail
    refine (HNU.out _ _ hu2.out hu1.out).mono ?_
    rintro e w3 ⟨a, rfl, ha, hza, hb3⟩
    have HA := Lib.hid ha
    have HZA := Lib.hid hza
    have HB3 := Lib.hid (HB1.out.trans (hb3.mono hs1))
    have hs3 := hb3.size
    clear hb3 HB1 HNU ha hza hu1 hu2
    by_cases hY : Y = 0
    · have hN := HN.out
      have hV := HV.out
      rw [if_pos hY] at hN hV
      subst hY
      have HN2 := Lib.hid hN
      have HV2 := Lib.hid hV
      clear hN hV HN HV
      go_wp2_with fail
      go_ret2
      exact ⟨retF (by rw [HV2.out]) (by rw [HN2.out]; rfl), HB3.out⟩
    · have hN := HN.out
      have hV := HV.out
      rw [if_neg hY] at hN hV
      have HN2 := Lib.hid hN
      have HV2 := Lib.hid hV
      have hY' : (Y : Int) ≠ 0 := by omega
      clear hN hV HN HV hY
      go_wp2_with fail
      refine (HRD.out a w3 HA.out HZA.out).mono ?_
      rintro e w4 ⟨rfl, hb4⟩
      have HB4 := Lib.hid (HB3.out.trans (hb4.mono (by omega)))
      clear hb4 HB3 HRD
      go_wp2_with fail
      go_ret2
      exact ⟨retF (by rw [HV2.out, if_neg Bool.false_ne_true]) (by rw [HN2.out]; omega), HB4.out⟩
  · rw [h45]
    go_wp2_with fail
    refine (hP2.out _).mono ?_
    rintro e w2 ⟨rfl, rfl⟩
    rw [h43]
    clear HLP h45 h43 hP2
    have hu := HEX.out 0 (by omega)
    have hu1 := Lib.hid hu.1
    have hu2 := Lib.hid hu.2
    clear hu
    go_wp2_with fail
    refine (HNU.out _ _ hu2.out hu1.out).mono ?_
    rintro e w3 ⟨a, rfl, ha, hza, hb3⟩
    have HA := Lib.hid ha
    have HZA := Lib.hid hza
    have HB3 := Lib.hid (HB1.out.trans (hb3.mono hs1))
    have hs3 := hb3.size
    clear hb3 HB1 HNU ha hza hu1 hu2
    by_cases hY : Y = 0
    · have hN := HN.out
      have hV := HV.out
      rw [if_pos hY] at hN hV
      subst hY
      have HN2 := Lib.hid hN
      have HV2 := Lib.hid hV
      clear hN hV HN HV
      go_wp2_with fail
      go_ret2
      exact ⟨retF (by rw [HV2.out]) (by rw [HN2.out]; rfl), HB3.out⟩
    · have hN := HN.out
      have hV := HV.out
      rw [if_neg hY] at hN hV
      have HN2 := Lib.hid hN
      have HV2 := Lib.hid hV
      have hY' : (Y : Int) ≠ 0 := by omega
      clear hN hV HN HV hY
      go_wp2_with fail
      refine (HRD.out a w3 HA.out HZA.out).mono ?_
      rintro e w4 ⟨rfl, hb4⟩
      have HB4 := Lib.hid (HB3.out.trans (hb4.mono (by omega)))
      clear hb4 HB3 HRD
      go_wp2_with fail
      go_ret2
      exact ⟨retF (by rw [HV2.out, if_neg Bool.false_ne_true]) (by rw [HN2.out]; omega), HB4.out⟩

/-- does the whole text look like a number -/
def looksL (l : List UInt8) : Bool := decide (0 < prefN l) && (Lib.trimS (l.drop (prefN l)) wsL).isEmpty
theorem unblank_le (l : List UInt8) : (unblank l).length ≤ l.length := (List.dropWhile_sublist _).length_le
theorem signB_le : ∀ t : List UInt8, (signB t).1 ≤ t.length
  | [] => Nat.le_refl _
  | c :: r => by
    unfold signB
    split <;> simp
theorem prefN_le (l : List UInt8) : prefN l ≤ l.length := by
  unfold prefN
  split
  · exact Nat.zero_le _
  · have h1 := (numeralL_facts ((unblank l).drop (signB (unblank l)).1)).2.2.2
    have h2 := unblank_le l
    have h3 := signB_le (unblank l)
    rw [List.length_drop] at h1
    unfold coreL
    omega

set_option maxRecDepth 100000 in
set_option maxHeartbeats 4000000 in
theorem Looks_any (s : ByteArray) (w : World) (hs : s.size ≤ 140737488355328) :
    Calls Tryz.prog 15 #[.string s] w fun e w' => e = .returned (.bool (looksL s.data.toList)) ∧ Below w.heap.size w w' := by
  have HP := Lib.hid (Prefix_any s w hs)
  obtain ⟨sz, hsz⟩ : ∃ z, z = s.size := ⟨_, rfl⟩
  have hss : s.size = sz := hsz.symm
  have hsl : s.data.toList.length = sz := by rw [hsz]; exact (size_list s).symm
  have hle := prefN_le s.data.toList
  rw [hsl] at hle
  have HL : Hid (looksL s.data.toList = (decide (0 < prefN s.data.toList) && (Lib.trimS (s.data.toList.drop (prefN s.data.toList)) wsL).isEmpty)) := rfl
  generalize looksL s.data.toList = R at *
  generalize prefB s.data.toList = B at *
  generalize prefN s.data.toList = n at *
  have hE : (s.extract n sz).data.toList = s.data.toList.drop n := by
    rw [ext_list]
    exact List.take_of_length_le (by rw [List.length_drop, hsl]; omega)
  have HTR := Lib.hid (fun W => Trim_ws (s.extract n sz) W (by rw [size_list, hE, List.length_drop, hsl]; omega))
  rw [hE] at HTR
  obtain ⟨T, hT⟩ : ∃ T : ByteArray, T = ⟨(Lib.trimS (s.data.toList.drop n) wsL).toArray⟩ := ⟨_, rfl⟩
  rw [← hT] at HTR
  have hTe : Hid (T.toList.isEmpty = (Lib.trimS (s.data.toList.drop n) wsL).isEmpty) := by show _ = _; rw [ByteArray.toList_eq, hT]
  have hszb : sz ≤ 140737488355328 := by omega
  clear hE hsl hsz hT hs
  go_enter Tryz.func15, Tryz.ntmps15
  go_wp2_with fail
  refine HP.out.mono ?_
  rintro e w1 ⟨rfl, hb1⟩
  have HB1 := Lib.hid hb1
  have hs1 := hb1.size
  clear hb1 HP
  rcases Nat.eq_zero_or_pos n with h0 | h0
  · subst h0
    have HR : Hid (R = false) := by show _ = _; rw [HL.out]; rfl
    clear HL hTe HTR
    go_wp2_with fail
    go_ret
    exact ⟨by rw [HR.out]; rfl, HB1.out⟩
  · have h0' : 0 < (n : Int) := by omega
    have HR : Hid (R = T.toList.isEmpty) := by show _ = _; rw [HL.out, hTe.out, decide_eq_true h0]; rfl
    clear HL hTe h0
    go_wp2_with fail
    refine (HTR.out w1).mono ?_
    rintro e w2 ⟨rfl, hb2⟩
    have HB2 := Lib.hid (HB1.out.trans (hb2.mono hs1))
    clear hb2 HB1 HTR
    go_wp2_with fail
    go_ret
    exact ⟨by rw [HR.out]; rfl, HB2.out⟩
end Go.Proofs.YtcmpdamfeoaapaaGreatDoor
end
