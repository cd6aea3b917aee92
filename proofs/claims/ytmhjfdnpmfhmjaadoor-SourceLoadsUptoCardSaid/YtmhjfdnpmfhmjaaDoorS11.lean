/- Package source: the document's example. -/
import Derived.Test.YtmhjfdnpmfhmjaaDoorS9
import Derived.Test.YtmhjfdnpmfhmjaaDoorS10
namespace Go.Proofs.YtmhjfdnpmfhmjaaDoor
open Go.RowKit
set_option linter.unusedVariables false

def text1 : Str := [97, 10, 32, 64, 105, 110, 99, 108, 117, 100, 101, 32, 34, 102, 34, 10, 98]
def fs1 : List (Str × Str) := [([102], [120, 10, 121])]
def out1 : Str := [97, 10, 120, 10, 121, 10, 98, 10]
def lines1 : List (Str × Nat) := [([], 1), ([102], 1), ([102], 2), ([], 3)]
def text2 : Str := [10, 64, 105, 110, 99, 108, 117, 100, 101, 32, 102, 10]
theorem res1 : loadF (look fs1) 2 text1 = .ok ⟨out1, lines1, [], [[102]]⟩ := by kernel_rfl
theorem res2 : loadF (look []) 1 text2 = .bad [] 2 192 := by kernel_rfl

set_option maxHeartbeats 16000000 in
set_option maxRecDepth 1000000 in
theorem fixed_any (w : World) (hM : MaxOk w) : Calls Tryd.prog 7 #[] w fun e w' => e = .returned (.bool true) ∧ Below w.heap.size w w' := by
  obtain ⟨w2, hw2⟩ : ∃ w2, w2 = (w.alloc (.cells #[.string ⟨#[120, 10]⟩, .string ⟨#[121]⟩] 9)).alloc (.cells #[.string ⟨#[102]⟩, .slice (some ⟨w.heap.size, 0, none⟩) 2 2] 40) := ⟨_, rfl⟩
  have hb2 : Below w.heap.size w w2 := hw2 ▸ (((Below.refl _ _).alloc (Nat.le_refl _) _).alloc (by simp) _)
  have hz2 : w2.heap.size = w.heap.size + 1 + 1 := by rw [hw2]; simp
  have h1 : w2.heap[w.heap.size]? = some (.cells #[.string ⟨#[120, 10]⟩, .string ⟨#[121]⟩] 9 (0, 0)) := by
    rw [hw2, heap_alloc_lt _ _ _ (by simp)]; exact heap_alloc_at w _
  have h2 : w2.heap[w.heap.size + 1]? = some (.cells #[.string ⟨#[102]⟩, .slice (some ⟨w.heap.size, 0, none⟩) 2 2] 40 (0, 0)) := by
    rw [hw2]
    have h := heap_alloc_at (w.alloc (.cells #[.string ⟨#[120, 10]⟩, .string ⟨#[121]⟩] 9)) (.cells #[.string ⟨#[102]⟩, .slice (some ⟨w.heap.size, 0, none⟩) 2 2] 40)
    rw [show (w.alloc (Obj.cells #[Value.string ⟨#[120, 10]⟩, Value.string ⟨#[121]⟩] 9)).heap.size = w.heap.size + 1 from by simp] at h
    exact h
  have hF : FilesV w2 (.slice (some ⟨w.heap.size + 1, 0, none⟩) 1 1) fs1 := by
    refine .inr ⟨w.heap.size + 1, 0, 1, rfl, Nat.le_refl _, by omega, by decide, ?_⟩
    intro j p hj
    cases j with
    | succ j => cases j <;> cases hj
    | zero =>
      cases hj
      refine ⟨.slice (some ⟨w.heap.size, 0, none⟩) 2 2, by rw [Lib.cell_of_heap h2]; rfl, by rw [Lib.cell_of_heap h2]; rfl, .inr ⟨w.heap.size, 0, 2, [⟨#[120, 10]⟩, ⟨#[121]⟩], rfl, ?_, by omega, by decide, by decide, rfl, by decide⟩⟩
      intro j x hx
      rw [Lib.cell_of_heap h1]
      match j, hx with
      | 0, hx => cases hx; rfl
      | 1, hx => cases hx; rfl
  have hM2 : MaxOk w2 := hM.below hb2 hM.lt
  have HL1 := Lib.hid (Load_any fs1 (B text1) (.slice (some ⟨w.heap.size + 1, 0, none⟩) 1 1) w2 ⟨_, _, _, rfl⟩ hM2 (by decide) (by decide) (.inr ⟨hF, fun x t h => by
    obtain ⟨k, p, e1, e2, e3, _⟩ := look_some h
    have hm := List.mem_of_getElem? e1
    simp [fs1] at hm
    subst hm; subst e3; decide⟩))
  rw [B_list, show (List.map (fun x => x.1) fs1).length + 1 = 2 from rfl, res1] at HL1
  have HL2 := Lib.hid (fun W (h : MaxOk W) => Load_any [] (B text2) (.slice none 0 0) W ⟨_, _, _, rfl⟩ h (by decide) (by decide) (.inr ⟨.inl ⟨none, 0, rfl, rfl⟩, fun x t h => by cases h⟩))
  have hr2 : ∀ W, LoadR W (loadF (look []) ((List.map (fun x : Str × Str => x.1) []).length + 1) (B text2).data.toList) = LoadR W (.bad [] 2 192) := by
    intro W
    rw [B_list, show (List.map (fun x : Str × Str => x.1) []).length + 1 = 1 from rfl, res2]
  have HR2 := Lib.hid hr2
  have HB2 := Lib.hid hb2
  have HM2 := Lib.hid hM2
  have HZ2 := Lib.hid hz2
  clear h1 h2 hF hM2 hb2 hM hr2 hz2
  subst hw2
  go_enter Tryd.func7, Tryd.ntmps7
  go_wp2_with fail
  refine HL1.out.mono ?_
  rintro e w3 ⟨lv, rfl, hrow, hb3⟩
  have HP := Lib.hid (Pls.ofOwn hrow)
  have HB3 := Lib.hid (HB2.out.trans (hb3.mono HB2.out.size))
  have HM3 := Lib.hid (HM2.out.below hb3 HM2.out.lt)
  obtain ⟨la, lc, rfl⟩ := HP.out.slice
  clear hrow hb3 HL1 HM2
  have hB : B out1 = ⟨#[97, 10, 120, 10, 121, 10, 98, 10]⟩ := rfl
  have hl4 : lines1.length = 4 := rfl
  rw [hB, hl4]
  obtain ⟨w4, hw4⟩ : ∃ w4, w4 = (w3.alloc (.cells #[.string ⟨#[97, 10, 120, 10, 121, 10, 98, 10]⟩, .slice la 4 lc] 27)).alloc (.cells #[.string ⟨#[]⟩, .int .i64 0] 29) := ⟨_, rfl⟩
  have hb4 : Below w3.heap.size w3 w4 := hw4 ▸ (((Below.refl _ _).alloc (Nat.le_refl _) _).alloc (by simp) _)
  have hz4 : w4.heap.size = w3.heap.size + 1 + 1 := by rw [hw4]; simp
  have hs4 : w4.heap[w3.heap.size]? = some (.cells #[.string ⟨#[97, 10, 120, 10, 121, 10, 98, 10]⟩, .slice la 4 lc] 27 (0, 0)) := by
    rw [hw4, heap_alloc_lt _ _ _ (by simp)]; exact heap_alloc_at w3 _
  have HL2' := Lib.hid (HL2.out w4 (HM3.out.below hb4 HM3.out.lt))
  rw [HR2.out w4] at HL2'
  have HB4 := Lib.hid (HB3.out.trans (hb4.mono HB3.out.size))
  have HP4 := Lib.hid (HP.out.below hb4)
  have hP3 := HB3.out.size
  clear HL2 HR2 hb4 HM3 HP HB2 HZ2
  subst hw4
  go_wp2_with fail
  refine HL2'.out.mono ?_
  rintro e w5 ⟨rfl, hb5⟩
  have s0 : w5.cell? ⟨w3.heap.size, 0, none⟩ = some (.string ⟨#[97, 10, 120, 10, 121, 10, 98, 10]⟩) := by
    rw [hb5.cell (p := ⟨w3.heap.size, 0, none⟩) (by rw [hz4]; show w3.heap.size < _; omega), Lib.cell_of_heap hs4]; rfl
  have s1 : w5.cell? ⟨w3.heap.size, 1, none⟩ = some (.slice la 4 lc) := by
    rw [hb5.cell (p := ⟨w3.heap.size, 1, none⟩) (by rw [hz4]; show w3.heap.size < _; omega), Lib.cell_of_heap hs4]; rfl
  have hlt5 : w3.heap.size < w5.heap.size := by have := hb5.size; omega
  have HP5 := Lib.hid (HP4.out.below hb5)
  have HB5 := Lib.hid (HB4.out.trans (hb5.mono HB4.out.size))
  have hBn : B ([] : Str) = ⟨#[]⟩ := rfl
  rw [hBn]
  rw [hl4] at HP5
  obtain ⟨w6, hw6⟩ : ∃ w6, w6 = ((w5.alloc (.cells #[.string ⟨#[]⟩, .slice none 0 0] 27)).alloc (.cells #[.string ⟨#[]⟩, .int .i64 2] 29)).alloc (.cells #[.string ⟨#[]⟩, .int .i64 1, .string ⟨#[102]⟩, .int .i64 1, .string ⟨#[102]⟩, .int .i64 2, .string ⟨#[]⟩, .int .i64 3] 29) := ⟨_, rfl⟩
  have hb6 : Below w5.heap.size w5 w6 := hw6 ▸ ((((Below.refl _ _).alloc (Nat.le_refl _) _).alloc (by simp) _).alloc (by simp; omega) _)
  have hh6 : w6.heap[w5.heap.size + 1 + 1]? = some (.cells #[.string ⟨#[]⟩, .int .i64 1, .string ⟨#[102]⟩, .int .i64 1, .string ⟨#[102]⟩, .int .i64 2, .string ⟨#[]⟩, .int .i64 3] 29 (0, 0)) := by
    rw [hw6]
    have h := heap_alloc_at ((w5.alloc (.cells #[.string ⟨#[]⟩, .slice none 0 0] 27)).alloc (.cells #[.string ⟨#[]⟩, .int .i64 2] 29)) (.cells #[.string ⟨#[]⟩, .int .i64 1, .string ⟨#[102]⟩, .int .i64 1, .string ⟨#[102]⟩, .int .i64 2, .string ⟨#[]⟩, .int .i64 3] 29)
    rw [show ((w5.alloc (Obj.cells #[Value.string ⟨#[]⟩, Value.slice none 0 0] 27)).alloc (Obj.cells #[Value.string ⟨#[]⟩, Value.int .i64 2] 29)).heap.size = w5.heap.size + 1 + 1 from by simp] at h
    exact h
  have HPL : Hid (Pls w6 (.slice (some ⟨w5.heap.size + 1 + 1, 0, none⟩) 4 4) lines1) := by
    refine .inr ⟨w5.heap.size + 1 + 1, 4, rfl, lt_of_heap hh6, ?_⟩
    intro j p hj
    rw [Lib.cell_of_heap hh6, Lib.cell_of_heap hh6]
    match j, hj with
    | 0, hj => cases hj; exact ⟨rfl, rfl⟩
    | 1, hj => cases hj; exact ⟨rfl, rfl⟩
    | 2, hj => cases hj; exact ⟨rfl, rfl⟩
    | 3, hj => cases hj; exact ⟨rfl, rfl⟩
    | j + 4, hj => cases j <;> cases hj
  have HSm := Lib.hid (Same_any (HP5.out.below hb6) HPL.out (by decide))
  have hp6 : w6.heap[w5.heap.size + 1]? = some (.cells #[.string ⟨#[]⟩, .int .i64 2] 29 (0, 0)) := by
    rw [hw6, heap_alloc_lt _ _ _ (by simp)]
    have h := heap_alloc_at (w5.alloc (.cells #[.string ⟨#[]⟩, .slice none 0 0] 27)) (.cells #[.string ⟨#[]⟩, .int .i64 2] 29)
    rw [show (w5.alloc (Obj.cells #[Value.string ⟨#[]⟩, Value.slice none 0 0] 27)).heap.size = w5.heap.size + 1 from by simp] at h
    exact h
  have hz6 : w6.heap.size = w5.heap.size + 1 + 1 + 1 := by rw [hw6]; simp
  have HB6 := Lib.hid (HB5.out.trans (hb6.mono HB5.out.size))
  clear hb5 hb6 hh6 HP4 HL2'
  subst hw6
  go_wp2_with fail
  refine HSm.out.mono ?_
  rintro e w7 ⟨rfl, hb7⟩
  have q0 : w7.cell? ⟨w5.heap.size + 1, 0, none⟩ = some (.string ⟨#[]⟩) := by
    rw [hb7.cell (p := ⟨w5.heap.size + 1, 0, none⟩) (by rw [hz6]; show w5.heap.size + 1 < _; omega), Lib.cell_of_heap hp6]; rfl
  have q1 : w7.cell? ⟨w5.heap.size + 1, 1, none⟩ = some (.int .i64 2) := by
    rw [hb7.cell (p := ⟨w5.heap.size + 1, 1, none⟩) (by rw [hz6]; show w5.heap.size + 1 < _; omega), Lib.cell_of_heap hp6]; rfl
  have HB7 := Lib.hid (HB6.out.trans (hb7.mono HB6.out.size))
  clear hb7 hp6 hz6 HSm HPL
  go_wp2_with fail
  go_ret
  exact ⟨rfl, HB7.out⟩
end Go.Proofs.YtmhjfdnpmfhmjaaDoor
