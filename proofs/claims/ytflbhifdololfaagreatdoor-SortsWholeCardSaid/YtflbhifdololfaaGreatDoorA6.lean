/- Package assoc: a nil array. -/
import Derived.Test.YtflbhifdololfaaGreatDoorA3
namespace Go.Proofs.YtflbhifdololfaaGreatDoor
open Go.RowKit
set_option linter.unusedVariables false

theorem clear_nil (w : World) : Calls Tryz.prog 38 #[.pointer none] w fun e w' => e = .returned (.tuple #[]) ∧ w = w' := by
  go_enter Tryz.func38, Tryz.ntmps38
  go_wp2_with fail
  go_end0
  exact ⟨rfl, rfl⟩
theorem len_nil (w : World) : Calls Tryz.prog 36 #[.pointer none] w fun e w' => e = .returned (.int .i64 0) ∧ w = w' := by
  go_enter Tryz.func36, Tryz.ntmps36
  go_wp2_with fail
  go_ret
  exact ⟨rfl, rfl⟩
theorem total_nil (w : World) : Calls Tryz.prog 39 #[.pointer none] w fun e w' => e = .returned (.int .i64 0) ∧ w = w' := by
  go_enter Tryz.func39, Tryz.ntmps39
  go_wp2_with fail
  go_ret
  exact ⟨rfl, rfl⟩
theorem get_nil (k : ByteArray) (w : World) : Calls Tryz.prog 64 #[.pointer none, .string k] w fun e w' =>
    e = .returned (.tuple #[.agg #[.int .i64 0, .int .i64 0, .float .f64 0, .string ⟨#[]⟩, .pointer none], .bool false]) ∧ Below w.heap.size w w' := by
  go_enter Tryz.func64, Tryz.ntmps64
  go_wp2_with fail
  exact bodyPost_ret (v := .tuple #[.agg #[.int .i64 0, .int .i64 0, .float .f64 0, .string ⟨#[]⟩, .pointer none], .bool false])
    (by simp [results, Tryz.results64, go_sem]) rfl ⟨rfl, ((Below.refl _ _).alloc (Nat.le_refl _) _)⟩
theorem kind_nil (k : ByteArray) (w : World) : Calls Tryz.prog 31 #[.pointer none, .string k] w fun e w' =>
    e = .returned (.int .i64 0) ∧ Below w.heap.size w w' := by
  have G := Lib.hid (get_nil k w)
  go_enter Tryz.func31, Tryz.ntmps31
  go_wp2_with fail
  refine G.out.mono ?_
  rintro e w1 ⟨rfl, hb⟩
  have HB := Lib.hid hb
  clear hb G
  go_wp2_with fail
  go_ret
  exact ⟨rfl, HB.out.alloc HB.out.size _⟩
theorem set_nil (k : ByteArray) (x1 : Int) (x2 : Nat) (x3 : ByteArray) (w : World) : Calls Tryz.prog 32 #[.pointer none, .string k, .agg #[.int .i64 x1, .float .f64 x2, .string x3]] w fun e w' =>
    e = .returned (.int .i64 2) ∧ Below w.heap.size w w' := by
  go_enter Tryz.func32, Tryz.ntmps32
  go_wp2_with fail
  go_ret
  exact ⟨rfl, (Below.refl _ _).alloc (Nat.le_refl _) _⟩
theorem sub_nil (k : ByteArray) (w : World) : Calls Tryz.prog 63 #[.pointer none, .string k] w fun e w' =>
    e = .returned (.tuple #[.pointer none, .int .i64 2]) ∧ w = w' := by
  go_enter Tryz.func63, Tryz.ntmps63
  go_wp2_with fail
  go_ret2
  exact ⟨rfl, rfl⟩
theorem delete_nil (k : ByteArray) (w : World) : Calls Tryz.prog 37 #[.pointer none, .string k] w fun e w' =>
    e = .returned (.bool false) ∧ Below w.heap.size w w' := by
  have G := Lib.hid (kind_nil k w)
  go_enter Tryz.func37, Tryz.ntmps37
  go_wp2_with fail
  refine G.out.mono ?_
  rintro e w1 ⟨rfl, hb⟩
  have HB := Lib.hid hb
  clear hb G
  go_wp2_with fail
  go_ret
  exact ⟨rfl, HB.out⟩
theorem entries_nil (w : World) : Calls Tryz.prog 66 #[.pointer none] w fun e w' => e = .returned (.slice none 0 0) ∧ w = w' := by
  go_enter Tryz.func66, Tryz.ntmps66
  go_wp2_with fail
  go_ret
  exact ⟨rfl, rfl⟩
theorem sall_nil (w : World) : Calls Tryz.prog 67 #[.slice none 0 0] w fun e w' => e = .returned (.func (.func 104) #[] #[.pointer (some ⟨w.heap.size, 0, none⟩)]) ∧ w' = w.alloc (.cells #[.slice none 0 0] 54) := by
  go_enter Tryz.func67, Tryz.ntmps67
  go_wp2_with fail
  go_ret
  exact ⟨rfl, rfl⟩
theorem all_nil (w : World) : Calls Tryz.prog 40 #[.pointer none] w fun e w' => e = .returned (.func (.func 104) #[] #[.pointer (some ⟨w.heap.size, 0, none⟩)]) ∧ w' = w.alloc (.cells #[.slice none 0 0] 54) := by
  go_enter Tryz.func40, Tryz.ntmps40
  go_wp2_with fail
  refine (entries_nil _).mono ?_
  rintro e _ ⟨rfl, rfl⟩
  go_wp2_with fail
  refine (sall_nil _).mono ?_
  rintro e w1 ⟨rfl, hw⟩
  have HW := Lib.hid hw
  clear hw
  go_wp2_with fail
  go_ret
  exact ⟨rfl, HW.out⟩
@[go_sem] theorem callFbA (b : Nat) (w : World) : (callFunc 77 #[.float .f64 b]).run Tryz.prog w = .ok (.value (.int .u64 b)) w := by
  rw [run_callFunc_extern Tryz.func77 (by kernel_rfl) (by kernel_rfl) (by kernel_rfl) (e := Extern.MathFloatBits.float64bits) (by kernel_rfl)]
  rfl
set_option maxHeartbeats 1000000 in
theorem Get_nil (k : ByteArray) (w : World) : Calls Tryz.prog 33 #[.pointer none, .string k] w fun e w' =>
      e = .returned (.tuple #[.agg #[.int .i64 0, .float .f64 0, .string ⟨#[]⟩], .bool false]) ∧ Below w.heap.size w w' := by
  go_enter Tryz.func33, Tryz.ntmps33
  go_wp2_with fail
  refine (get_nil k _).mono ?_
  rintro e w1 ⟨rfl, hb⟩
  have hb' : Below w.heap.size w w1 := (((Below.refl _ _).alloc (Nat.le_refl _) _).trans (hb.mono (by simp)))
  have hs1 : w.heap.size < w1.heap.size := by have := hb.size; simp at this; omega
  have r0 : w1.cell? ⟨w.heap.size, 0, none⟩ = some (.int .i64 0) := by rw [hb.cell (by simp)]; simp [go_sem]
  have r1 : w1.cell? ⟨w.heap.size, 1, none⟩ = some (.float .f64 0) := by rw [hb.cell (by simp)]; simp [go_sem]
  have r2 : w1.cell? ⟨w.heap.size, 2, none⟩ = some (.string ⟨#[]⟩) := by rw [hb.cell (by simp)]; simp [go_sem]
  have rf : ∀ i, w1.frozen? ⟨w.heap.size, i, none⟩ = false := by intro i; rw [hb.frozen (by simp)]; simp [go_sem]
  have RF := Lib.hid rf
  have HB := Lib.hid hb'
  clear hb hb' rf
  go_wp2_with fail
  generalize hW2 : World.alloc _ _ = W2
  have z2 : W2.heap.size = w1.heap.size + 1 := by rw [← hW2]; simp
  have q0 : W2.cell? ⟨w.heap.size, 0, none⟩ = some (.int .i64 0) := by rw [← hW2, World.cell?_alloc_past _ _ _ hs1]; exact r0
  have q1 : W2.cell? ⟨w.heap.size, 1, none⟩ = some (.float .f64 0) := by rw [← hW2, World.cell?_alloc_past _ _ _ hs1]; exact r1
  have q2 : W2.cell? ⟨w.heap.size, 2, none⟩ = some (.string ⟨#[]⟩) := by rw [← hW2, World.cell?_alloc_past _ _ _ hs1]; exact r2
  have qf : ∀ i, W2.frozen? ⟨w.heap.size, i, none⟩ = false := by
    intro i; rw [← hW2, World.frozen?_of_block (heap_alloc_lt _ _ _ (by exact hs1))]; exact RF.out i
  have t1 : W2.cell? ⟨w1.heap.size, 1, none⟩ = some (.int .i64 0) := by rw [← hW2]; simp [go_sem]
  have t2 : W2.cell? ⟨w1.heap.size, 2, none⟩ = some (.float .f64 0) := by rw [← hW2]; simp [go_sem]
  have t3 : W2.cell? ⟨w1.heap.size, 3, none⟩ = some (.string ⟨#[]⟩) := by rw [← hW2]; simp [go_sem]
  have HB2 := Lib.hid (show Below w.heap.size w W2 by rw [← hW2]; exact HB.out.alloc HB.out.size _)
  have QF := Lib.hid qf
  clear hW2 r0 r1 r2 RF HB qf
  go_region_held3 (fun w' => w'.cell? ⟨w1.heap.size, 1, none⟩ = some (.int .i64 0) ∧ w'.cell? ⟨w1.heap.size, 2, none⟩ = some (.float .f64 0) ∧ w'.cell? ⟨w1.heap.size, 3, none⟩ = some (.string ⟨#[]⟩))
    (first | exact ⟨t1, t2, t3⟩ | exact ⟨s1, s2, s3⟩ | (refine ⟨?_, ?_, ?_⟩ <;> (rw [World.cell?_setCell_far _ _ _ _ (by simp; omega), World.cell?_setCell_far _ _ _ _ (by simp; omega), World.cell?_setCell_far _ _ _ _ (by simp; omega)]; assumption)))
    (first | (go_at_call 31; refine (kind_nil k _).mono ?_; rintro e w3 ⟨rfl, hb2⟩
              have u0 : w3.cell? ⟨w.heap.size, 0, none⟩ = some (.int .i64 0) := (hb2.cell (by simp [z2]; omega)).trans q0
              have u1 : w3.cell? ⟨w.heap.size, 1, none⟩ = some (.float .f64 0) := (hb2.cell (by simp [z2]; omega)).trans q1
              have u2 : w3.cell? ⟨w.heap.size, 2, none⟩ = some (.string ⟨#[]⟩) := (hb2.cell (by simp [z2]; omega)).trans q2
              have s1 : w3.cell? ⟨w1.heap.size, 1, none⟩ = some (.int .i64 0) := (hb2.cell (by simp [z2])).trans t1
              have s2 : w3.cell? ⟨w1.heap.size, 2, none⟩ = some (.float .f64 0) := (hb2.cell (by simp [z2])).trans t2
              have s3 : w3.cell? ⟨w1.heap.size, 3, none⟩ = some (.string ⟨#[]⟩) := (hb2.cell (by simp [z2])).trans t3
              have v0 : w3.frozen? ⟨w.heap.size, 0, none⟩ = false := (hb2.frozen (by simp [z2]; omega)).trans (QF.out 0)
              have v1 : w3.frozen? ⟨w.heap.size, 1, none⟩ = false := (hb2.frozen (by simp [z2]; omega)).trans (QF.out 1)
              have v2 : w3.frozen? ⟨w.heap.size, 2, none⟩ = false := (hb2.frozen (by simp [z2]; omega)).trans (QF.out 2)))
  go_wp2
  refine bodyPost_ret (v := .tuple #[.agg #[.int .i64 0, .float .f64 0, .string ⟨#[]⟩], .bool false]) (by simp [results, Tryz.results33, go_sem, *]) rfl ⟨rfl, ?_⟩
  have := (hb2.mono (show w.heap.size ≤ _ by simp [z2]; omega))
  exact ((((HB2.out.drew).trans this).setCell (by simp) _).setCell (by simp) _).setCell (by simp) _
end Go.Proofs.YtflbhifdololfaaGreatDoor
