/- The document's example of package cal. -/
import Derived.Test.YtcipmfjefmjacaaGreatDoorC8
import Derived.Test.YtcipmfjefmjacaaGreatDoorC6
namespace Go.Proofs.YtcipmfjefmjacaaGreatDoor
open Go.RowKit
set_option linter.unusedVariables false

theorem digits_of {l : List UInt8} (h : (l.all fun c => decide (48 ≤ c.toNat ∧ c.toNat ≤ 57)) = true) : Digits l := fun c hc => by
  have h2 := List.all_eq_true.1 h c hc
  simpa using h2
theorem word_E {s : ByteArray} {v : Int} (h1 : floatToIntVal .f64 (prefB s.data.toList) .i64 = some v) (h2 : prefN s.data.toList = s.size) (h3 : Digits s.data.toList) (h4 : s.size ≤ 7) (h5 : -1000000 ≤ v) (h6 : v ≤ 1000000) : Word s v := ⟨h1, h2, h3, h4, h5, h6⟩
theorem Parse_E (w : World) (hT : Tabs w) : Calls Tryz.prog 16 #[.string ⟨#[50, 48, 48, 48, 32, 50, 32, 50, 57, 32, 48, 32, 48, 32, 48]⟩] w fun e w' => e = .returned (.int .i64 951782400) ∧ Below w.heap.size w w' := by
  have z : Word ⟨#[48]⟩ 0 := word_E (by kernel_rfl) (by kernel_rfl) (digits_of (by decide)) (by decide) (by decide) (by decide)
  have h := Parse_ok ⟨#[50, 48, 48, 48, 32, 50, 32, 50, 57, 32, 48, 32, 48, 32, 48]⟩ ⟨#[50, 48, 48, 48]⟩ ⟨#[50]⟩ ⟨#[50, 57]⟩ ⟨#[48]⟩ ⟨#[48]⟩ ⟨#[48]⟩ 2000 2 29 0 0 0 w hT (by decide) (by kernel_rfl)
    (by
      have h : ∀ b ∈ ([50, 48, 48, 48, 32, 50, 32, 50, 57, 32, 48, 32, 48, 32, 48] : List UInt8), b.toNat < 128 := by decide
      intro j b hj
      exact h b (List.mem_of_getElem? hj))
    (by kernel_rfl) (word_E (by kernel_rfl) (by kernel_rfl) (digits_of (by decide)) (by decide) (by decide) (by decide)) (word_E (by kernel_rfl) (by kernel_rfl) (digits_of (by decide)) (by decide) (by decide) (by decide)) (word_E (by kernel_rfl) (by kernel_rfl) (digits_of (by decide)) (by decide) (by decide) (by decide)) z z z (by decide) (by decide)
  rw [show atL 2000 2 29 0 0 0 = 951782400 by decide] at h
  exact h

set_option maxRecDepth 100000 in
set_option maxHeartbeats 4000000 in
theorem fixed13_any (w : World) (hT : Tabs w) : Calls Tryz.prog 9 #[] w fun e w' => e = .returned (.bool true) ∧ Below w.heap.size w w' := by
  have HT := Lib.hid hT
  have HO := Lib.hid (Of_E w)
  have HX := Lib.hid Text_E
  have HP := Lib.hid Parse_E
  have hd : dateV 2000 2 29 0 0 0 2 60 = .agg #[.int .i64 2000, .int .i64 2, .int .i64 29, .int .i64 0, .int .i64 0, .int .i64 0, .int .i64 2, .int .i64 60] := rfl
  rw [hd] at HO
  rw [show fmtE = ⟨#[37, 70, 32, 37, 84, 32, 37, 97, 32, 37, 106, 32, 37, 86]⟩ from rfl, show textE = ⟨#[50, 48, 48, 48, 45, 48, 50, 45, 50, 57, 32, 48, 48, 58, 48, 48, 58, 48, 48, 32, 84, 117, 101, 32, 48, 54, 48, 32, 48, 57]⟩ from rfl] at HX
  clear hT hd
  go_enter Tryz.func9, Tryz.ntmps9
  go_wp2_with fail
  refine HO.out.mono ?_
  rintro e w1 ⟨rfl, hb1⟩
  have HB1 := Lib.hid hb1
  have hs1 := hb1.size
  clear hb1 HO
  go_wp2_with fail
  refine (HX.out _ (HT.out.below (HB1.out.alloc hs1 _))).mono ?_
  rintro e w2 ⟨rfl, hb2⟩
  have HB2 := Lib.hid ((HB1.out.alloc hs1 _).trans (hb2.mono (by simp; omega)))
  have hs2 := hb2.size
  have k0 : w2.cell? ⟨w1.heap.size, 0, none⟩ = some (.int .i64 2000) := by rw [hb2.cell (p := ⟨w1.heap.size, 0, none⟩) (by simp), World.cell?_alloc_new]; rfl
  have k1 : w2.cell? ⟨w1.heap.size, 1, none⟩ = some (.int .i64 2) := by rw [hb2.cell (p := ⟨w1.heap.size, 1, none⟩) (by simp), World.cell?_alloc_new]; rfl
  have k2 : w2.cell? ⟨w1.heap.size, 2, none⟩ = some (.int .i64 29) := by rw [hb2.cell (p := ⟨w1.heap.size, 2, none⟩) (by simp), World.cell?_alloc_new]; rfl
  have k3 : w2.cell? ⟨w1.heap.size, 3, none⟩ = some (.int .i64 0) := by rw [hb2.cell (p := ⟨w1.heap.size, 3, none⟩) (by simp), World.cell?_alloc_new]; rfl
  have k4 : w2.cell? ⟨w1.heap.size, 4, none⟩ = some (.int .i64 0) := by rw [hb2.cell (p := ⟨w1.heap.size, 4, none⟩) (by simp), World.cell?_alloc_new]; rfl
  have k5 : w2.cell? ⟨w1.heap.size, 5, none⟩ = some (.int .i64 0) := by rw [hb2.cell (p := ⟨w1.heap.size, 5, none⟩) (by simp), World.cell?_alloc_new]; rfl
  have k6 : w2.cell? ⟨w1.heap.size, 6, none⟩ = some (.int .i64 2) := by rw [hb2.cell (p := ⟨w1.heap.size, 6, none⟩) (by simp), World.cell?_alloc_new]; rfl
  have k7 : w2.cell? ⟨w1.heap.size, 7, none⟩ = some (.int .i64 60) := by rw [hb2.cell (p := ⟨w1.heap.size, 7, none⟩) (by simp), World.cell?_alloc_new]; rfl
  have HT2 := Lib.hid (HT.out.below HB2.out)
  clear hb2 HB1 HX
  go_wp2_with fail
  refine (HP.out w2 HT2.out).mono ?_
  rintro e w3 ⟨rfl, hb3⟩
  have HB3 := Lib.hid (HB2.out.trans (hb3.mono (by simp at hs2; omega)))
  clear hb3 HB2 HP
  go_wp2_with fail
  go_ret
  exact ⟨rfl, HB3.out⟩
end Go.Proofs.YtcipmfjefmjacaaGreatDoor
