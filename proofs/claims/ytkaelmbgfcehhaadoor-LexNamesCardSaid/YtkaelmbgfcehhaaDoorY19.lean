/- thresherlaw20.LexNames, walked. -/
import Derived.Test.YtkaelmbgfcehhaaDoorY15
namespace Go.Proofs.YtkaelmbgfcehhaaDoor
open Go.RowKit
set_option linter.unusedVariables false
set_option linter.unusedSimpArgs false

/-- the document's examples of faults: a text, the line, the error -/
def faultsN : List (List UInt8 × Nat × Nat) := [([97, 10, 96], 2, 200), ([34, 97], 1, 201), ([34, 97, 92, 10, 98, 10, 34], 1, 201), ([120, 32, 61, 32, 47, 97], 1, 202), ([47, 97, 92], 1, 202), ([49, 101, 57, 57, 57], 1, 201), ([46], 1, 200), ([38], 1, 200), ([92, 120], 1, 200)]
def cellsN (L : List (List UInt8 × Nat × Nat)) : List Value := L.flatMap fun q => [.string (bs q.1), .int .i64 (q.2.1 : Int), .int .i64 (q.2.2 : Int)]
set_option maxRecDepth 100000 in
theorem faults_scan : ∀ q ∈ faultsN, scanR litL (q.1.length + 1) q.1 1 [] = .error (q.2.1, q.2.2) := by
  intro q hq
  simp only [faultsN, List.mem_cons, List.not_mem_nil, or_false] at hq
  rcases hq with rfl | rfl | rfl | rfl | rfl | rfl | rfl | rfl | rfl <;> kernel_rfl
theorem cellsN_at : ∀ (L : List (List UInt8 × Nat × Nat)) (i : Nat) (q : List UInt8 × Nat × Nat), L[i]? = some q → (cellsN L)[i * 3]? = some (.string (bs q.1)) ∧ (cellsN L)[i * 3 + 1]? = some (.int .i64 (q.2.1 : Int)) ∧ (cellsN L)[i * 3 + 2]? = some (.int .i64 (q.2.2 : Int))
  | [], i, q, h => by simp at h
  | a :: L, 0, q, h => by
    have e : a = q := by simpa using h
    subst e
    exact ⟨rfl, rfl, rfl⟩
  | a :: L, i + 1, q, h => by
    have ih := cellsN_at L i q (by simpa using h)
    have e : ∀ k, (cellsN (a :: L))[(i + 1) * 3 + k]? = (cellsN L)[i * 3 + k]? := fun k => by
      show ([.string (bs a.1), .int .i64 (a.2.1 : Int), .int .i64 (a.2.2 : Int)] ++ cellsN L)[(i + 1) * 3 + k]? = _
      rw [List.getElem?_append_right (by show 3 ≤ _; omega)]
      congr 1
      show (i + 1) * 3 + k - 3 = _
      omega
    exact ⟨(e 0).trans ih.1, (e 1).trans ih.2.1, (e 2).trans ih.2.2⟩

set_option maxHeartbeats 16000000 in
set_option maxRecDepth 100000 in
theorem lexNames_any (w : World) (hM : MaxOk w) : Calls Tryd.prog 3 #[] w fun e w' => e = .returned (.bool true) ∧ Below w.heap.size w w' := by
  have HF := Lib.hid (fixed20_any w hM)
  have HM := Lib.hid hM
  have hMl := hM.lt
  clear hM
  go_enter Tryd.func3, Tryd.ntmps3
  go_wp2_with fail
  refine HF.out.mono ?_
  rintro e w1 ⟨rfl, hb1⟩
  have HB1 := Lib.hid hb1
  have hz1 := hb1.size
  clear hb1 HF
  go_wp2_with fail
  generalize hw2 : World.alloc w1 _ = w2
  have hh : ∃ t, w2.heap[w1.heap.size]? = some (.cells (cellsN faultsN).toArray t (0, 0)) := ⟨_, by rw [← hw2]; exact heap_alloc_at w1 _⟩
  have hrow : ∀ i q, faultsN[i]? = some q → w2.cell? ⟨w1.heap.size, i * 3, none⟩ = some (.string (bs q.1)) ∧ w2.cell? ⟨w1.heap.size, i * 3 + 1, none⟩ = some (.int .i64 (q.2.1 : Int)) ∧ w2.cell? ⟨w1.heap.size, i * 3 + 2, none⟩ = some (.int .i64 (q.2.2 : Int)) := by
    intro i q hq
    obtain ⟨t, ht⟩ := hh
    obtain ⟨a1, a2, a3⟩ := cellsN_at faultsN i q hq
    refine ⟨?_, ?_, ?_⟩
    · rw [Lib.cell_of_heap ht]; simpa using a1
    · rw [Lib.cell_of_heap ht]; simpa using a2
    · rw [Lib.cell_of_heap ht]; simpa using a3
  have hlt2 : w1.heap.size < w2.heap.size := by rw [← hw2, World.size_alloc]; omega
  have HB2 : Hid (Below w.heap.size w w2) := by rw [← hw2]; exact HB1.out.alloc hz1 _
  have HRow := Lib.hid hrow
  have HM2 := Lib.hid (HM.out.below HB2.out hMl)
  clear hh hrow hw2
  go_loopw [43] (fun p wr => ∃ i : Nat, p = .int .i64 (i : Int) ∧ i ≤ 9 ∧ Hid (Below w2.heap.size w2 wr)) (fun p _ => 9 - (intOf p).toNat)
  case atStart => exact ⟨0, rfl, by decide, Below.refl _ _⟩
  case round =>
    obtain ⟨i, rfl, hi, HB⟩ := hrel
    rcases Nat.lt_or_ge i 9 with hlt | hge
    · have hltI : (i : Int) < 9 := by omega
      obtain ⟨q, hq⟩ : ∃ q, faultsN[i]? = some q := ⟨_, List.getElem?_eq_getElem (by show i < 9; exact hlt)⟩
      obtain ⟨r1, r2, r3⟩ := HRow.out i q hq
      have hsc := faults_scan q (List.mem_of_getElem? hq)
      have hql : q.1.length ≤ 100 := by
        have : ∀ q ∈ faultsN, q.1.length ≤ 100 := by decide
        exact this q (List.mem_of_getElem? hq)
      have d0 := (HB.out.cell (p := ⟨w1.heap.size, i * 3, none⟩) hlt2).trans r1
      have d1 := (HB.out.cell (p := ⟨w1.heap.size, i * 3 + 1, none⟩) hlt2).trans r2
      have d2 := (HB.out.cell (p := ⟨w1.heap.size, i * 3 + 2, none⟩) hlt2).trans r3
      have hSc := fun W hW => scan_any (bs q.1) W hW (by rw [bs_size]; omega)
      simp only [bs_data, hsc] at hSc
      have HSc := Lib.hid hSc
      obtain ⟨tx, ln, er⟩ := q
      have d0 : wr.cell? ⟨w1.heap.size, i * 3, none⟩ = some (.string (bs tx)) := d0
      have d1 : wr.cell? ⟨w1.heap.size, i * 3 + 1, none⟩ = some (.int .i64 (ln : Int)) := d1
      have d2 : wr.cell? ⟨w1.heap.size, i * 3 + 2, none⟩ = some (.int .i64 (er : Int)) := d2
      have hrl : w1.heap.size < wr.heap.size := Nat.lt_of_lt_of_le hlt2 HB.out.size
      obtain ⟨i1, hi1⟩ : ∃ i1, i1 = i + 1 := ⟨_, rfl⟩
      have ei : (i : Int) + 1 = (i1 : Int) := by omega
      have eiw := wrapN i1 (by omega)
      have HI1 : Hid (i1 ≤ 9 ∧ 9 - i1 < 9 - i) := ⟨by omega, by omega⟩
      clear r1 r2 r3 hsc hq hSc hi1 hql
      go_wp2_with fail
      generalize hwa : World.alloc wr _ = wa
      have HBa : Hid (Below w2.heap.size w2 wa) := by rw [← hwa]; exact HB.out.alloc HB.out.size _
      have ha : ∃ t, wa.heap[wr.heap.size]? = some (.cells #[.string (bs tx), .int .i64 (ln : Int), .int .i64 (er : Int)] t (0, 0)) := ⟨_, by rw [← hwa]; exact heap_alloc_at wr _⟩
      have hza : wr.heap.size < wa.heap.size := by rw [← hwa, World.size_alloc]; omega
      clear hwa d0 d1 d2
      refine (HSc.out wa (HM2.out.below HBa.out (Nat.lt_of_lt_of_le (Nat.lt_of_lt_of_le hMl (Nat.le_trans hz1 (Nat.le_of_lt hlt2))) (Nat.le_refl _)))).mono ?_
      rintro e w3 ⟨rfl, hb3⟩
      obtain ⟨t, ha⟩ := ha
      have h3 : w3.heap[wr.heap.size]? = some (.cells #[.string (bs tx), .int .i64 (ln : Int), .int .i64 (er : Int)] t (0, 0)) := (hb3.block _ hza).trans ha
      have e1 : w3.cell? ⟨wr.heap.size, 1, none⟩ = some (.int .i64 (ln : Int)) := by rw [Lib.cell_of_heap h3]; rfl
      have e2 : w3.cell? ⟨wr.heap.size, 2, none⟩ = some (.int .i64 (er : Int)) := by rw [Lib.cell_of_heap h3]; rfl
      have HB3 := Lib.hid (HBa.out.trans (hb3.mono HBa.out.size))
      clear hb3 ha h3 HSc
      go_wp2_with fail
      go_roundw
      case rel => exact ⟨i1, rfl, HI1.out.1, HB3⟩
      case measure => simp only [intOf]; exact HI1.out.2
    · have hgeI : (9 : Int) ≤ (i : Int) := by omega
      obtain rfl : i = 9 := by omega
      have HBf := Lib.hid (HB2.out.trans (HB.out.mono HB2.out.size))
      go_wp2_with fail
      go_ret
      exact ⟨rfl, HBf.out⟩
end Go.Proofs.YtkaelmbgfcehhaaDoor
