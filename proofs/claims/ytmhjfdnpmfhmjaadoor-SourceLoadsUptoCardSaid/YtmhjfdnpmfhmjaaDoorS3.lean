/- Package source: lines, directive. -/
import Derived.Test.YtmhjfdnpmfhmjaaDoorS1
import Derived.Test.YtmhjfdnpmfhmjaaDoorShelf
import Derived.Shelf.Strings.SlTrimAscii
namespace Go.Proofs.YtmhjfdnpmfhmjaaDoor
open Go.RowKit
set_option linter.unusedVariables false

/-- bytealg.MaxLen holds some int -/
def MaxOk (w : World) : Prop := ∃ m : Int, w.cell? ⟨0, 0, none⟩ = some (.int .i64 m)
theorem MaxOk.lt {w : World} (h : MaxOk w) : 0 < w.heap.size := by
  obtain ⟨m, h⟩ := h
  rcases Nat.lt_or_ge 0 w.heap.size with h' | h'
  · exact h'
  · unfold World.cell? at h; rw [Array.getElem?_eq_none (by simpa using h')] at h; cases h
theorem MaxOk.below {w w' : World} (h : MaxOk w) {D : Nat} (hb : Below D w w') (hD : 0 < D) : MaxOk w' := by
  obtain ⟨m, h⟩ := h
  exact ⟨m, (hb.cell (p := ⟨0, 0, none⟩) hD).trans h⟩

theorem Split_nl (s : ByteArray) (w : World) (hs : s.size ≤ 1000000) (hM : MaxOk w) :
    Calls Tryd.prog 35 #[.string s, .string ⟨#[10]⟩] w fun e w' => e = .returned (.slice (some ⟨w.heap.size, 0, none⟩) (cutNl s.data.toList).length (cutNl s.data.toList).length) ∧ w' = w.alloc (.cells ((cutNl s.data.toList).map fun l => Value.string (B l)).toArray 9) := by
  obtain ⟨m, hm⟩ := hM
  have h := Tryd.strings_Split s ⟨#[10]⟩ m w (by omega) hm (by decide)
  rw [split_nl, count_nl, ← cutNl_len, List.map_map] at h
  exact h

set_option maxHeartbeats 1000000 in
set_option maxRecDepth 100000 in
theorem lines_any (s : ByteArray) (w : World) (hs : s.size ≤ 1000000) (hM : MaxOk w) :
    Calls Tryd.prog 27 #[.string s] w fun e w' => e = .returned (.slice (some ⟨w.heap.size, 0, none⟩) (linesL s.data.toList).length (cutNl s.data.toList).length) ∧ w' = w.alloc (.cells ((cutNl s.data.toList).map fun l => Value.string (B l)).toArray 9) := by
  have HS := Lib.hid (Split_nl s w hs hM)
  have hlen := cutNl_len s.data.toList
  have hc : s.data.toList.count 10 ≤ 1000000 := Nat.le_trans List.count_le_length (by simpa using hs)
  have hne := cutNl_ne s.data.toList
  have hL : linesL s.data.toList = if (cutNl s.data.toList).getLast? = some [] then (cutNl s.data.toList).dropLast else cutNl s.data.toList := rfl
  generalize linesL s.data.toList = M at *
  generalize cutNl s.data.toList = C at *
  obtain ⟨n, hn⟩ : ∃ n, C.length = n + 1 := ⟨C.length - 1, by omega⟩
  have hcell : ∀ W : World, W = w.alloc (.cells (C.map fun l => Value.string (B l)).toArray 9) → W.cell? ⟨w.heap.size, n, none⟩ = some (.string (B (C.getLastD []))) := by
    rintro W rfl
    have : (w.alloc (.cells (C.map fun l => Value.string (B l)).toArray 9)).heap[w.heap.size]? = _ := heap_alloc_at w _
    rw [Lib.cell_of_heap this]
    simp [List.getLastD_eq_getLast?, List.getLast?_eq_getElem?, hn]
  have hc2 := hcell _ rfl
  have hg : C.getLast? = some (C.getLastD []) := by
    cases C with
    | nil => exact absurd rfl hne
    | cons a l => rw [List.getLastD_eq_getLast?, List.getLast?_eq_some_getLast (by simp)]; rfl
  rw [hg] at hL
  have HL := Lib.hid hL
  have HN := Lib.hid hn
  generalize C.getLastD [] = last at *
  rw [hn] at HS ⊢
  have hnB : n ≤ 1000000 := by omega
  clear hcell hL hg hne hc hn hlen hs
  by_cases hlast : last = []
  · subst hlast
    have hM : M.length = n := by rw [HL.out, if_pos rfl, List.length_dropLast, HN.out]; rfl
    rw [hM]
    clear hM HL HN
    have hb : B [] = ⟨#[]⟩ := rfl
    rw [hb] at hc2
    go_enter Tryd.func27, Tryd.ntmps27
    go_wp2_with fail
    refine HS.out.mono ?_
    rintro e w' ⟨rfl, rfl⟩
    go_wp2_with fail
    go_ret
    exact ⟨rfl, rfl⟩
  · have hM : M.length = n + 1 := by rw [HL.out, if_neg (by simpa using hlast), HN.out]
    rw [hM]
    have hb : (B last).toList.isEmpty = false := by rw [B_emp]; simpa using hlast
    clear hM HL HN
    go_enter Tryd.func27, Tryd.ntmps27
    go_wp2_with fail
    refine HS.out.mono ?_
    rintro e w' ⟨rfl, rfl⟩
    go_wp2_with fail
    go_ret
    exact ⟨rfl, rfl⟩

theorem TrimLeft_bl (s : ByteArray) (w : World) :
    Calls Tryd.prog 37 #[.string s, .string ⟨#[32, 9]⟩] w fun e w' => e = .returned (.string (B (trimBl s.data.toList))) ∧ Below w.heap.size w w' :=
  Any.strings_TrimLeft_laid Tryd.lays161 (by kernel_rfl) s ⟨#[32, 9]⟩ w (by decide) (ascii_of_all (by decide))
theorem Trim_bl (s : ByteArray) (w : World) (hs : s.size ≤ 1000000) :
    Calls Tryd.prog 38 #[.string s, .string ⟨#[32, 9]⟩] w fun e w' => e = .returned (.string (B (Lib.trimS s.data.toList blank))) ∧ Below w.heap.size w w' :=
  Any.strings_Trim_laid Tryd.lays160 (by kernel_rfl) s ⟨#[32, 9]⟩ w (by omega) (by decide) (ascii_of_all (by decide))
theorem CutPrefix_inc (s : ByteArray) (w : World) :
    Calls Tryd.prog 36 #[.string s, .string ⟨#[64, 105, 110, 99, 108, 117, 100, 101]⟩] w fun e w' => e = .returned (.tuple #[.string (B (if incW.isPrefixOf s.data.toList then s.data.toList.drop 8 else s.data.toList)), .bool (incW.isPrefixOf s.data.toList)]) ∧ w' = w :=
  Tryd.strings_CutPrefix s ⟨#[64, 105, 110, 99, 108, 117, 100, 101]⟩ w
theorem Contains_q (s : ByteArray) (w : World) (hs : s.size ≤ 1000000) :
    Calls Tryd.prog 12 #[.string s, .string ⟨#[34]⟩] w fun e w' => e = .returned (.bool (s.data.toList.contains 34)) ∧ w' = w := by
  rw [show s.data.toList.contains 34 = decide (0 ≤ Lib.indexByte s.data.toList 34) from ?_]
  · exact Tryd.strings_Contains_one s 34 w
  · generalize s.data.toList = l
    induction l with
    | nil => rfl
    | cons c t ih =>
      unfold Lib.indexByte
      by_cases hc : c = 34
      · subst hc; simp
      · have hc' : ¬ (34 : UInt8) = c := fun e => hc e.symm
        rw [if_neg (by simpa using hc), List.contains_cons, ih, beq_eq_false_iff_ne.2 hc', Bool.false_or]
        have := Lib.indexByte_ge t 34
        split
        · rename_i h; have := beq_iff_eq.1 h; simp; omega
        · rename_i h; have : Lib.indexByte t 34 ≠ -1 := fun e => h (beq_iff_eq.2 e)
          simp; omega
end Go.Proofs.YtmhjfdnpmfhmjaaDoor
