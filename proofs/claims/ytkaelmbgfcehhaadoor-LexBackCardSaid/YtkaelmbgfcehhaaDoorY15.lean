/- thresherref20.Same at equal tokens; thresherlaw20.fixed. -/
import Derived.Test.YtkaelmbgfcehhaaDoorY14
set_option linter.unusedVariables false
set_option linter.unusedSimpArgs false
namespace Go.Proofs.YtkaelmbgfcehhaaDoor
open Go.RowKit
set_option linter.unusedVariables false
set_option linter.unusedSimpArgs false

/-- these tokens lie from an address on -/
def RowK (w : World) (a : Option Addr) (L : List TokT) : Prop := ∀ i t, L[i]? = some t → ∃ g off, a = some ⟨g, off, none⟩ ∧ g < w.heap.size ∧ ∀ j, j < 4 → w.cell? ⟨g, off + i * 4 + j, none⟩ = (tokC t)[j]?
theorem cellsK_at : ∀ (L : List TokT) (i j : Nat) (t : TokT), L[i]? = some t → j < 4 → (cellsK L)[i * 4 + j]? = (tokC t)[j]?
  | [], i, j, t, h, _ => by simp at h
  | a :: L, 0, j, t, h, hj => by
    have e : a = t := by simpa using h
    subst e
    show (tokC a ++ cellsK L)[0 * 4 + j]? = _
    rw [Nat.zero_mul, Nat.zero_add, List.getElem?_append_left hj]
  | a :: L, i + 1, j, t, h, hj => by
    have ih := cellsK_at L i j t (by simpa using h) hj
    show (tokC a ++ cellsK L)[(i + 1) * 4 + j]? = _
    rw [List.getElem?_append_right (by show 4 ≤ _; omega), show (i + 1) * 4 + j - (tokC a).length = i * 4 + j by show (i + 1) * 4 + j - 4 = _; omega]
    exact ih
theorem RowK.of_heap {w : World} {g : Nat} {cur : Array Value} {L : List TokT} (hg : w.heap[g]? = some (.cells cur 32 (0, 0))) (ht : cur.toList.take (L.length * 4) = cellsK L) : RowK w (some ⟨g, 0, none⟩) L := fun i t h => by
  refine ⟨g, 0, rfl, lt_of_heap hg, fun j hj => ?_⟩
  have hi : i < L.length := (List.getElem?_eq_some_iff.1 h).1
  rw [Nat.zero_add, Lib.cell_of_heap hg, ← cellsK_at L i j t h hj, ← ht, List.getElem?_take_of_lt (by omega)]
  simp
theorem RowK.of_own {w : World} {B : Nat} {v : Value} {L : List TokT} (h : w.ownsRow B 32 4 v L.length (cellsK L)) : ∃ a c, v = .slice a L.length c ∧ RowK w a L := by
  rcases h.2 with ⟨rfl, h0⟩ | ⟨g, cap, cur, rfl, hb, hg, hl, hm, hs, ht⟩
  · have : L = [] := List.eq_nil_of_length_eq_zero h0
    subst this
    exact ⟨none, 0, rfl, fun i t h => by simp at h⟩
  · exact ⟨_, cap, rfl, RowK.of_heap hg ht⟩
theorem RowK.below {w w' : World} {a : Option Addr} {L : List TokT} (h : RowK w a L) (hb : Below w.heap.size w w') : RowK w' a L := fun i t hi => by
  obtain ⟨g, off, h1, h2, h3⟩ := h i t hi
  exact ⟨g, off, h1, Nat.lt_of_lt_of_le h2 hb.size, fun j hj => (hb.cell (p := ⟨g, _, none⟩) h2).trans (h3 j hj)⟩
theorem RowK.take {w : World} {a : Option Addr} {L : List TokT} (h : RowK w a L) (n : Nat) : RowK w a (L.take n) := fun i t hi => h i t (by
  rw [List.getElem?_take] at hi
  split at hi
  · exact hi
  · cases hi)
theorem RowK.drop {w : World} {g off : Nat} {L : List TokT} (h : RowK w (some ⟨g, off, none⟩) L) (n : Nat) : RowK w (some ⟨g, off + n * 4, none⟩) (L.drop n) := fun i t hi => by
  rw [List.getElem?_drop] at hi
  obtain ⟨g', off', h1, h2, h3⟩ := h (n + i) t hi
  cases h1
  exact ⟨g, off + n * 4, rfl, h2, fun j hj => by rw [show off + n * 4 + i * 4 + j = off + (n + i) * 4 + j by omega]; exact h3 j hj⟩
theorem same4_one (x : Nat) (w : World) : Calls Tryd.prog 15 #[.float .f64 x, .float .f64 x] w fun e w' => e = .returned (.bool true) ∧ w' = w := by
  cases hb : (FloatKind.f64.format.order x x != some .eq)
  · go_enter Tryd.func15, Tryd.ntmps15
    go_wp2_with fail
    go_ret
    exact ⟨rfl, rfl⟩
  · go_enter Tryd.func15, Tryd.ntmps15
    go_wp2_with fail
    go_ret
    exact ⟨rfl, rfl⟩

set_option maxHeartbeats 16000000 in
set_option maxRecDepth 100000 in
theorem same_eq (a1 a2 : Option Addr) (k1 k2 : Nat) (L : List TokT) (w : World) (h1 : RowK w a1 L) (h2 : RowK w a2 L) (hL : L.length ≤ 1000000) :
    Calls Tryd.prog 9 #[.slice a1 L.length k1, .slice a2 L.length k2] w fun e w' => e = .returned (.bool true) ∧ Below w.heap.size w w' := by
  have H1 := Lib.hid h1
  have H2 := Lib.hid h2
  obtain ⟨n, hn⟩ : ∃ n, n = L.length := ⟨_, rfl⟩
  rw [← hn] at hL ⊢
  have HN := Lib.hid hn
  clear h1 h2 hn
  go_enter Tryd.func9, Tryd.ntmps9
  go_wp2_with fail
  go_loopw [5] (fun p wr => ∃ i q : Nat, p = .int .i64 (i : Int) ∧ i ≤ n ∧ wr = w.drewN q) (fun p _ => n - (intOf p).toNat)
  case atStart => exact ⟨0, 0, rfl, Nat.zero_le _, rfl⟩
  case round =>
    obtain ⟨i, q, rfl, hi, rfl⟩ := hrel
    rcases Nat.lt_or_ge i n with hlt | hge
    · have hltI : (i : Int) < (n : Int) := by omega
      obtain ⟨t, ht⟩ : ∃ t, L[i]? = some t := ⟨_, List.getElem?_eq_getElem (by rw [← HN.out]; exact hlt)⟩
      obtain ⟨g1, o1, rfl, hg1, c1⟩ := H1.out i t ht
      obtain ⟨g2, o2, rfl, hg2, c2⟩ := H2.out i t ht
      obtain ⟨kd, tx, x, ln⟩ := t
      have d0 : w.cell? ⟨g1, o1 + i * 4, none⟩ = some (.int .i64 (kd : Int)) := c1 0 (by decide)
      have d1 : w.cell? ⟨g1, o1 + i * 4 + 1, none⟩ = some (.string (bs tx)) := c1 1 (by decide)
      have d2 : w.cell? ⟨g1, o1 + i * 4 + 2, none⟩ = some (.float .f64 x) := c1 2 (by decide)
      have d3 : w.cell? ⟨g1, o1 + i * 4 + 3, none⟩ = some (.int .i64 (ln : Int)) := c1 3 (by decide)
      have f0 : w.cell? ⟨g2, o2 + i * 4, none⟩ = some (.int .i64 (kd : Int)) := c2 0 (by decide)
      have f1 : w.cell? ⟨g2, o2 + i * 4 + 1, none⟩ = some (.string (bs tx)) := c2 1 (by decide)
      have f2 : w.cell? ⟨g2, o2 + i * 4 + 2, none⟩ = some (.float .f64 x) := c2 2 (by decide)
      have f3 : w.cell? ⟨g2, o2 + i * 4 + 3, none⟩ = some (.int .i64 (ln : Int)) := c2 3 (by decide)
      have HSm := Lib.hid (same4_one x)
      obtain ⟨i1, hi1⟩ : ∃ i1, i1 = i + 1 := ⟨_, rfl⟩
      have ei : (i : Int) + 1 = (i1 : Int) := by omega
      have eiw := wrapN i1 (by omega)
      have HI1 : Hid (i1 ≤ n ∧ n - i1 < n - i) := ⟨by omega, by omega⟩
      clear c1 c2 ht hi1
      go_wp2_with fail
      go_quiet (exact quiet_add (HSm.out _))
      go_wp2_with fail
      go_roundw
      case rel => exact ⟨i1, _, rfl, HI1.out.1, rfl⟩
      case measure => simp only [intOf]; exact HI1.out.2
    · have hgeI : (n : Int) ≤ (i : Int) := by omega
      go_wp2_with fail
      go_ret
      exact ⟨rfl, (Below.refl _ _).drewN _⟩

/-- the document's example -/
def exT : List UInt8 := [120, 32, 47, 50, 47, 32, 102, 40, 34, 97, 92, 110, 34, 41, 32, 35, 32, 114, 10, 47, 98, 92, 47, 99, 47]
def exK : List TokT := [(1, [120], 0, 1), (7, [47], 0, 1), (3, [], 4611686018427387904, 1), (7, [47], 0, 1), (2, [102], 0, 1), (7, [40], 0, 1), (4, [97, 10], 0, 1), (7, [41], 0, 1), (8, [], 0, 1), (5, [98, 47, 99], 0, 2), (9, [], 0, 2)]
set_option maxRecDepth 100000 in
theorem ex_scan : scanR litL 26 exT 1 [] = .ok exK := by kernel_rfl
set_option maxHeartbeats 16000000 in
set_option maxRecDepth 100000 in
theorem fixed20_any (w : World) (hM : MaxOk w) : Calls Tryd.prog 7 #[] w fun e w' => e = .returned (.bool true) ∧ Below w.heap.size w w' := by
  have hSc := scan_any (bs exT) w hM (by decide)
  rw [bs_data, show exT.length + 1 = 26 from rfl, ex_scan] at hSc
  have HSc := Lib.hid hSc
  clear hSc hM
  go_enter Tryd.func7, Tryd.ntmps7
  go_wp2_with fail
  refine HSc.out.mono ?_
  rintro e w1 ⟨lv, rfl, hown, hb1⟩
  obtain ⟨a1, c1, rfl, hrow⟩ := RowK.of_own hown
  have HB1 := Lib.hid hb1
  have hs1 := hb1.size
  have HRow := Lib.hid hrow
  clear hown hb1 hrow HSc
  go_wp2_with fail
  have HR1 := Lib.hid (HRow.out.below ((Below.refl _ w1).alloc (Nat.le_refl _) (.cells (cellsK exK).toArray 32)))
  have HR2 : Hid (RowK (w1.alloc (.cells (cellsK exK).toArray 32)) (some ⟨w1.heap.size, 0, none⟩) exK) := RowK.of_heap (heap_alloc_at w1 _) (by rw [List.toList_toArray, List.take_of_length_le]; rw [cellsK_length]; exact Nat.le_refl _)
  have HSm : Hid (Calls Tryd.prog 9 #[.slice a1 11 c1, .slice (some ⟨w1.heap.size, 0, none⟩) 11 11] (w1.alloc (.cells (cellsK exK).toArray 32)) fun e w' => e = .returned (.bool true) ∧ Below (w1.alloc (.cells (cellsK exK).toArray 32)).heap.size (w1.alloc (.cells (cellsK exK).toArray 32)) w') := same_eq a1 (some ⟨w1.heap.size, 0, none⟩) c1 11 exK _ HR1.out HR2.out (by decide)
  refine HSm.out.mono ?_
  rintro e w2 ⟨rfl, hb2⟩
  have HB2 : Hid (Below w.heap.size w w2) := (HB1.out.alloc hs1 (.cells (cellsK exK).toArray 32)).trans (hb2.mono (by rw [World.size_alloc]; omega))
  clear hb2
  go_wp2_with fail
  go_ret
  exact ⟨rfl, HB2.out⟩
end Go.Proofs.YtkaelmbgfcehhaaDoor
