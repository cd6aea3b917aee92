/- A list of files that came in, opened, with what the second form's bound says of it. -/
import Derived.Test.YtmhjfdnpmfhmjaaDoorS5
import Derived.Test.YtmhjfdnpmfhmjaaDoorS18
import Derived.Test.YtmhjfdnpmfhmjaaDoorLW
import Derived.Deep.SlicePairs
import Derived.SliceStrings
import Derived.ChangeOld
namespace Go.Proofs.YtmhjfdnpmfhmjaaDoor
open Go.ChangeShapes Go.WideShapes Go.ChangeAt Go.RowKit Go.Deep
set_option linter.unusedVariables false

def joinB (xs : List ByteArray) : Str := (xs.map (·.data.toList)).flatten
/-- the chunks of a file, as they lie -/
def ChunksR (w : World) (v : Value) (xs : List ByteArray) : Prop := (∃ a c, v = .slice a 0 c ∧ xs = []) ∨
  ∃ bk o c, v = .slice (some ⟨bk, o, none⟩) xs.length c ∧ (∀ (j : Nat) x, xs[j]? = some x → w.cell? ⟨bk, o + j, none⟩ = some (.string x)) ∧ bk < w.heap.size ∧ xs.length ≤ c
/-- the files, as they lie -/
def FilesR (w : World) (fv : Value) (L : List (ByteArray × List ByteArray)) : Prop := (∃ a c, fv = .slice a 0 c ∧ L = []) ∨
  ∃ bk o c, fv = .slice (some ⟨bk, o, none⟩) L.length c ∧ L.length ≤ c ∧ bk < w.heap.size ∧
    ∀ (j : Nat) p, L[j]? = some p → ∃ v, w.cell? ⟨bk, o + j * 2, none⟩ = some (.string p.1) ∧ w.cell? ⟨bk, o + j * 2 + 1, none⟩ = some v ∧ ChunksR w v p.2
def sizeC (xs : List ByteArray) : Nat := (joinB xs).length + xs.length
def sizeF : List (ByteArray × List ByteArray) → Nat
  | [] => 0
  | p :: L => p.1.data.toList.length + sizeC p.2 + 1 + sizeF L
theorem sizeF_append (L M : List (ByteArray × List ByteArray)) : sizeF (L ++ M) = sizeF L + sizeF M := by
  induction L with
  | nil => simp [sizeF]
  | cons p L ih => simp [sizeF, ih]; omega
theorem cell_lt {w : World} {p : Addr} {v : Value} (h : w.cell? p = some v) : p.block < w.heap.size := by
  rcases Nat.lt_or_ge p.block w.heap.size with h' | h'
  · exact h'
  · unfold World.cell? at h; rw [Array.getElem?_eq_none h'] at h; cases h
theorem bulk_strs {H : Type} (ss : List ByteArray) : Rows.uptoBulkAll (strs ss : List (DataW H)) = sizeC ss := by
  induction ss with
  | nil => rfl
  | cons s ss ih =>
    show Rows.uptoBulk (.lit (.string s.data.toList) : DataW H) + Rows.uptoBulkAll (strs ss : List (DataW H)) = _
    rw [ih]
    simp only [Rows.uptoBulk, sizeC, joinB, List.map_cons, List.flatten_cons, List.length_append, List.length_cons]
    omega
theorem open_chunks {H : Type} {enc : TypeId × Value → H} {W : World} {fuel : Nat} {v : Value} {x : DataW H × List MemPlace}
    (hf : DataW.trod enc Tryd.prog W 0 (fun _ => true) true fuel 38 [v] = some x) : ∃ xs, ChunksR W v xs ∧ sizeC xs + 1 ≤ Rows.uptoBulk x.1 := by
  rcases open_strings Tryd.underlying38 Tryd.underlying9 (by kernel_rfl) hf with ⟨hcs, hx⟩ | ⟨a, len, cap, ss, hcs, _, hl, hm, hz, hx, hcell, _⟩
  · simp at hcs
    exact ⟨[], .inl ⟨none, 0, hcs, rfl⟩, by rw [hx]; exact Nat.le_refl 1⟩
  · simp at hcs
    simp only [if_true] at hz
    have hbulk : sizeC (ss.take len) + 1 ≤ Rows.uptoBulk x.1 := by
      rw [hx]
      show _ ≤ Rows.uptoBulkAll (strs (ss.take len) : List (DataW H)) + Rows.uptoBulkAll (strs (ss.drop len) : List (DataW H)) + 1
      rw [bulk_strs]; omega
    obtain ⟨b, off, spot⟩ := a
    rcases Nat.eq_zero_or_pos len with h0 | h0
    · subst h0
      exact ⟨[], .inl ⟨_, _, hcs, rfl⟩, hbulk⟩
    · have hspot : spot = none := by simpa [Addr.add] using World.cell?_spot (hcell 0 (by omega))
      subst hspot
      have hc : ∀ i, i < ss.length → W.cell? ⟨b, off + i, none⟩ = some (.string (ss.getD i ByteArray.empty)) := by
        intro i hi
        have := hcell i hi
        rw [Addr.add_lit] at this
        exact this
      refine ⟨ss.take len, .inr ⟨b, off, cap, ?_, ?_, cell_lt (hc 0 (by omega)), ?_⟩, hbulk⟩
      · rw [hcs, List.length_take, Nat.min_eq_left (by omega)]
      · intro j y hj
        rw [List.getElem?_take] at hj
        split at hj
        · have hj2 : j < ss.length := (List.getElem?_eq_some_iff.1 hj).1
          rw [hc j hj2]
          simp [List.getD, hj]
        · cases hj
      · rw [List.length_take]; omega

theorem bulk_range {H : Type} (D0 D1 : Nat → DataW H) : ∀ n, Rows.uptoBulkAll ((List.range n).map fun i => (.agg [D0 i, D1 i] : DataW H)) = ((List.range n).map fun i => Rows.uptoBulk (D0 i) + Rows.uptoBulk (D1 i) + 1).sum := by
  intro n
  generalize List.range n = l
  induction l with
  | nil => rfl
  | cons i l ih =>
    show Rows.uptoBulk (.agg [D0 i, D1 i] : DataW H) + Rows.uptoBulkAll (l.map fun i => (.agg [D0 i, D1 i] : DataW H)) = _
    rw [ih, List.map_cons, List.sum_cons]
    simp only [Rows.uptoBulk, Rows.uptoBulkAll]
    omega
theorem open_filesR {H : Type} {enc : TypeId × Value → H} {W : World} {fuel : Nat} {v : Value} {x : DataW H × List MemPlace}
    (hf : DataW.trod enc Tryd.prog W 0 (fun _ => true) true fuel 22 [v] = some x) : ∃ L, FilesR W v L ∧ sizeF L ≤ Rows.uptoBulk x.1 := by
  obtain ⟨f0, f1, hu, o0, o1, t0, t1⟩ : ∃ f0 f1 : Field, Tryd.prog.underlying 40 = some (.struct #[f0, f1]) ∧ f0.offset = 0 ∧ f1.offset = 1 ∧ f0.type = 9 ∧ f1.type = 38 := ⟨_, _, Tryd.underlying40, rfl, rfl, rfl, rfl⟩
  rcases open_slice_pairs Tryd.underlying22 hu (by kernel_rfl) o0 o1 (by rw [t0]; kernel_rfl) (by rw [t1]; kernel_rfl) hf with ⟨hcs, hx⟩ | ⟨a, len, cap, m, n, V0, V1, D0, D1, P0, P1, hcs, _, hl, hm, hmm, hx, hcell⟩
  · simp at hcs
    exact ⟨[], .inl ⟨none, 0, hcs, rfl⟩, Nat.zero_le _⟩
  · simp at hcs
    simp only [if_true] at hmm
    obtain ⟨b, off, spot⟩ := a
    rcases Nat.eq_zero_or_pos len with h0 | h0
    · subst h0
      exact ⟨[], .inl ⟨_, _, hcs, rfl⟩, Nat.zero_le _⟩
    · have hspot : spot = none := by
        have := World.cell?_spot (hcell 0 (by omega)).1
        simpa [Addr.add] using this
      subst hspot
      have hbulk : ((List.range len).map fun i => Rows.uptoBulk (D0 i) + Rows.uptoBulk (D1 i) + 1).sum ≤ Rows.uptoBulk x.1 := by
        rw [hx, ← bulk_range D0 D1]
        show _ ≤ Rows.uptoBulkAll _ + Rows.uptoBulkAll _ + 1
        omega
      have each : ∀ i, i < len → ∃ p : ByteArray × List ByteArray, (∃ v, W.cell? ⟨b, off + i * 2, none⟩ = some (.string p.1) ∧ W.cell? ⟨b, off + i * 2 + 1, none⟩ = some v ∧ ChunksR W v p.2) ∧ p.1.data.toList.length + sizeC p.2 + 1 ≤ Rows.uptoBulk (D0 i) + Rows.uptoBulk (D1 i) + 1 := by
        intro i hi
        obtain ⟨h1, h2, h3, h4⟩ := hcell i (by omega)
        rw [Addr.add_lit] at h1 h2
        rw [t0] at h3
        rw [t1] at h4
        obtain ⟨xs, hxs, hxb⟩ := open_chunks h4
        obtain ⟨s, hs, hsx, _⟩ := DataW.trod_string Tryd.underlying9 h3
        simp at hs
        refine ⟨(s, xs), ⟨V1 i, by rw [h1, hs], h2, hxs⟩, ?_⟩
        have e0 : D0 i = .lit (.string s.data.toList) := congrArg Prod.fst hsx
        rw [e0]
        simp only [Rows.uptoBulk]
        have hxb' : sizeC xs + 1 ≤ Rows.uptoBulk (D1 i) := hxb
        omega
      have hch : ∀ k, k ≤ len → ∃ L : List (ByteArray × List ByteArray), L.length = k ∧ (∀ (j : Nat) p, L[j]? = some p → ∃ v, W.cell? ⟨b, off + j * 2, none⟩ = some (.string p.1) ∧ W.cell? ⟨b, off + j * 2 + 1, none⟩ = some v ∧ ChunksR W v p.2) ∧ sizeF L ≤ ((List.range k).map fun i => Rows.uptoBulk (D0 i) + Rows.uptoBulk (D1 i) + 1).sum := by
        intro k
        induction k with
        | zero => intro _; exact ⟨[], rfl, (fun j p hj => by cases hj), Nat.zero_le _⟩
        | succ k ih =>
          intro hk
          obtain ⟨L, hL, h, hz⟩ := ih (by omega)
          obtain ⟨p, hp, hpb⟩ := each k (by omega)
          refine ⟨L ++ [p], by simp [hL], fun j q hj => ?_, ?_⟩
          · rcases Nat.lt_or_ge j L.length with hj2 | hj2
            · rw [List.getElem?_append_left hj2] at hj
              exact h j q hj
            · rw [List.getElem?_append_right hj2] at hj
              have : j = k := by
                rcases Nat.eq_zero_or_pos (j - L.length) with h3 | h3
                · omega
                · rw [List.getElem?_eq_none (by simp; omega)] at hj; cases hj
              subst this
              rw [hL, Nat.sub_self] at hj
              cases hj
              exact hp
          · rw [sizeF_append, List.range_succ, List.map_append, List.sum_append]
            simp only [sizeF, List.map_cons, List.map_nil, List.sum_cons, List.sum_nil]
            omega
      obtain ⟨L, hL, h, hz⟩ := hch len (Nat.le_refl _)
      have hlt : b < W.heap.size := by
        have := cell_lt (hcell 0 (by omega)).1
        simpa [Addr.add] using this
      exact ⟨L, .inr ⟨b, off, cap, by rw [hcs, hL], by omega, hlt, h⟩, by omega⟩
theorem bulk_lines {H : Type} {bs : List UInt8} {d : DataW H} (h : Rows.uptoSmall H [.lit (.string bs), d] = true) : bs.length + Rows.uptoBulk d ≤ 1048576 := by
  have h := of_decide_eq_true h
  simp only [Rows.uptoBulkAll, Rows.uptoBulk] at h
  omega
end Go.Proofs.YtmhjfdnpmfhmjaaDoor
