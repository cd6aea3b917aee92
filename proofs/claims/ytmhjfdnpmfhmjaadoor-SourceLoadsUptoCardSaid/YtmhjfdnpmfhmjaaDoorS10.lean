/- The reference's Same: place by place. -/
import Derived.Test.YtmhjfdnpmfhmjaaDoorS2
import Derived.BigRegion
namespace Go.Proofs.YtmhjfdnpmfhmjaaDoor
open Go.RowKit
set_option linter.unusedVariables false

/-- a row of places -/
def Pls (w : World) (v : Value) (L : List (Str × Nat)) : Prop := (∃ a c, v = .slice a 0 c ∧ L = []) ∨
  ∃ g c, v = .slice (some ⟨g, 0, none⟩) L.length c ∧ g < w.heap.size ∧ ∀ (j : Nat) p, L[j]? = some p → w.cell? ⟨g, j * 2, none⟩ = some (.string (B p.1)) ∧ w.cell? ⟨g, j * 2 + 1, none⟩ = some (.int .i64 (p.2 : Int))
theorem cellsP_at {L : List (Str × Nat)} {j : Nat} {p : Str × Nat} (h : L[j]? = some p) : (cellsP L)[j * 2]? = some (.string (B p.1)) ∧ (cellsP L)[j * 2 + 1]? = some (.int .i64 (p.2 : Int)) := by
  induction L generalizing j with
  | nil => cases h
  | cons a L ih =>
    cases j with
    | zero => simp at h; subst h; exact ⟨rfl, rfl⟩
    | succ j =>
      have := ih (j := j) (by simpa using h)
      rw [show (j + 1) * 2 = j * 2 + 2 by omega]
      simpa [cellsP] using this
theorem Pls.ofOwn {w : World} {D : Nat} {v : Value} {L : List (Str × Nat)} (h : w.ownsRow D 29 2 v L.length (cellsP L)) : Pls w v L := by
  rcases h.2 with ⟨rfl, h0⟩ | ⟨g, cap, cur, rfl, hb, hg, hc, hm, hs, ht⟩
  · exact .inl ⟨none, 0, rfl, List.eq_nil_of_length_eq_zero h0⟩
  · refine .inr ⟨g, cap, rfl, lt_of_heap hg, fun j p hj => ?_⟩
    have hc1 := cellsP_at hj
    have hcell := fun k u (hu : (cellsP L)[k]? = some u) => h.cells (g := g) rfl k u hu
    have h1 := hcell _ _ hc1.1
    have h2 := hcell _ _ hc1.2
    rw [Addr.add_lit, Nat.zero_add] at h1 h2
    exact ⟨h1, h2⟩
theorem Pls.below {w w' : World} {v : Value} {L : List (Str × Nat)} (h : Pls w v L) (hb : Below w.heap.size w w') : Pls w' v L := by
  rcases h with h | ⟨g, c, h1, h2, h3⟩
  · exact .inl h
  · exact .inr ⟨g, c, h1, Nat.lt_of_lt_of_le h2 hb.size, fun j p hj => ⟨(hb.cell (p := ⟨g, j * 2, none⟩) h2).trans (h3 j p hj).1, (hb.cell (p := ⟨g, j * 2 + 1, none⟩) h2).trans (h3 j p hj).2⟩⟩
theorem Pls.slice {w : World} {v : Value} {L : List (Str × Nat)} (h : Pls w v L) : ∃ a c, v = .slice a L.length c := by
  rcases h with ⟨a, c, rfl, rfl⟩ | ⟨g, c, rfl, _⟩
  · exact ⟨a, c, rfl⟩
  · exact ⟨_, c, rfl⟩
def natO : Value → Nat
  | .int _ n => n.toNat
  | _ => 0

set_option maxHeartbeats 8000000 in
set_option maxRecDepth 1000000 in
theorem Same_any {w : World} {v1 v2 : Value} {L : List (Str × Nat)} (h1 : Pls w v1 L) (h2 : Pls w v2 L) (hl : L.length ≤ 1000000) :
    Calls Tryd.prog 11 #[v1, v2] w fun e w' => e = .returned (.bool true) ∧ Below w.heap.size w w' := by
  have H1 := Lib.hid h1
  have H2 := Lib.hid h2
  obtain ⟨a1, c1, rfl⟩ := h1.slice
  obtain ⟨a2, c2, rfl⟩ := h2.slice
  obtain ⟨n, hn⟩ : ∃ n, n = L.length := ⟨_, rfl⟩
  rw [← hn] at hl ⊢
  have HN := Lib.hid hn
  rw [← hn] at H1 H2
  clear h1 h2 hn
  go_enter Tryd.func11, Tryd.ntmps11
  go_wp2_with fail
  go_loopw [5] (fun v5 wr => ∃ k : Nat, v5 = .int .i64 (k : Int) ∧ k ≤ n ∧ Hid (Below w.heap.size w wr)) (fun v5 _ => n - natO v5)
  case atStart => exact ⟨0, rfl, Nat.zero_le _, Below.refl _ _⟩
  case round =>
    obtain ⟨k, rfl, hk, HB⟩ := hrel
    by_cases hlt : k < n
    · have hltI : (k : Int) < (n : Int) := by omega
      obtain ⟨p, hp⟩ : ∃ p, L[k]? = some p := ⟨L[k]'(by rw [← HN.out]; exact hlt), List.getElem?_eq_getElem _⟩
      rcases H1.out with ⟨a, c, e1, e2⟩ | ⟨g, c, e1, hg, hcl⟩
      · rw [e2] at hp; cases hp
      rcases H2.out with ⟨a, c, e3, e2⟩ | ⟨g', c', e3, hg', hcl'⟩
      · rw [e2] at hp; cases hp
      injection e1 with e4 e5 e6
      subst e4
      injection e3 with e4 e5 e6
      subst e4
      have x0 := (HB.out.cell (p := ⟨g, k * 2, none⟩) hg).trans (hcl k p hp).1
      have x1 := (HB.out.cell (p := ⟨g, k * 2 + 1, none⟩) hg).trans (hcl k p hp).2
      have y0 := (HB.out.cell (p := ⟨g', k * 2, none⟩) hg').trans (hcl' k p hp).1
      have y1 := (HB.out.cell (p := ⟨g', k * 2 + 1, none⟩) hg').trans (hcl' k p hp).2
      clear hcl hcl' hp
      go_wp2_with fail
      go_region
      all_goals (try go_wp2_with fail)
      all_goals exact ⟨⟨k + 1, rfl, by omega, HB.out.drew⟩, by simp only [natO]; omega⟩
    · have hltI : (n : Int) ≤ (k : Int) := by omega
      go_wp2_with fail
      go_ret
      exact ⟨rfl, HB.out⟩
end Go.Proofs.YtmhjfdnpmfhmjaaDoor
