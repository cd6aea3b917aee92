/- thresherref19.Load: what its memory holds. -/
import Derived.Test.YtmhjfdnpmfhmjaaDoorS31
import Derived.Test.YtmhjfdnpmfhmjaaDoorS10
import Derived.Deep.AppendLies
namespace Go.Proofs.YtmhjfdnpmfhmjaaDoor
open Go.RowKit
set_option linter.unusedVariables false

def cellsO : List (Fr × Value) → List Value
  | [] => []
  | p :: L => .string (B p.1.name) :: p.2 :: .int .i64 (p.1.pos : Int) :: cellsO L
theorem cellsO_length (L : List (Fr × Value)) : (cellsO L).length = L.length * 3 := by
  induction L with
  | nil => rfl
  | cons p L ih => simp only [cellsO, List.length_cons, ih]; omega
theorem cellsO_app (L M : List (Fr × Value)) : cellsO (L ++ M) = cellsO L ++ cellsO M := by
  induction L with
  | nil => rfl
  | cons p L ih => simp only [cellsO, List.cons_append, ih]
theorem cellsO_at {L : List (Fr × Value)} {j : Nat} {p : Fr × Value} (h : L[j]? = some p) : (cellsO L)[j * 3]? = some (.string (B p.1.name)) ∧ (cellsO L)[j * 3 + 1]? = some p.2 ∧ (cellsO L)[j * 3 + 2]? = some (.int .i64 (p.1.pos : Int)) := by
  induction L generalizing j with
  | nil => cases h
  | cons a L ih =>
    cases j with
    | zero => simp at h; subst h; exact ⟨rfl, rfl, rfl⟩
    | succ j =>
      have := ih (j := j) (by simpa using h)
      rw [show (j + 1) * 3 = j * 3 + 3 by omega]
      simpa [cellsO] using this
theorem infoO : (Tryd.prog.info? 57).map (fun i => (i.zero, i.size, i.bytes)) = some (some (.agg #[.string .empty, .slice none 0 0, .int .i64 0]), 3, 48) := by kernel_rfl
theorem undO : Tryd.prog.underlying 58 = some (.slice 57) := by kernel_rfl

/-- what Load has made: the places, the stack (its texts' rows beside it), the names that are done -/
structure Ld (w : World) (D : Nat) (lv sv dv : Value) (ps : List (Str × Nat)) (L : List (Fr × Value)) (dn : List Str) : Prop where
  lin : w.ownsRow D 29 2 lv ps.length (cellsP ps)
  stk : w.ownsRow D 57 3 sv L.length (cellsO L)
  dn : w.ownsRow D 9 1 dv dn.length (cellsT dn)
  rows : ∀ p ∈ L, w.ownsRow D 9 1 p.2 p.1.all.length (cellsT p.1.all)
  apart : ∀ p ∈ L, ∀ g, p.2.ownBlock = some g → dv.ownBlock ≠ some g
section
variable {w w' : World} {D : Nat} {lv sv dv : Value} {ps : List (Str × Nat)} {L : List (Fr × Value)} {dn : List Str}
theorem Ld.below (h : Ld w D lv sv dv ps L dn) (hb : Below w.heap.size w w') : Ld w' D lv sv dv ps L dn :=
  ⟨own_keep h.lin fun g e => hb.block g (h.lin.lt g e).2, own_keep h.stk fun g e => hb.block g (h.stk.lt g e).2, own_keep h.dn fun g e => hb.block g (h.dn.lt g e).2,
    fun p hp => own_keep (h.rows p hp) fun g e => hb.block g ((h.rows p hp).lt g e).2, h.apart⟩
theorem Ld.nil (w : World) (D : Nat) {f : Fr} {rv : Value} {g : Nat} (hg : D ≤ g) (hh : w.heap[g]? = some (.cells #[.string (B f.name), rv, .int .i64 (f.pos : Int)] 57 (0, 0))) (hr : w.ownsRow D 9 1 rv f.all.length (cellsT f.all)) :
    Ld w D (.slice none 0 0) (.slice (some ⟨g, 0, none⟩) 1 1) (.slice none 0 0) [] [(f, rv)] [] := by
  refine ⟨World.ownsRow_nil _ _ _ _, ⟨rfl, .inr ⟨g, 1, _, rfl, hg, hh, Nat.le_refl _, by decide, rfl, rfl⟩⟩, World.ownsRow_nil _ _ _ _, ?_, ?_⟩
  · intro p hp; simp at hp; subst hp; exact hr
  · intro p hp g hg h; cases h
/-- a place more -/
theorem Ld.lined {v' : Value} {p : Str × Nat} (h : Ld w D lv sv dv ps L dn) (hown : w'.ownsRow D 29 2 v' (ps.length + 1) (cellsP ps ++ [.string (B p.1), .int .i64 (p.2 : Int)])) (hg : w.grownBy w' lv.ownBlock) :
    Ld w' D v' sv dv (ps ++ [p]) L dn := by
  have hk : ∀ g, lv.ownBlock ≠ some g → g < w.heap.size → w'.heap[g]? = w.heap[g]? := fun g h1 h3 => hg.block g h3 (fun e => h1 e.symm)
  refine ⟨?_, ?_, ?_, ?_, h.apart⟩
  · have e : cellsP (ps ++ [p]) = cellsP ps ++ [.string (B p.1), .int .i64 (p.2 : Int)] := cellsP_app _ _
    rw [e, List.length_append]; exact hown
  · exact own_keep h.stk fun g e => hk g (rows_ne h.stk h.lin (by decide) g e) (h.stk.lt g e).2
  · exact own_keep h.dn fun g e => hk g (rows_ne h.dn h.lin (by decide) g e) (h.dn.lt g e).2
  · exact fun p hp => own_keep (h.rows p hp) fun g e => hk g (rows_ne (h.rows p hp) h.lin (by decide) g e) ((h.rows p hp).lt g e).2
/-- a text more -/
theorem Ld.pushed {v' rv : Value} {f : Fr} (h : Ld w D lv sv dv ps L dn) (hown : w'.ownsRow D 57 3 v' (L.length + 1) (cellsO L ++ [.string (B f.name), rv, .int .i64 (f.pos : Int)])) (hg : w.grownBy w' sv.ownBlock)
    (hr : w.ownsRow D 9 1 rv f.all.length (cellsT f.all)) (ha : ∀ g, rv.ownBlock = some g → dv.ownBlock ≠ some g) : Ld w' D lv v' dv ps (L ++ [(f, rv)]) dn := by
  have hk : ∀ g, sv.ownBlock ≠ some g → g < w.heap.size → w'.heap[g]? = w.heap[g]? := fun g h1 h3 => hg.block g h3 (fun e => h1 e.symm)
  refine ⟨?_, ?_, ?_, ?_, ?_⟩
  · exact own_keep h.lin fun g e => hk g (rows_ne h.lin h.stk (by decide) g e) (h.lin.lt g e).2
  · have e : cellsO (L ++ [(f, rv)]) = cellsO L ++ [.string (B f.name), rv, .int .i64 (f.pos : Int)] := cellsO_app _ _
    rw [e, List.length_append]; exact hown
  · exact own_keep h.dn fun g e => hk g (rows_ne h.dn h.stk (by decide) g e) (h.dn.lt g e).2
  · intro p hp
    rcases List.mem_append.1 hp with hp | hp
    · exact own_keep (h.rows p hp) fun g e => hk g (rows_ne (h.rows p hp) h.stk (by decide) g e) ((h.rows p hp).lt g e).2
    · simp at hp; subst hp
      exact own_keep hr fun g e => hk g (rows_ne hr h.stk (by decide) g e) (hr.lt g e).2
  · intro p hp
    rcases List.mem_append.1 hp with hp | hp
    · exact h.apart p hp
    · simp at hp; subst hp; exact ha
/-- a name more that is done -/
theorem Ld.doned {g n cap : Nat} {x : Str} (h : Ld w D lv sv dv ps L dn) (hown : w'.ownsRow D 9 1 (.slice (some ⟨g, 0, none⟩) n cap) (dn.length + 1) (cellsT dn ++ [.string (B x)])) (hg : w.grownBy w' dv.ownBlock)
    (hat : dv.ownBlock = some g ∨ w.heap.size ≤ g) : Ld w' D lv sv (.slice (some ⟨g, 0, none⟩) n cap) ps L (dn ++ [x]) := by
  have hk : ∀ g, dv.ownBlock ≠ some g → g < w.heap.size → w'.heap[g]? = w.heap[g]? := fun g h1 h3 => hg.block g h3 (fun e => h1 e.symm)
  refine ⟨?_, ?_, ?_, ?_, ?_⟩
  · exact own_keep h.lin fun g e => hk g (rows_ne h.lin h.dn (by decide) g e) (h.lin.lt g e).2
  · exact own_keep h.stk fun g e => hk g (rows_ne h.stk h.dn (by decide) g e) (h.stk.lt g e).2
  · have e : cellsT (dn ++ [x]) = cellsT dn ++ [.string (B x)] := by simp [cellsT]
    rw [e, List.length_append]; exact hown
  · exact fun p hp => own_keep (h.rows p hp) fun g e => hk g (h.apart p hp g e) ((h.rows p hp).lt g e).2
  · intro p hp g' hg' hd
    injection hd with hd
    have h2 : g = g' := hd
    rcases hat with h1 | h1
    · exact h.apart p hp g' hg' (h2 ▸ h1)
    · have := ((h.rows p hp).lt g' hg').2
      omega
/-- the top of the stack goes -/
theorem Ld.popped {M : List (Fr × Value)} {q : Fr × Value} {g n cap : Nat} (h : Ld w D lv (.slice (some ⟨g, 0, none⟩) (n + 1) cap) dv ps (M ++ [q]) dn) (hn : M.length = n) : Ld w D lv (.slice (some ⟨g, 0, none⟩) n cap) dv ps M dn := by
  refine ⟨h.lin, ?_, h.dn, fun p hp => h.rows p (List.mem_append_left _ hp), fun p hp => h.apart p (List.mem_append_left _ hp)⟩
  obtain ⟨hl, h2⟩ := h.stk
  rcases h2 with ⟨h3, _⟩ | ⟨g1, cap1, cur, h3, hb, hgg, hc, hm, hs, ht⟩
  · cases h3
  · injection h3 with h4 h5 h6
    injection h4 with h4
    injection h4 with h7
    subst h7; subst h6
    simp only [List.length_append, List.length_cons, List.length_nil] at hc hs ht hl
    refine ⟨cellsO_length M, .inr ⟨g, cap, cur, by rw [hn], hb, hgg, by omega, hm, hs, ?_⟩⟩
    have h9 : (cur.toList.take ((M.length + (0 + 1)) * 3)).take (M.length * 3) = (cellsO (M ++ [q])).take (M.length * 3) := by rw [ht]
    rw [List.take_take, Nat.min_eq_left (by omega)] at h9
    rw [h9, cellsO_app, ← cellsO_length, List.take_left']
    rfl
/-- a line of the top was read -/
theorem Ld.ticked {M : List (Fr × Value)} {f : Fr} {rv : Value} {g n cap : Nat} (h : Ld w D lv (.slice (some ⟨g, 0, none⟩) n cap) dv ps (M ++ [(f, rv)]) dn) :
    Ld (w.setCell ⟨g, M.length * 3 + 2, none⟩ (.int .i64 ((f.pos + 1 : Nat) : Int))) D lv (.slice (some ⟨g, 0, none⟩) n cap) dv ps (M ++ [(f.next, rv)]) dn := by
  have hset : ∀ g', g' ≠ g → (w.setCell ⟨g, M.length * 3 + 2, none⟩ (.int .i64 ((f.pos + 1 : Nat) : Int))).heap[g']? = w.heap[g']? := fun g' hgb => Below.heap_setCell _ _ _ _ hgb
  refine ⟨?_, ?_, ?_, ?_, ?_⟩
  · exact own_keep h.lin fun g' hg' => hset g' (fun e => rows_ne h.lin h.stk (by decide) g' hg' (by rw [e]; rfl))
  · obtain ⟨hl, h2⟩ := h.stk
    rcases h2 with ⟨h3, _⟩ | ⟨g1, cap1, cur, h3, hb, hgg, hc, hm, hs, ht⟩
    · cases h3
    · injection h3 with h4 h5 h6
      injection h4 with h4
      injection h4 with h7
      subst h7; subst h6
      refine ⟨cellsO_length _, .inr ⟨g, cap, cur.set! (M.length * 3 + 2) (.int .i64 ((f.pos + 1 : Nat) : Int)), by rw [h5]; simp, hb, setCell_heap_same hgg _ _, by simp at hc ⊢; omega, hm, by simpa using hs, ?_⟩⟩
      have hlen : (M ++ [(f.next, rv)]).length = (M ++ [(f, rv)]).length := by simp
      rw [hlen]
      have h8 : (cur.set! (M.length * 3 + 2) (.int .i64 ((f.pos + 1 : Nat) : Int))).toList = cur.toList.set (M.length * 3 + 2) (.int .i64 ((f.pos + 1 : Nat) : Int)) := by simp
      rw [h8, List.take_set, ht, cellsO_app, cellsO_app, ← cellsO_length, List.set_append_right _ _ (by omega)]
      simp [cellsO, Fr.next]
  · exact own_keep h.dn fun g' hg' => hset g' (fun e => rows_ne h.dn h.stk (by decide) g' hg' (by rw [e]; rfl))
  · intro p hp
    have hk : ∀ q ∈ M ++ [(f, rv)], q.2 = p.2 → q.1.all = p.1.all → (w.setCell ⟨g, M.length * 3 + 2, none⟩ (.int .i64 ((f.pos + 1 : Nat) : Int))).ownsRow D 9 1 p.2 p.1.all.length (cellsT p.1.all) := by
      intro q hq e1 e2
      rw [← e1, ← e2]
      exact own_keep (h.rows q hq) fun g' hg' => hset g' (fun e => rows_ne (h.rows q hq) h.stk (by decide) g' hg' (by rw [e]; rfl))
    rcases List.mem_append.1 hp with hp | hp
    · exact hk p (List.mem_append_left _ hp) rfl rfl
    · simp at hp; subst hp
      exact hk (f, rv) (by simp) rfl rfl
  · intro p hp
    rcases List.mem_append.1 hp with hp | hp
    · exact h.apart p (List.mem_append_left _ hp)
    · simp at hp; subst hp
      exact h.apart (f, rv) (by simp)
/-- the cells of a text on the stack -/
theorem Ld.cells (h : Ld w D lv sv dv ps L dn) {g n cap : Nat} (hs : sv = .slice (some ⟨g, 0, none⟩) n cap) {j : Nat} {p : Fr × Value} (hp : L[j]? = some p) :
    w.cell? ⟨g, j * 3, none⟩ = some (.string (B p.1.name)) ∧ w.cell? ⟨g, j * 3 + 1, none⟩ = some p.2 ∧ w.cell? ⟨g, j * 3 + 2, none⟩ = some (.int .i64 (p.1.pos : Int)) := by
  subst hs
  have hc := cellsO_at hp
  have hcell := fun k u (hu : (cellsO L)[k]? = some u) => h.stk.cells (g := g) rfl k u hu
  have h0 := hcell _ _ hc.1
  have h1 := hcell _ _ hc.2.1
  have h2 := hcell _ _ hc.2.2
  rw [Addr.add_lit, Nat.zero_add] at h0 h1 h2
  exact ⟨h0, h1, h2⟩
theorem Ld.form (h : Ld w D lv sv dv ps L dn) (hl : 0 < L.length) : ∃ g cap, sv = .slice (some ⟨g, 0, none⟩) L.length cap ∧ D ≤ g ∧ g < w.heap.size ∧ L.length ≤ cap ∧ cap ≤ maxLen ∧ ∀ j, w.frozen? ⟨g, j, none⟩ = false := by
  rcases h.stk.2 with ⟨_, h3⟩ | ⟨g1, cap1, cur, h3, hb, hgg, hc, hm, hs, ht⟩
  · omega
  · exact ⟨g1, cap1, h3, hb, lt_of_heap hgg, hc, hm, Lib.frozen_of_heap hgg⟩
end
theorem row_form {w : World} {D : Nat} {v : Value} {xs : List Str} (h : w.ownsRow D 9 1 v xs.length (cellsT xs)) : ∃ a c, v = .slice a xs.length c ∧ xs.length ≤ maxLen := by
  rcases h.2 with ⟨rfl, h0⟩ | ⟨g, cap, cur, rfl, hb, hg, hc, hm, _⟩
  · exact ⟨none, 0, by rw [h0], by rw [h0]; exact Nat.zero_le _⟩
  · exact ⟨_, _, rfl, Nat.le_trans hc hm⟩
theorem row_at {w : World} {D : Nat} {v : Value} {xs : List Str} {k : Nat} {l : Str} (h : w.ownsRow D 9 1 v xs.length (cellsT xs)) (hk : xs[k]? = some l) : ∃ g c, v = .slice (some ⟨g, 0, none⟩) xs.length c ∧ g < w.heap.size ∧ w.cell? ⟨g, k, none⟩ = some (.string (B l)) := by
  rcases h.2 with ⟨rfl, h0⟩ | ⟨g, cap, cur, rfl, hb, hg, hc, hm, _⟩
  · rw [List.eq_nil_of_length_eq_zero h0] at hk; cases hk
  · have hcell := h.cells (g := g) rfl k (.string (B l)) (by simp [cellsT, hk])
    rw [Addr.add_lit, Nat.zero_add] at hcell
    exact ⟨g, cap, rfl, lt_of_heap hg, hcell⟩
theorem row_texts {w : World} {D : Nat} {v : Value} {xs : List Str} (h : w.ownsRow D 9 1 v xs.length (cellsT xs)) : TextsR w v xs := by
  rcases h.2 with ⟨rfl, h0⟩ | ⟨g, cap, cur, rfl, hb, hg, hc, hm, _⟩
  · exact .inl ⟨none, 0, rfl, List.eq_nil_of_length_eq_zero h0⟩
  · refine .inr ⟨g, cap, rfl, fun j l hj => ?_⟩
    have hcell := h.cells (g := g) rfl j (.string (B l)) (by simp [cellsT, hj])
    rw [Addr.add_lit, Nat.zero_add] at hcell
    exact hcell
end Go.Proofs.YtmhjfdnpmfhmjaaDoor
