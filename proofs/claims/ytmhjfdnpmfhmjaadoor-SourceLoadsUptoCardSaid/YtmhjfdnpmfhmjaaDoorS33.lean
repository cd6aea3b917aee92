/- thresherref19.Load: what holds at the head of its loop, and how a round turns it. -/
import Derived.Test.YtmhjfdnpmfhmjaaDoorS32
namespace Go.Proofs.YtmhjfdnpmfhmjaaDoor
open Go.RowKit
set_option linter.unusedVariables false

def names (L : List (Fr × Value)) : List Str := (L.drop 1).map fun p => p.1.name
def frs (L : List (Fr × Value)) : List Fr := L.reverse.map (·.1)
theorem frs_snoc (M : List (Fr × Value)) (q : Fr × Value) : frs (M ++ [q]) = q.1 :: frs M := by simp [frs]
theorem frs_len (M : List (Fr × Value)) : (frs M).length = M.length := by simp [frs]
theorem names_snoc {M : List (Fr × Value)} (q : Fr × Value) (h : M ≠ []) : names (M ++ [q]) = names M ++ [q.1.name] := by
  cases M with
  | nil => exact absurd rfl h
  | cons a M => simp [names]
theorem names_len (L : List (Fr × Value)) : (names L).length = L.length - 1 := by simp [names]
theorem names_same (M : List (Fr × Value)) (f f' : Fr) (v v' : Value) (h : f.name = f'.name) : names (M ++ [(f, v)]) = names (M ++ [(f', v')]) := by
  cases M with
  | nil => rfl
  | cons a M => simp [names, h]

/-- what holds at the head of Load's loop: gk rounds at most are to come -/
structure LdR (w : World) (Fs : List (Str × Str)) (R0 : R) (gk : Nat) (wr : World) (lv sv dv : Value) (L : List (Fr × Value)) (s : LS) : Prop where
  ld : Ld wr (w.heap.size + 1) lv sv dv s.lines L s.dn
  inv : Inv (Fs.map (·.1)) s
  opn : s.opn = names L
  res : resume (look Fs) (Fs.length + 1) (frs L) s = R0
  below : Below w.heap.size w wr
  b6 : wr.heap[w.heap.size]? = some (.cells #[.string ⟨#[]⟩, .int .i64 0] 29 (0, 0))
  work : workF (frs L) + unseen Fs (s.opn ++ s.dn) ≤ gk
  pos : ∀ p ∈ L, p.1.pos ≤ p.1.all.length ∧ p.1.all.length ≤ 1000001 ∧ ∀ l ∈ p.1.all, l.length ≤ 1000000
section
variable {w wr w' : World} {Fs : List (Str × Str)} {R0 : R} {gk : Nat} {lv sv dv : Value} {L M : List (Fr × Value)} {s : LS} {f : Fr} {rv : Value}
theorem LdR.depth (h : LdR w Fs R0 gk wr lv sv dv L s) : L.length ≤ Fs.length + 1 := by
  have h1 := h.inv.le
  have h2 := names_len L
  rw [h.opn, h2] at h1
  simp at h1
  omega
theorem LdR.dnLen (h : LdR w Fs R0 gk wr lv sv dv L s) : s.dn.length ≤ Fs.length := by
  have h1 := h.inv.le
  simp at h1
  omega
theorem LdR.size (h : LdR w Fs R0 gk wr lv sv dv L s) : w.heap.size + 1 ≤ wr.heap.size := lt_of_heap h.b6
theorem LdR.world (h : LdR w Fs R0 gk wr lv sv dv L s) (hb : Below wr.heap.size wr w') : LdR w Fs R0 gk w' lv sv dv L s :=
  ⟨h.ld.below hb, h.inv, h.opn, h.res, h.below.trans (hb.mono h.below.size), (hb.block _ (lt_of_heap h.b6)).trans h.b6, h.work, h.pos⟩
/-- the last text is at its end -/
theorem LdR.last {g cap : Nat} (h : LdR w Fs R0 gk wr lv (.slice (some ⟨g, 0, none⟩) 1 cap) dv [(f, rv)] s) (hp : f.pos = f.all.length) : R0 = .ok s ∧ ∃ k, k < gk ∧ LdR w Fs R0 k wr lv (.slice (some ⟨g, 0, none⟩) 0 cap) dv [] s := by
  have hr : R0 = .ok s := by rw [← h.res]; exact resume_end (Nat.le_of_eq hp.symm)
  have hw := h.work
  have h2 : workF (frs [(f, rv)]) = f.all.length - f.pos + 1 := by simp [workF, frs]
  refine ⟨hr, gk - 1, by omega, Ld.popped (M := []) (q := (f, rv)) h.ld rfl, h.inv, h.opn, by rw [hr]; rfl, h.below, h.b6, ?_, fun p hp => by cases hp⟩
  have h3 : workF (frs []) = 0 := rfl
  omega
/-- a file is at its end: the world behind the store of its name among those that are done -/
theorem LdR.done {g n cap g2 n2 cap2 : Nat} (h : LdR w Fs R0 gk wr lv (.slice (some ⟨g, 0, none⟩) (n + 1) cap) dv (M ++ [(f, rv)]) s) (hn : M.length = n) (hM : M ≠ []) (hp : f.pos = f.all.length)
    (hown : w'.ownsRow (w.heap.size + 1) 9 1 (.slice (some ⟨g2, 0, none⟩) n2 cap2) (s.dn.length + 1) (cellsT s.dn ++ [.string (B f.name)])) (hg : wr.grownBy w' dv.ownBlock) (hat : dv.ownBlock = some g2 ∨ wr.heap.size ≤ g2) :
    ∃ k, k < gk ∧ LdR w Fs R0 k w' lv (.slice (some ⟨g, 0, none⟩) n cap) (.slice (some ⟨g2, 0, none⟩) n2 cap2) M { s with opn := s.opn.dropLast, dn := s.dn ++ [f.name] } := by
  have ho : s.opn = names M ++ [f.name] := by rw [h.opn, names_snoc _ hM]
  have hw := h.work
  rw [frs_snoc] at hw
  change workF (f :: frs M) + _ ≤ _ at hw
  have h2 : workF (frs M) < workF (f :: frs M) := workF_pop
  have hbel : Below w.heap.size w w' := h.below.grown hg h.below.size fun g hg => by have := (h.ld.dn.lt g hg).1; omega
  refine ⟨gk - 1, by omega, (h.ld.doned (x := f.name) hown hg hat).popped hn, inv_pop h.inv ho, ?_, ?_, hbel, ?_, ?_, fun p hp => h.pos p (List.mem_append_left _ hp)⟩
  · show s.opn.dropLast = _
    rw [ho, List.dropLast_concat]
  · rw [← h.res, frs_snoc]
    have hfr : frs M ≠ [] := by simp [frs]; exact hM
    cases hfm : frs M with
    | nil => exact absurd hfm hfr
    | cons q r => exact (resume_pop (by omega)).symm
  · refine (hg.block _ (lt_of_heap h.b6) (fun e => ?_)).trans h.b6
    have := (h.ld.dn.lt _ e.symm).1
    omega
  · have hm : unseen Fs (s.opn.dropLast ++ (s.dn ++ [f.name])) ≤ unseen Fs (s.opn ++ s.dn) := by
      refine unseen_mono fun x hx => ?_
      rw [ho] at hx ⊢
      rw [List.dropLast_concat]
      simp at hx ⊢
      rcases hx with hx | hx | hx
      · exact .inl hx
      · exact .inr (.inr hx)
      · exact .inr (.inl hx)
    show workF (frs M) + unseen Fs (s.opn.dropLast ++ (s.dn ++ [f.name])) ≤ _
    omega
/-- a line was taken: nothing else has turned yet (W: behind the store) -/
theorem LdR.tick {g n cap : Nat} (h : LdR w Fs R0 gk wr lv (.slice (some ⟨g, 0, none⟩) n cap) dv (M ++ [(f, rv)]) s) : Ld (wr.setCell ⟨g, M.length * 3 + 2, none⟩ (.int .i64 ((f.pos + 1 : Nat) : Int))) (w.heap.size + 1) lv (.slice (some ⟨g, 0, none⟩) n cap) dv s.lines (M ++ [(f.next, rv)]) s.dn := h.ld.ticked
theorem LdR.stored {g n cap j : Nat} {v : Value} (h : LdR w Fs R0 gk wr lv (.slice (some ⟨g, 0, none⟩) n cap) dv L s) (hg : w.heap.size + 1 ≤ g) : Below w.heap.size w (wr.setCell ⟨g, j, none⟩ v) ∧ (wr.setCell ⟨g, j, none⟩ v).heap[w.heap.size]? = some (.cells #[.string ⟨#[]⟩, .int .i64 0] 29 (0, 0)) :=
  ⟨h.below.setCell (p := ⟨g, j, none⟩) (show w.heap.size ≤ g by omega) v, (Below.heap_setCell _ _ _ _ (show w.heap.size ≠ g by omega)).trans h.b6⟩
theorem pos_next (h : ∀ p ∈ M ++ [(f, rv)], p.1.pos ≤ p.1.all.length ∧ p.1.all.length ≤ 1000001 ∧ ∀ l ∈ p.1.all, l.length ≤ 1000000) (hp : f.pos < f.all.length) : ∀ p ∈ M ++ [(f.next, rv)], p.1.pos ≤ p.1.all.length ∧ p.1.all.length ≤ 1000001 ∧ ∀ l ∈ p.1.all, l.length ≤ 1000000 := by
  intro p hm
  rcases List.mem_append.1 hm with hm | hm
  · exact h p (List.mem_append_left _ hm)
  · simp at hm; subst hm
    have := h (f, rv) (by simp)
    exact ⟨hp, this.2⟩
end
theorem LdR.start {w w1 : World} (Fs : List (Str × Str)) (text : Str) {rv0 : Value} (hb : Below (w.heap.size + 1) (w.alloc (.cells #[.string ⟨#[]⟩, .int .i64 0] 29)) w1) (hown : w1.ownsRow (w.heap.size + 1) 9 1 rv0 (linesL text).length (cellsT (linesL text))) (hs : text.length ≤ 1000000) :
    LdR w Fs (loadF (look Fs) (Fs.length + 1) text) (workF [⟨[], linesL text, 0⟩] + unseen Fs []) (w1.alloc (.cells #[.string ⟨#[]⟩, rv0, .int .i64 0] 57)) (.slice none 0 0) (.slice (some ⟨w1.heap.size, 0, none⟩) 1 1) (.slice none 0 0) [(⟨[], linesL text, 0⟩, rv0)] ⟨[], [], [], []⟩ := by
  have hz : w.heap.size + 1 ≤ w1.heap.size := by have := hb.size; simpa using this
  have h6 : w1.heap[w.heap.size]? = some (.cells #[.string ⟨#[]⟩, .int .i64 0] 29 (0, 0)) := (hb.block _ (by omega)).trans (heap_alloc_at w _)
  refine ⟨Ld.nil _ _ (f := ⟨[], linesL text, 0⟩) hz (heap_alloc_at w1 _) (hown.alloc _), ⟨(by simp), (fun x hx => by cases hx), Nat.le_refl _, Nat.zero_le _⟩, rfl, resume_start _ _ _, ?_, (heap_alloc_lt w1 _ _ (by omega)).trans h6, Nat.le_refl _, ?_⟩
  · exact (((Below.refl _ _).alloc (Nat.le_refl _) _).trans (hb.mono (by omega))).alloc (by omega) _
  · intro p hp
    simp at hp; subst hp
    exact ⟨Nat.zero_le _, by have := linesL_len text; show (linesL text).length ≤ _; omega, fun l hl => by have := mem_lines_len hl; omega⟩
/-- within a round -/
structure LdM (w W : World) (lv sv dv : Value) (L : List (Fr × Value)) (ps : List (Str × Nat)) (dn : List Str) : Prop where
  ld : Ld W (w.heap.size + 1) lv sv dv ps L dn
  below : Below w.heap.size w W
  b6 : W.heap[w.heap.size]? = some (.cells #[.string ⟨#[]⟩, .int .i64 0] 29 (0, 0))
section
variable {w wr W W' : World} {Fs : List (Str × Str)} {R0 : R} {gk : Nat} {lv sv dv lv' sv' : Value} {L M : List (Fr × Value)} {s : LS} {f : Fr} {rv : Value} {ps : List (Str × Nat)} {dn : List Str}
theorem LdM.world (h : LdM w W lv sv dv L ps dn) (hb : Below W.heap.size W W') : LdM w W' lv sv dv L ps dn :=
  ⟨h.ld.below hb, h.below.trans (hb.mono h.below.size), (hb.block _ (lt_of_heap h.b6)).trans h.b6⟩
theorem LdM.size (h : LdM w W lv sv dv L ps dn) : w.heap.size + 1 ≤ W.heap.size := lt_of_heap h.b6
theorem LdM.lined {p : Str × Nat} (h : LdM w W lv sv dv L ps dn) (hown : W'.ownsRow (w.heap.size + 1) 29 2 lv' (ps.length + 1) (cellsP ps ++ [.string (B p.1), .int .i64 (p.2 : Int)])) (hg : W.grownBy W' lv.ownBlock) :
    LdM w W' lv' sv dv L (ps ++ [p]) dn :=
  ⟨h.ld.lined hown hg, h.below.grown hg h.below.size fun g hg => by have := (h.ld.lin.lt g hg).1; omega, (hg.block _ (lt_of_heap h.b6) (fun e => by have := (h.ld.lin.lt _ e.symm).1; omega)).trans h.b6⟩
theorem LdM.pushed {fr : Fr} {rv2 : Value} (h : LdM w W lv sv dv L ps dn) (hown : W'.ownsRow (w.heap.size + 1) 57 3 sv' (L.length + 1) (cellsO L ++ [.string (B fr.name), rv2, .int .i64 (fr.pos : Int)])) (hg : W.grownBy W' sv.ownBlock)
    (hr : W.ownsRow (w.heap.size + 1) 9 1 rv2 fr.all.length (cellsT fr.all)) (ha : ∀ g, rv2.ownBlock = some g → dv.ownBlock ≠ some g) : LdM w W' lv sv' dv (L ++ [(fr, rv2)]) ps dn :=
  ⟨h.ld.pushed hown hg hr ha, h.below.grown hg h.below.size fun g hg => by have := (h.ld.stk.lt g hg).1; omega, (hg.block _ (lt_of_heap h.b6) (fun e => by have := (h.ld.stk.lt _ e.symm).1; omega)).trans h.b6⟩
theorem LdR.mid {g n cap m k1 : Nat} (h : LdR w Fs R0 gk wr lv (.slice (some ⟨g, 0, none⟩) n cap) dv (M ++ [(f, rv)]) s) (hm : m = M.length) (hk : k1 = f.pos + 1) (hg : w.heap.size + 1 ≤ g) :
    LdM w (wr.setCell ⟨g, m * 3 + 2, none⟩ (.int .i64 (k1 : Int))) lv (.slice (some ⟨g, 0, none⟩) n cap) dv (M ++ [(f.next, rv)]) s.lines s.dn := by
  subst hm; subst hk
  exact ⟨h.tick, (h.stored hg).1, (h.stored hg).2⟩
theorem LdR.skip (h : LdR w Fs R0 gk wr lv sv dv (M ++ [(f, rv)]) s) (hm : LdM w W lv sv dv (M ++ [(f.next, rv)]) s.lines s.dn) (hp : f.pos < f.all.length) (hres : resume (look Fs) (Fs.length + 1) (f.next :: frs M) s = R0) :
    ∃ k, k < gk ∧ LdR w Fs R0 k W lv sv dv (M ++ [(f.next, rv)]) s := by
  have hw := h.work
  rw [frs_snoc] at hw
  change workF (f :: frs M) + _ ≤ _ at hw
  have h2 := workF_next (rest := frs M) hp
  refine ⟨gk - 1, by omega, hm.ld, h.inv, h.opn.trans (names_same _ _ _ _ _ rfl), by rw [frs_snoc]; exact hres, hm.below, hm.b6, ?_, pos_next h.pos hp⟩
  rw [frs_snoc]
  show workF (f.next :: frs M) + _ ≤ _
  omega
theorem LdR.line {l : Str} {p : Str × Nat} (h : LdR w Fs R0 gk wr lv sv dv (M ++ [(f, rv)]) s) (hm : LdM w W lv' sv dv (M ++ [(f.next, rv)]) (s.lines ++ [p]) s.dn) (hp : f.pos < f.all.length) (hl : ¬ 8192 < s.out.length + l.length + 1)
    (hres : resume (look Fs) (Fs.length + 1) (f.next :: frs M) { s with out := s.out ++ (l ++ [10]), lines := s.lines ++ [p] } = R0) :
    ∃ k, k < gk ∧ LdR w Fs R0 k W lv' sv dv (M ++ [(f.next, rv)]) { s with out := s.out ++ (l ++ [10]), lines := s.lines ++ [p] } := by
  have hw := h.work
  rw [frs_snoc] at hw
  change workF (f :: frs M) + _ ≤ _ at hw
  have h2 := workF_next (rest := frs M) hp
  refine ⟨gk - 1, by omega, hm.ld, inv_line h.inv hl, h.opn.trans (names_same _ _ _ _ _ rfl), by rw [frs_snoc]; exact hres, hm.below, hm.b6, ?_, pos_next h.pos hp⟩
  rw [frs_snoc]
  show workF (f.next :: frs M) + unseen Fs (s.opn ++ s.dn) ≤ _
  omega
theorem LdR.push {x t : Str} {rv2 : Value} (h : LdR w Fs R0 gk wr lv sv dv (M ++ [(f, rv)]) s) (hm : LdM w W lv sv' dv (M ++ [(f.next, rv)] ++ [(⟨x, linesL t, 0⟩, rv2)]) s.lines s.dn) (hp : f.pos < f.all.length) (h1 : x ∉ s.opn) (h2 : x ∉ s.dn) (hF : look Fs x = some t) (ht : t.length ≤ 1000000)
    (hres : resume (look Fs) (Fs.length + 1) (⟨x, linesL t, 0⟩ :: f.next :: frs M) { s with opn := s.opn ++ [x] } = R0) :
    ∃ k, k < gk ∧ LdR w Fs R0 k W lv sv' dv (M ++ [(f.next, rv)] ++ [(⟨x, linesL t, 0⟩, rv2)]) { s with opn := s.opn ++ [x] } := by
  have hw := h.work
  rw [frs_snoc] at hw
  change workF (f :: frs M) + _ ≤ _ at hw
  have h3 := workF_push (rest := frs M) (x := x) (t := t) hp
  have hu : unseen Fs (s.opn ++ [x] ++ s.dn) + (linesL t).length + 2 ≤ unseen Fs (s.opn ++ s.dn) := unseen_new hF (by simp; exact ⟨h1, h2⟩) (fun y hy => by simp at hy ⊢; rcases hy with hy | hy; exact .inl hy; exact .inr (.inr hy)) (by simp)
  have hfr : frs (M ++ [(f.next, rv)] ++ [(⟨x, linesL t, 0⟩, rv2)]) = ⟨x, linesL t, 0⟩ :: f.next :: frs M := by rw [frs_snoc, frs_snoc]
  refine ⟨gk - 1, by omega, hm.ld, inv_push h.inv h1 h2 (look_mem hF), ?_, by rw [hfr]; exact hres, hm.below, hm.b6, ?_, ?_⟩
  · rw [names_snoc _ (by simp), ← h.opn.trans (names_same M f f.next rv rv rfl)]
  · rw [hfr]
    show workF (⟨x, linesL t, 0⟩ :: f.next :: frs M) + unseen Fs (s.opn ++ [x] ++ s.dn) ≤ _
    omega
  · intro p hpm
    rcases List.mem_append.1 hpm with hpm | hpm
    · exact pos_next h.pos hp p hpm
    · simp at hpm; subst hpm
      exact ⟨Nat.zero_le _, by have := linesL_len t; show (linesL t).length ≤ _; omega, fun l hl => by have := mem_lines_len hl; omega⟩
end
theorem refD_cases (l : Str) : refD l = (0, []) ∨ refD l = (1, []) ∨ ∃ x, refD l = (2, x) := by
  rw [refD_dirL]
  split
  · split
    · exact .inr (.inr ⟨_, rfl⟩)
    · exact .inr (.inl rfl)
  · exact .inl rfl
end Go.Proofs.YtmhjfdnpmfhmjaaDoor
