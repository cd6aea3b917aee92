/- A range over an iterator that keeps its state in a cell of its own (strings.SplitSeq): the caller's law. -/
import Derived.Test.YtkaelmbgfcehhaaDoorM1
import Derived.RangeFuncNested
import Derived.RangeFuncBound
import Derived.RangeFuncCalls
import Derived.RangeFuncLeaves
import Derived.OwnWalkIn
import Derived.TacticsInMore
import Derived.LoopNIn
import Derived.LoopIn
import Derived.Shelf.Abstract
set_option linter.unusedVariables false
set_option linter.unusedSimpArgs false
namespace Go.Proofs.YtkaelmbgfcehhaaDoor
open Go.RowKit Go.Shelf
set_option linter.unusedVariables false
set_option linter.unusedSimpArgs false

/-- what is said of a world does not speak of cell 0 of block b -/
def Blind {β : Type} (b : Nat) (J : β → World → Prop) : Prop := ∀ x W v, J x W → J x (W.setCell ⟨b, 0, none⟩ v)
theorem Blind.and {β : Type} {b : Nat} {I J : β → World → Prop} (h : Blind b I) (k : Blind b J) : Blind b (fun x W => I x W ∧ J x W) := fun x W v hx => ⟨h x W v hx.1, k x W v hx.2⟩
/-- how the iterator is called: J, Jx: what its caller keeps (a round that goes on, one that stops) -/
def SeqBox {α : Type} (F : Fence) (n : Nat) (P : Program) (g b : Nat) (lb : Array Value) (encs : α → Array Value) (Kp : World → World → Prop) (S Sp : List α → Prop) (N : Nat) (w : World) : Prop :=
  ∀ (l : Nat) (J Jx : List α → World → Prop) (W : World), Below w.heap.size w W → AbidesFrom W.heap.size J → AbidesFrom W.heap.size Jx → Blind b J → Blind b Jx →
    (∀ pre x W1, J pre W1 → pre.length < N → YieldAt F (n - 1) P l (encs x) W1 fun e W' => (e = .returned (.bool true) ∧ J (pre ++ [x]) W' ∧ Kp W1 W') ∨ (e = .returned (.bool false) ∧ Jx (pre ++ [x]) W')) →
    J [] W → CallsIn F n P g (#[.func (.yield l) #[] #[]] ++ lb) W fun e W' => (∃ v, e = .returned v) ∧ ((∃ xs, S xs ∧ J xs W') ∨ (∃ pre, Sp pre ∧ Jx pre W'))
theorem heap_box {W : World} {b k : Nat} (v : Value) (h : k ≠ b) : (W.setCell ⟨b, 0, none⟩ v).heap[k]? = W.heap[k]? := Below.heap_setCell _ _ _ _ h
section
variable {P : Program} {F : Fence} {n : Nat}
theorem wpIn_rangeFunc_box {α : Type} {g : Operand} {ps : Array Tmp} {assign body : Code} {Q : Exit → Act → World → Prop} {a : Act} {w : World}
    (hro : F.round = none) (h1 : 1 ≤ n) {gf b : Nat} {lb : Array Value} (hg : a.eval g = .func (.func gf) #[] lb) (hFg : F.fn gf) (eg : ∀ args w, (callFunc gf args).run P w = .ok (.enter gf args) w) (hb : b < w.heap.size)
    {encs : α → Array Value} {Kp : World → World → Prop} {S Sp : List α → Prop} {N : Nat} (hseq : SeqBox F (n - 1) P gf b lb encs Kp S Sp N w)
    (hKt : ∀ {A B C : World}, Kp A B → Kp B C → Kp A C) (hKb : ∀ (W : World) (l : Nat) (o o' : Obj), w.heap.size ≤ l → W.heap[l]? = some o → o.isCells = false → o.isWalk = false → Kp W (W.putObj l o')) (hps : ∀ x, (encs x).size = ps.size)
    (I : List α → World → Prop) (Ix : Code → List α → World → Prop) (hI : OwnFrom w.heap.size I) (hIx : ∀ c, OwnFrom w.heap.size (Ix c)) (hIb : Blind b I) (hIxb : ∀ c, Blind b (Ix c)) (h0 : I [] w) (a₁ : α → Act)
    (hassign : ∀ (l : Nat) (x : α) (W : World) (K : Act → World → Prop), K (a₁ x) W →
      assign.wpIn (F.inRound l) (n - 1 - 1) P (Exit.then K (fun _ _ _ => False)) { tmps := (ps.zip (encs x)).foldl (fun t (p, v) => t.setIfInBounds p v) a.tmps, defers := [] } W)
    (hbody : ∀ (l : Nat) (pre : List α) (x : α) (W : World), I pre W → pre.length < N → body.wpIn (F.inRound l) (n - 1 - 1) P (ownPostK Kp I Ix (pre ++ [x]) W) (a₁ x) W)
    (hdone : ∀ (D : Nat) (xs : List α) (W : World), w.heap.size ≤ D → S xs → I xs W → W.heap[D]? = some (.deferred (some [])) → Q .normal { a with defers := { target := .collected D, args := #[] } :: a.defers } W)
    (hstop : ∀ (D : Nat) (c : Code) (pre : List α) (W : World), w.heap.size ≤ D → Sp pre → Ix c pre W → W.heap[D]? = some (.deferred (some [])) → c.wpIn F n P Q { a with defers := { target := .collected D, args := #[] } :: a.defers } W) :
    (Code.rangeFunc g ps assign body).wpIn F n P Q a w := by
  refine wpIn_rangeFunc fun fn hfn => ?_
  rw [hro]
  obtain ⟨rec, hrec⟩ : ∃ rec : LoopState → Option Code → Loop, rec = fun st pe => { state := st, pending := pe, fn, tmps := a.tmps, params := ps, assign, body, defers := w.heap.size } := ⟨_, rfl⟩
  -- the two blocks of book-keeping
  obtain ⟨d, hd⟩ : ∃ d, d = w.heap.size := ⟨_, rfl⟩
  have hbd : b ≠ d ∧ b ≠ d + 1 := by omega
  have hdne : d ≠ b ∧ d + 1 ≠ b := by omega
  obtain ⟨W1, hW1⟩ : ∃ W1, (w.alloc (.deferred (some []))).alloc (.loop (rec .ready none)) = W1 := ⟨_, rfl⟩
  have hs1 : W1.heap.size = d + 2 := by rw [← hW1]; simp; omega
  have hL1 : W1.heap[d + 1]? = some (.loop (rec .ready none)) := by
    have := World.alloc_heap_new (w.alloc (.deferred (some []))) (.loop (rec .ready none))
    rw [World.size_alloc, hW1, ← hd] at this
    exact this
  have hK1 : W1.heap[d]? = some (.deferred (some [])) := by
    rw [← hW1, hd]
    exact (Below.heap_alloc _ _ _ (by simp)).trans (World.alloc_heap_new w _)
  have hI1 : I [] W1 := by rw [← hW1]; exact hI.alloc _ (hI.alloc _ h0)
  have hb1 : Below w.heap.size w W1 := by rw [← hW1]; exact ((Below.refl _ w).alloc (Nat.le_refl _) _).alloc (by simp) _
  have walk : ∀ {A B : World} {row : Option Nat}, (∀ r, row = some r → W1.heap.size ≤ r ∧ ∃ o : Obj, A.heap[r]? = some o ∧ o.isWalk = true) → (∀ r, row = some r → w.heap.size ≤ r ∧ ∃ o : Obj, A.heap[r]? = some o ∧ o.isCells = false) := fun hr r e => by
    obtain ⟨h2, o, h3, h4⟩ := hr r e
    exact ⟨by omega, o, h3, Obj.not_cells_of_walk h4⟩
  have far : ∀ {A B : World} {row : Option Nat} {k : Nat}, A.grownBy B row → (∀ r, row = some r → W1.heap.size ≤ r ∧ ∃ o : Obj, A.heap[r]? = some o ∧ o.isWalk = true) → k < d + 2 → ∀ {o : Obj}, A.heap[k]? = some o → B.heap[k]? = some o := fun hgr hr hk o ho =>
    (hgr.block _ (lt_of_heap ho) (fun e => by have := (hr _ e.symm).1; omega)).trans ho
  refine ⟨d + 1, [{ target := .collected d, args := #[] }], W1, { target := .fn (.func gf) lb, args := #[.func (.yield (d + 1)) #[] #[]] }, W1, gf, #[.func (.yield (d + 1)) #[] #[]] ++ lb, W1, ?_, ?_, ?_, ?_, fun _ => h1, ?_⟩
  · rw [← hW1, hrec, hd]; exact run_enterLoop_outer _ _ _ _ _
  · simp only [resolve, hg]
    simp [go_sem]
  · intro f' hf'
    simp [Target.leads] at hf'
    subst hf'
    exact hFg
  · simp [invoke, go_sem, eg]
  refine (hseq (d + 1) (fun pre W => I pre W ∧ W.heap[d + 1]? = some (.loop (rec .ready none)) ∧ W.heap[d]? = some (.deferred (some [])))
    (fun pre W => ∃ c, Ix c pre W ∧ W.heap[d + 1]? = some (.loop (rec .done (some c))) ∧ W.heap[d]? = some (.deferred (some []))) W1 hb1
    (fun s A B row hs hgr hr => ⟨hI s A B row hs.1 hgr (walk (B := B) hr), far hgr hr (by omega) hs.2.1, far hgr hr (by omega) hs.2.2⟩)
    (fun s A B row ⟨c, hc, hl, hk⟩ hgr hr => ⟨c, hIx c s A B row hc hgr (walk (B := B) hr), far hgr hr (by omega) hl, far hgr hr (by omega) hk⟩)
    (fun s A v hs => ⟨hIb s A v hs.1, (heap_box v hdne.2).trans hs.2.1, (heap_box v hdne.1).trans hs.2.2⟩)
    (fun s A v ⟨c, hc, hl, hk⟩ => ⟨c, hIxb c s A v hc, (heap_box v hdne.2).trans hl, (heap_box v hdne.1).trans hk⟩) ?_ ⟨hI1, hL1, hK1⟩).mono ?_
  · -- one round
    rintro pre x W ⟨hi, hl, hk⟩ hlen
    have hlt := lt_of_heap hl
    have hy := run_yield (P := P) (args := encs x) hl (by rw [hrec]; exact hps x)
    rw [hrec] at hy
    refine ⟨fn, _, assign, body, hy, roundIn_of_wpIn hfn (hassign _ x W _ ⟨_, run_beginRound hl (by rw [hrec]), ?_⟩)⟩
    obtain ⟨V, hV⟩ : ∃ V, V = W.putObj (d + 1) (.loop { rec .ready none with state := .busy }) := ⟨_, rfl⟩
    have hl2 : V.heap[d + 1]? = some (.loop { rec .ready none with state := .busy }) := hV ▸ World.putObj_heap_same hlt
    have hk2 : V.heap[d]? = some (.deferred (some [])) := hV ▸ (World.putObj_heap_other (by omega)).trans hk
    have hi2 : I pre V := hV ▸ hI.putObj _ hi (by omega) hl rfl
    have hw2 : Kp W V := hV ▸ hKb _ _ _ _ (by omega) hl rfl rfl
    rw [← hV]
    have fin : ∀ (jump : Option Code) (U : World), KeepsOthers V U →
        (Instr.endRound (d + 1) jump).run P U = .ok (.bool jump.isNone) (U.putObj (d + 1) (.loop (rec (if jump.isNone then .ready else .done) jump))) ∧
        U.heap[d + 1]? = some (.loop { rec .ready none with state := .busy }) ∧
        (U.putObj (d + 1) (.loop (rec (if jump.isNone then .ready else .done) jump))).heap[d + 1]? = some (.loop (rec (if jump.isNone then .ready else .done) jump)) ∧
        (U.putObj (d + 1) (.loop (rec (if jump.isNone then .ready else .done) jump))).heap[d]? = some (.deferred (some [])) := fun jump U hku => by
      have hl3 := hku.same _ _ hl2 rfl
      have hr := run_endRound (P := P) jump hl3
      rw [hrec] at hr hl3 ⊢
      exact ⟨hr, hl3, World.putObj_heap_same (lt_of_heap hl3), (World.putObj_heap_other (by omega)).trans (hku.same _ _ hk2 rfl)⟩
    have stop : ∀ (c : Code) (U : World), KeepsOthers V U → Ix c (pre ++ [x]) U → ∃ r U', (Instr.endRound (d + 1) (some c)).run P U = .ok (.bool r) U' ∧ ((r = true ∧ (I (pre ++ [x]) U' ∧ U'.heap[d + 1]? = some (.loop (rec .ready none)) ∧ U'.heap[d]? = some (.deferred (some []))) ∧ Kp W U') ∨
        (r = false ∧ ∃ c, Ix c (pre ++ [x]) U' ∧ U'.heap[d + 1]? = some (.loop (rec .done (some c))) ∧ U'.heap[d]? = some (.deferred (some [])))) := fun c U hku hix => by
      obtain ⟨hr, hl3, hl4, hk4⟩ := fin (some c) U hku
      exact ⟨_, _, hr, .inr ⟨rfl, c, (hIx _).putObj _ hix (by omega) hl3 rfl, hl4, hk4⟩⟩
    refine wpIn_mono (hbody _ pre x V hi2 hlen) ?_
    rintro e a3 U hp
    cases e with
    | normal =>
      obtain ⟨hku, hkp, hi3⟩ := hp
      obtain ⟨hr, hl3, hl4, hk4⟩ := fin none U hku
      exact ⟨_, _, hr, .inl ⟨rfl, ⟨hI.putObj _ hi3 (by omega) hl3 rfl, hl4, hk4⟩, hKt (hKt hw2 hkp) (hKb _ _ _ _ (by omega) hl3 rfl rfl)⟩⟩
    | ret =>
      obtain ⟨hr, hl3, hl4, hk4⟩ := fin (some .ret) U hp.1
      exact ⟨_, _, hr, .inr ⟨rfl, .ret, (hIx _).putObj _ hp.2 (by omega) hl3 rfl, hl4, hk4⟩⟩
    | exit id =>
      obtain ⟨hr, hl3, hl4, hk4⟩ := fin (some (.exit id)) U hp.1
      exact ⟨_, _, hr, .inr ⟨rfl, .exit id, (hIx _).putObj _ hp.2 (by omega) hl3 rfl, hl4, hk4⟩⟩
    | goto t =>
      obtain ⟨hr, hl3, hl4, hk4⟩ := fin (some (.goto t)) U hp.1
      exact ⟨_, _, hr, .inr ⟨rfl, .goto t, (hIx _).putObj _ hp.2 (by omega) hl3 rfl, hl4, hk4⟩⟩
    | panic ch => exact hp.elim
    | outgrown => exact hp.elim
  · -- behind the iterator
    rintro e U ⟨⟨v, rfl⟩, (⟨xs, hS, hi, hl, hk⟩ | ⟨pre, hSp, c, hi, hl, hk⟩)⟩
    · have hr := run_endLoop (P := P) hl (by rw [hrec]; simp)
      rw [hrec] at hr
      exact ⟨none, _, hr, hdone _ xs _ (by omega) hS (hI.putObj _ hi (by omega) hl rfl) ((World.putObj_heap_other (by omega)).trans hk)⟩
    · have hr := run_endLoop (P := P) hl (by rw [hrec]; simp)
      rw [hrec] at hr
      exact ⟨some c, _, hr, hstop _ c pre _ (by omega) hSp ((hIx c).putObj _ hi (by omega) hl rfl) ((World.putObj_heap_other (by omega)).trans hk)⟩
end
end Go.Proofs.YtkaelmbgfcehhaaDoor
