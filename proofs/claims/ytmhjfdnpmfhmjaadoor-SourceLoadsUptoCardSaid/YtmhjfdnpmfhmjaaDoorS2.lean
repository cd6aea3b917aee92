/- Package source: what the loader's memory holds. -/
import Derived.Test.YtmhjfdnpmfhmjaaDoorS1
import Derived.Test.YtmhjfdnpmfhmjaaDoorE1
namespace Go.Proofs.YtmhjfdnpmfhmjaaDoor
open Go.RowKit
set_option linter.unusedVariables false

def cellsS (L : List Str) : List Value := L.map fun l => Value.string (B l)
def cellsP : List (Str × Nat) → List Value
  | [] => []
  | p :: L => .string (B p.1) :: .int .i64 (p.2 : Int) :: cellsP L
theorem cellsS_length (L : List Str) : (cellsS L).length = L.length := by simp [cellsS]
theorem cellsP_length (L : List (Str × Nat)) : (cellsP L).length = L.length * 2 := by
  induction L with
  | nil => rfl
  | cons p L ih => simp only [cellsP, List.length_cons, ih]; omega
theorem cellsP_app (L M : List (Str × Nat)) : cellsP (L ++ M) = cellsP L ++ cellsP M := by
  induction L with
  | nil => rfl
  | cons p L ih => simp only [cellsP, List.cons_append, ih]
theorem cellsS_app (L M : List Str) : cellsS (L ++ M) = cellsS L ++ cellsS M := by simp [cellsS]

theorem infoS : (Tryd.prog.info? 9).map (fun i => (i.zero, i.size, i.bytes)) = some (some (.string .empty), 1, 16) := by kernel_rfl
theorem infoP : (Tryd.prog.info? 29).map (fun i => (i.zero, i.size, i.bytes)) = some (some (.agg #[.string .empty, .int .i64 0]), 2, 24) := by kernel_rfl
theorem undS : Tryd.prog.underlying 38 = some (.slice 9) := by kernel_rfl
theorem undP : Tryd.prog.underlying 25 = some (.slice 29) := by kernel_rfl

/-- a loader in block b (all that it has made lies from D on) -/
structure St (w : World) (D b : Nat) (fv ap bv lv ov dv : Value) (s : LS) : Prop where
  lo : D ≤ b
  heap : w.heap[b]? = some (.cells #[fv, ap, bv, lv, ov, dv] 53 (0, 0))
  ptr : ap = .pointer none ∨ ap = .pointer (some ⟨b, 1, none⟩)
  buf : w.ownsRow D 5 1 bv (Lib.byteCells s.out).length (Lib.byteCells s.out)
  lin : w.ownsRow D 29 2 lv s.lines.length (cellsP s.lines)
  opn : w.ownsRow D 9 1 ov s.opn.length (cellsS s.opn)
  dn : w.ownsRow D 9 1 dv s.dn.length (cellsS s.dn)
  apart : ∀ g, ov.ownBlock = some g → dv.ownBlock ≠ some g

/-- the blocks of a loader -/
def blk (b : Nat) (bv lv ov dv : Value) : List Nat := b :: (bv.ownBlock.toList ++ (lv.ownBlock.toList ++ (ov.ownBlock.toList ++ dv.ownBlock.toList)))
theorem mem_blk {b : Nat} {bv lv ov dv : Value} {x : Nat} : x ∈ blk b bv lv ov dv ↔ x = b ∨ bv.ownBlock = some x ∨ lv.ownBlock = some x ∨ ov.ownBlock = some x ∨ dv.ownBlock = some x := by
  simp [blk]

section
variable {w : World} {D b : Nat} {fv ap bv lv ov dv : Value} {s : LS}
theorem St.lt (h : St w D b fv ap bv lv ov dv s) : b < w.heap.size := lt_of_heap h.heap
theorem St.bne (h : St w D b fv ap bv lv ov dv s) : bv.ownBlock ≠ some b := Lib.ownBlock_ne h.buf h.heap (by decide)
theorem own_ne {w : World} {B b : Nat} {e T : TypeId} {v : Value} {n k : Nat} {xs : List Value} {cs : Array Value} {fr : Nat × Nat} (hown : w.ownsRow B e k v n xs) (hb : w.heap[b]? = some (.cells cs T fr)) (hTe : T ≠ e) : v.ownBlock ≠ some b := by
  rcases hown.2 with ⟨rfl, _⟩ | ⟨g, cap, cur, rfl, _, hg, _⟩
  · simp [Value.ownBlock]
  · intro h
    simp only [Value.ownBlock, Option.some.injEq] at h
    subst h
    rw [hg] at hb
    simp only [Option.some.injEq, Obj.cells.injEq] at hb
    exact hTe hb.2.1.symm
/-- rows of unlike elements lie apart -/
theorem rows_ne {w : World} {B B' : Nat} {e e' : TypeId} {v v' : Value} {n n' k k' : Nat} {xs xs' : List Value} (h : w.ownsRow B e k v n xs) (h' : w.ownsRow B' e' k' v' n' xs') (hTe : e ≠ e') : ∀ g, v.ownBlock = some g → v'.ownBlock ≠ some g := by
  intro g hg
  rcases h.2 with ⟨rfl, _⟩ | ⟨g0, cap, cur, rfl, _, hgg, _⟩
  · simp [Value.ownBlock] at hg
  · simp only [Value.ownBlock, Option.some.injEq] at hg
    subst hg
    exact own_ne h' hgg hTe
theorem St.blk_lo (h : St w D b fv ap bv lv ov dv s) {x : Nat} (hx : x ∈ blk b bv lv ov dv) : D ≤ x ∧ x < w.heap.size := by
  rcases mem_blk.1 hx with rfl | e | e | e | e
  · exact ⟨h.lo, h.lt⟩
  · exact h.buf.lt x e
  · exact h.lin.lt x e
  · exact h.opn.lt x e
  · exact h.dn.lt x e
/-- what turns none of its blocks leaves it as it is -/
theorem own_keep {w w' : World} {B : Nat} {e : TypeId} {v : Value} {n k : Nat} {xs : List Value} (h : w.ownsRow B e k v n xs) (hk : ∀ g, v.ownBlock = some g → w'.heap[g]? = w.heap[g]?) : w'.ownsRow B e k v n xs := by
  refine ⟨h.1, ?_⟩
  rcases h.2 with hn | ⟨g, cap, cur, rfl, hb, hgg, rest⟩
  · exact .inl hn
  · exact .inr ⟨g, cap, cur, rfl, hb, (hk g rfl).trans hgg, rest⟩
theorem St.keep {w' : World} (h : St w D b fv ap bv lv ov dv s) (hk : ∀ g, g ∈ blk b bv lv ov dv → w'.heap[g]? = w.heap[g]?) : St w' D b fv ap bv lv ov dv s :=
  ⟨h.lo, (hk b (by simp [blk])).trans h.heap, h.ptr, own_keep h.buf fun g e => hk g (mem_blk.2 (.inr (.inl e))), own_keep h.lin fun g e => hk g (mem_blk.2 (.inr (.inr (.inl e)))),
    own_keep h.opn fun g e => hk g (mem_blk.2 (.inr (.inr (.inr (.inl e))))), own_keep h.dn fun g e => hk g (mem_blk.2 (.inr (.inr (.inr (.inr e))))), h.apart⟩
theorem St.below {w' : World} (h : St w D b fv ap bv lv ov dv s) (hb : Below w.heap.size w w') : St w' D b fv ap bv lv ov dv s := h.keep fun g hg => hb.block g (h.blk_lo hg).2
theorem St.cell (h : St w D b fv ap bv lv ov dv s) (j : Nat) : w.cell? ⟨b, j, none⟩ = (#[fv, ap, bv, lv, ov, dv] : Array Value)[j]? := Lib.cell_of_heap h.heap j
theorem St.frozen (h : St w D b fv ap bv lv ov dv s) (j : Nat) : w.frozen? ⟨b, j, none⟩ = false := Lib.frozen_of_heap h.heap j
theorem St.inB (h : St w D b fv ap bv lv ov dv s) : InB w D b #[fv, ap, bv, lv, ov, dv] ap bv (Lib.byteCells s.out) := ⟨h.lo, h.heap, rfl, rfl, rfl, h.ptr, h.buf⟩
end
/-- what the loader panics with -/
def faultV (file : Str) (n e : Nat) : Value := .iface 46 (.agg #[.string (B file), .int .i64 (n : Int), .int .i64 (e : Int)])
/-- how a loader's method ends -/
def Out (D b : Nat) (fv : Value) (S0 : List Nat) (w : World) : R → Ending → World → Prop
  | .ok s', e, w' => e = .returned (.tuple #[]) ∧ ∃ ap bv lv ov dv, St w' D b fv ap bv lv ov dv s' ∧ Apart S0 w w' ∧ ∀ x ∈ blk b bv lv ov dv, x ∈ S0 ∨ w.heap.size ≤ x
  | .bad f m c, e, w' => e = .panicked [{ v := faultV f m c, recovered := false }] ∧ Below D w w'

section
variable {w : World} {D b : Nat} {fv ap bv lv ov dv : Value} {s : LS}
theorem St.apartKeep (h : St w D b fv ap bv lv ov dv s) {w' : World} {S : List Nat} (ha : Apart S w w') (hd : ∀ g ∈ blk b bv lv ov dv, g ∉ S) : St w' D b fv ap bv lv ov dv s :=
  h.keep fun g hg => ha.block g (h.blk_lo hg).2 (hd g hg)
theorem St.ofApart {w : World} {D b : Nat} {fv ap bv lv ov dv : Value} {s : LS} (h : St w D b fv ap bv lv ov dv s) {w' : World} {S : List Nat} (ha : Apart S w w') (hd : ∀ g ∈ blk b bv lv ov dv, g ∉ S) : St w' D b fv ap bv lv ov dv s := h.apartKeep ha hd
/-- behind a write to the builder -/
theorem St.wrote {w w' : World} {D b : Nat} {fv ap bv lv ov dv v' : Value} {s : LS} {x : Str} (h : St w D b fv ap bv lv ov dv s) (hin : InB w' D b (wroteB b #[fv, ap, bv, lv, ov, dv] v') (.pointer (some ⟨b, 1, none⟩)) v' (Lib.byteCells s.out ++ Lib.strCells (B x)))
    (ha : Apart (b :: bv.ownBlock.toList) w w') : St w' D b fv (.pointer (some ⟨b, 1, none⟩)) v' lv ov dv { s with out := s.out ++ x } := by
  have e : Lib.byteCells s.out ++ Lib.strCells (B x) = Lib.byteCells (s.out ++ x) := by
    have e2 : Lib.strCells (B x) = Lib.byteCells x := by simp [Lib.strCells, Lib.byteCells, B]
    rw [e2]; simp [Lib.byteCells]
  have hbuf := hin.own
  rw [e] at hbuf
  have hk : ∀ g, g ≠ b → bv.ownBlock ≠ some g → g < w.heap.size → w'.heap[g]? = w.heap[g]? := fun g h1 h2 h3 => ha.block g h3 (by simp [h1, h2])
  refine ⟨h.lo, hin.heap, .inr rfl, hbuf, own_keep h.lin fun g hg => hk g (fun e => own_ne h.lin h.heap (by decide) (e ▸ hg)) (fun e => rows_ne h.buf h.lin (by decide) g e hg) (h.lin.lt g hg).2,
    own_keep h.opn fun g hg => hk g (fun e => own_ne h.opn h.heap (by decide) (e ▸ hg)) (fun e => rows_ne h.buf h.opn (by decide) g e hg) (h.opn.lt g hg).2,
    own_keep h.dn fun g hg => hk g (fun e => own_ne h.dn h.heap (by decide) (e ▸ hg)) (fun e => rows_ne h.buf h.dn (by decide) g e hg) (h.dn.lt g hg).2, h.apart⟩
/-- behind an append to the places and the store -/
theorem St.lined {w w' : World} {D b : Nat} {fv ap bv lv ov dv v' : Value} {s : LS} {p : Str × Nat} (h : St w D b fv ap bv lv ov dv s) (hown : w'.ownsRow D 29 2 v' (s.lines.length + 1) (cellsP s.lines ++ [.string (B p.1), .int .i64 (p.2 : Int)])) (hg : w.grownBy w' lv.ownBlock) :
    St (w'.setCell ⟨b, 3, none⟩ v') D b fv ap bv v' ov dv { s with lines := s.lines ++ [p] } := by
  have hk : ∀ g, lv.ownBlock ≠ some g → g < w.heap.size → w'.heap[g]? = w.heap[g]? := fun g h1 h3 => hg.block g h3 (fun e => h1 e.symm)
  have hb : w'.heap[b]? = some (.cells #[fv, ap, bv, lv, ov, dv] 53 (0, 0)) := (hk b (own_ne h.lin h.heap (by decide)) h.lt).trans h.heap
  have hset : ∀ g, g ≠ b → (w'.setCell ⟨b, 3, none⟩ v').heap[g]? = w'.heap[g]? := fun g hgb => Below.heap_setCell _ _ _ _ hgb
  have hvb : v'.ownBlock ≠ some b := own_ne hown hb (by decide)
  refine ⟨h.lo, setCell_heap_same hb 3 v', h.ptr, ?_, ?_, ?_, ?_, h.apart⟩
  · refine own_keep h.buf fun g hg' => (hset g (fun e => own_ne h.buf h.heap (by decide) (e ▸ hg'))).trans (hk g (rows_ne h.buf h.lin (by decide) g hg') (h.buf.lt g hg').2)
  · have e : cellsP (s.lines ++ [p]) = cellsP s.lines ++ [.string (B p.1), .int .i64 (p.2 : Int)] := cellsP_app _ _
    rw [e, List.length_append]
    exact own_keep hown fun g hg' => hset g (fun e => hvb (e ▸ hg'))
  · refine own_keep h.opn fun g hg' => (hset g (fun e => own_ne h.opn h.heap (by decide) (e ▸ hg'))).trans (hk g (rows_ne h.opn h.lin (by decide) g hg') (h.opn.lt g hg').2)
  · refine own_keep h.dn fun g hg' => (hset g (fun e => own_ne h.dn h.heap (by decide) (e ▸ hg'))).trans (hk g (rows_ne h.dn h.lin (by decide) g hg') (h.dn.lt g hg').2)
end
end Go.Proofs.YtmhjfdnpmfhmjaaDoor
