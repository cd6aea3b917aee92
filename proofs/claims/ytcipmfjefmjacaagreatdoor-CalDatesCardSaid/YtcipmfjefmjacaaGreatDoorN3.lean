/- Rows of words that a call has made itself: made, appended to, written. -/
import Derived.Test.YtcipmfjefmjacaaGreatDoorN1
import Derived.Laws.MakeOwn
import Derived.Test.YtcipmfjefmjacaaGreatDoorShelf
namespace Go.Proofs.YtcipmfjefmjacaaGreatDoor
open Go.RowKit
set_option linter.unusedVariables false

/-- words as cells -/
def cellsU (L : List Nat) : List Value := L.map fun n : Nat => Value.int .u32 (n : Int)

/-- v is a row of the call's own (from block base on) that holds these words -/
structure OwnU (w : World) (base : Nat) (v : Value) (L : List Nat) : Prop where
  lt : ∀ x ∈ L, x < B32
  own : w.ownsRow base 105 1 v L.length (cellsU L)

theorem infoU : (Tryz.prog.info? 105).map (fun i => (i.zero, i.size, i.bytes)) = some (some (.int .u32 0), 1, 4) := by kernel_rfl
theorem undU : Tryz.prog.underlying 133 = some (.slice 105) := by kernel_rfl

theorem cellsU_length (L : List Nat) : (cellsU L).length = L.length := by simp [cellsU]

theorem OwnU.nil (w : World) (base : Nat) : OwnU w base (.slice none 0 0) [] := ⟨by simp, World.ownsRow_nil w base _ _⟩

/-- where it lies -/
theorem OwnU.at_ {w : World} {base : Nat} {v : Value} {L : List Nat} (h : OwnU w base v L) :
    (v = .slice none 0 0 ∧ L = []) ∨ ∃ g cap cur, v = .slice (some ⟨g, 0, none⟩) L.length cap ∧ base ≤ g ∧ w.heap[g]? = some (.cells cur 105 (0, 0)) ∧ L.length ≤ cap ∧ cap ≤ 9223372036854775807 ∧ cur.size = cap ∧ cur.toList.take L.length = cellsU L := by
  obtain ⟨h1, h2⟩ := h
  obtain ⟨h3, h4⟩ := h2
  rcases h4 with ⟨rfl, hn⟩ | ⟨g, cap, cur, rfl, hb, hg, hl, hm, hs, ht⟩
  · exact .inl ⟨rfl, List.eq_nil_of_length_eq_zero hn⟩
  · exact .inr ⟨g, cap, cur, rfl, hb, hg, hl, by simpa [maxLen] using hm, by simpa using hs, by simpa using ht⟩

theorem cur_get {cur : Array Value} {L : List Nat} (ht : cur.toList.take L.length = cellsU L) (i : Nat) (h : i < L.length) : cur[i]? = some (.int .u32 (L[i] : Nat)) := by
  have e : (cur.toList.take L.length)[i]? = (cellsU L)[i]? := by rw [ht]
  rw [List.getElem?_take_of_lt h] at e
  simpa [cellsU, h] using e

theorem lies_of_row {w : World} {g cap : Nat} {cur : Array Value} {L : List Nat} (hlt : ∀ x ∈ L, x < B32) (hg : w.heap[g]? = some (.cells cur 105 (0, 0))) (hl : L.length ≤ cap) (hm : cap ≤ 9223372036854775807)
    (ht : cur.toList.take L.length = cellsU L) : Lies w (some ⟨g, 0, none⟩) cap L :=
  ⟨hlt, hl, hm, by simp, fun i hi => ⟨g, 0, rfl, by simp [World.cell?, hg, cur_get ht i hi]⟩⟩

theorem OwnU.lies {w : World} {base : Nat} {v : Value} {L : List Nat} (h : OwnU w base v L) : ∃ a cap, v = .slice a L.length cap ∧ Lies w a cap L := by
  rcases h.at_ with ⟨rfl, rfl⟩ | ⟨g, cap, cur, rfl, hb, hg, hl, hm, hs, ht⟩
  · exact ⟨none, 0, rfl, Lies.nil _ _ _ (by omega) (by simp)⟩
  · exact ⟨_, cap, rfl, lies_of_row h.lt hg hl hm ht⟩

/-- a row that is not nil, as a block -/
structure RowU (w : World) (g cap : Nat) (L : List Nat) : Prop where
  lt : ∀ x ∈ L, x < B32
  le : L.length ≤ cap
  max : cap ≤ 9223372036854775807
  row : ∃ cur, w.heap[g]? = some (.cells cur 105 (0, 0)) ∧ cur.size = cap ∧ cur.toList.take L.length = cellsU L

theorem RowU.lies {w : World} {g cap : Nat} {L : List Nat} (h : RowU w g cap L) : Lies w (some ⟨g, 0, none⟩) cap L := by
  obtain ⟨cur, hg, hs, ht⟩ := h.row
  exact lies_of_row h.lt hg h.le h.max ht
theorem RowU.ltg {w : World} {g cap : Nat} {L : List Nat} (h : RowU w g cap L) : g < w.heap.size := by
  obtain ⟨cur, hg, hs, ht⟩ := h.row
  exact lt_of_heap hg
theorem RowU.cell {w : World} {g cap : Nat} {L : List Nat} (h : RowU w g cap L) (i : Nat) (hi : i < L.length) : w.cell? ⟨g, i, none⟩ = some (.int .u32 (L[i] : Nat)) := by
  obtain ⟨b, off, e, hc⟩ := h.lies.at_ i hi
  cases e
  simpa using hc
theorem RowU.frozen {w : World} {g cap : Nat} {L : List Nat} (h : RowU w g cap L) (i : Nat) : w.frozen? ⟨g, i, none⟩ = false := by
  obtain ⟨cur, hg, hs, ht⟩ := h.row
  simp [World.frozen?, hg]
theorem RowU.keep {w w' : World} {g cap : Nat} {L : List Nat} (h : RowU w g cap L) (hk : w'.heap[g]? = w.heap[g]?) : RowU w' g cap L := by
  obtain ⟨cur, hg, hs, ht⟩ := h.row
  exact ⟨h.lt, h.le, h.max, cur, hk.trans hg, hs, ht⟩
theorem RowU.below {w w' : World} {g cap B : Nat} {L : List Nat} (h : RowU w g cap L) (hb : Below B w w') (hB : g < B) : RowU w' g cap L := h.keep (hb.block g hB)
theorem RowU.own {w : World} {g cap base : Nat} {L : List Nat} (h : RowU w g cap L) (hb : base ≤ g) : OwnU w base (.slice (some ⟨g, 0, none⟩) L.length cap) L := by
  obtain ⟨cur, hg, hs, ht⟩ := h.row
  exact ⟨h.lt, by simp [cellsU_length], .inr ⟨g, cap, cur, rfl, hb, hg, h.le, by simpa [maxLen] using h.max, by simpa using hs, by simpa using ht⟩⟩
theorem RowU.take {w : World} {g cap : Nat} {L : List Nat} (h : RowU w g cap L) (k : Nat) : RowU w g cap (L.take k) := by
  obtain ⟨cur, hg, hs, ht⟩ := h.row
  refine ⟨fun x hx => h.lt x (List.mem_of_mem_take hx), by have := h.le; simp; omega, h.max, cur, hg, hs, ?_⟩
  rw [cellsU, List.map_take, ← cellsU, ← ht, List.take_take, List.length_take]
theorem RowU.set {w : World} {g cap : Nat} {L : List Nat} (h : RowU w g cap L) (i y : Nat) (hi : i < L.length) (hy : y < B32) : RowU (w.setCell ⟨g, i, none⟩ (.int .u32 (y : Nat))) g cap (L.set i y) := by
  obtain ⟨cur, hg, hs, ht⟩ := h.row
  refine ⟨fun x hx => ?_, by simpa using h.le, h.max, _, setCell_heap_same hg i _, by simpa using hs, ?_⟩
  · rcases List.mem_or_eq_of_mem_set hx with hx | rfl
    · exact h.lt x hx
    · exact hy
  · rw [Array.toList_setIfInBounds, List.length_set, List.take_set, ht]
    simp [cellsU, List.map_set]

section
variable (w : World) {ops : Array Oper} {rest : List Oper} {o : Oper} {a : Act} {Q : Exit → Act → World → Prop}

/-- append of one word -/
theorem wpList_app1 (hg : o.guard = none) (s x : Operand) (ho : o.op = .call { callee := .builtin .append, args := #[s, x], argTypes := #[133, 133] })
    (base : Nat) (v : Value) (L : List Nat) (hs : a.eval s = v) (hown : OwnU w base v L) (p y : Nat) (hx : a.eval x = .slice (some ⟨p, 0, none⟩) 1 1) (hc : w.cell? ⟨p, 0, none⟩ = some (.int .u32 (y : Nat))) (hy : y < B32)
    (hbase : base ≤ w.heap.size) (hlen : L.length ≤ 1000000000)
    (hK : ∀ v' w', OwnU w' base v' (L ++ [y]) → w.grownBy w' v.ownBlock → wpList Tryz.prog ops Q rest (a.put o.dst v') w') : wpList Tryz.prog ops Q (o :: rest) a w := by
  obtain ⟨i0, hi, hz0, hz1, hz2⟩ := info_parts infoU
  refine wpList_append_own w hg s x 133 ho base 105 i0 (.int .u32 0) 1 4 undU hi hz0 hz1 hz2 rfl (by decide) v L.length (cellsU L) hs hown.own ⟨p, 0, none⟩ 1 1 [.int .u32 (y : Nat)] hx rfl ?_ ?_ ?_ ?_ hbase ?_
  · intro j u hj
    cases j with
    | zero => simp at hj; subst hj; simpa [Addr.add] using hc
    | succ j => simp at hj
  · simp [Value.oneCell']
  · simp [maxLen]; omega
  · omega
  · intro v' w' ho hgr _
    refine hK v' w' ⟨?_, ?_⟩ hgr
    · intro z hz
      rcases List.mem_append.1 hz with hz | hz
      · exact hown.lt z hz
      · simp at hz; subst hz; exact hy
    · have e : cellsU (L ++ [y]) = cellsU L ++ [.int .u32 (y : Nat)] := by simp [cellsU]
      rw [e]; simpa using ho

/-- make with room, without elements -/
theorem wpList_make0 (hg : o.guard = none) (l c : Operand) (ho : o.op = .makeSlice 133 l c) (base cap : Nat) (ci : Int) (hl : a.eval l = .int .i64 0) (hc : a.eval c = .int .i64 ci) (hci : ci = (cap : Int)) (hcap : cap ≤ 1000000000) (hbase : base ≤ w.heap.size)
    (hK : ∀ v' w', OwnU w' base v' [] → w.grownBy w' none → wpList Tryz.prog ops Q rest (a.put o.dst v') w') : wpList Tryz.prog ops Q (o :: rest) a w := by
  subst hci
  obtain ⟨i0, hi, hz0, hz1, hz2⟩ := info_parts infoU
  obtain ⟨w', hr, hw, hgr⟩ := run_make_own (P := Tryz.prog) w base 133 105 i0 (.int .u32 0) 1 undU hi hz0 hz1 .i64 .i64 cap (by rw [hz2]; omega) (by simp [maxLen]; omega) hbase
  refine wpList_plain hg fun K' hK' => ?_
  unfold Oper.wp
  simp [execOp, ho, hl, hc, hr, Result.andThen]
  exact hK' _ _ (hK _ w' ⟨by simp, hw⟩ hgr)

theorem madeCells_toList (n : Nat) : (madeCells (Value.int .u32 0).cells n).toList = cellsU (List.replicate n 0) := by
  apply List.ext_getElem
  · simp [size_madeCells, cellsU]
  · intro i h1 h2
    simp [madeCells, cellsU, Value.cells, Nat.mod_one]

/-- make of so many noughts -/
theorem wpList_make1 (hg : o.guard = none) (l c : Operand) (ho : o.op = .makeSlice 133 l c) (len cap : Nat) (li ci : Int) (hl : a.eval l = .int .i64 li) (hc : a.eval c = .int .i64 ci) (hli : li = (len : Int)) (hci : ci = (cap : Int)) (hlc : len ≤ cap) (hcap : cap ≤ 1000000000)
    (hK : ∀ w', RowU w' w.heap.size cap (List.replicate len 0) → Below w.heap.size w w' → wpList Tryz.prog ops Q rest (a.put o.dst (.slice (some ⟨w.heap.size, 0, none⟩) len cap)) w') : wpList Tryz.prog ops Q (o :: rest) a w := by
  subst hci hli
  obtain ⟨i0, hi, hz0, hz1, hz2⟩ := info_parts infoU
  have hr := run_make (P := Tryz.prog) w 133 105 i0 (.int .u32 0) undU hi hz0 .i64 .i64 (len : Nat) (cap : Nat) (by omega) (by omega) (by rw [hz2]; omega) (by omega)
  refine wpList_plain hg fun K' hK' => ?_
  unfold Oper.wp
  simp [execOp, ho, hl, hc, hr, Result.andThen]
  refine hK' _ _ (hK _ ⟨?_, by simpa using hlc, by omega, _, heap_alloc_at w _, ?_, ?_⟩ ((Below.refl _ _).alloc (Nat.le_refl _) _))
  · intro x hx; rw [List.eq_of_mem_replicate hx]; decide
  · rw [size_madeCells, hz1]; omega
  · rw [hz1, Nat.mul_one, madeCells_toList]
    simp only [cellsU, ← List.map_take, List.length_replicate, List.take_replicate]
    rw [Nat.min_eq_left hlc]
end

/-- slices.Clone of words -/
theorem Clone_any (s : Option Addr) (cap : Nat) (L : List Nat) (w : World) (h : Lies w s cap L) (hlen : L.length ≤ 1000000000) :
    Calls Tryz.prog 124 #[.slice s L.length cap] w fun e w' => ∃ v, e = .returned v ∧ OwnU w' w.heap.size v L ∧ Below w.heap.size w w' := by
  obtain ⟨i0, hi, hz0, hz1, hz2⟩ := info_parts infoU
  rcases s with _ | ⟨b, off, spot⟩
  · have hL : L = [] := by
      rcases L with _ | ⟨x, l⟩
      · rfl
      · obtain ⟨b, off, e, _⟩ := h.at_ 0 (by simp); cases e
    subst hL
    refine (Tryz.slices_Clone_nil 0 cap w).mono ?_
    rintro e w' ⟨rfl, rfl⟩
    exact ⟨_, rfl, OwnU.nil _ _, Below.refl _ _⟩
  · have hcell : ∀ j u, (cellsU L)[j]? = some u → w.cell? ⟨b, off + j, none⟩ = some u := by
      intro j u hj
      have hjl : j < L.length := by
        have := (List.getElem?_eq_some_iff.1 hj).1; simpa [cellsU] using this
      obtain ⟨b', off', e, hc⟩ := h.at_ j hjl
      cases e
      rw [hc, ← hj]; simp [cellsU, hjl]
    obtain rfl : spot = none := h.spot _ rfl
    refine (Tryz.slices_Clone i0 (.int .u32 0) 1 4 hi hz0 hz1 hz2 rfl (by decide) (fun w => by kernel_rfl) b off L.length cap (cellsU L) w (by simp [cellsU]) (by simp [maxLen]; omega) (by omega) hcell (by intro u hu; simp [cellsU] at hu; obtain ⟨n, _, rfl⟩ := hu; rfl)).mono ?_
    rintro e w' ⟨v, rfl, hown, _, hb⟩
    exact ⟨v, rfl, ⟨h.lt, hown⟩, hb⟩
end Go.Proofs.YtcipmfjefmjacaaGreatDoor
