/- Rows of ints that a call has made itself. -/
import Derived.Test.YtjldeckcfdeklaaGreatDoorP1
import Derived.Test.YtjldeckcfdeklaaGreatDoorM2
namespace Go.Proofs.YtjldeckcfdeklaaGreatDoor
open Go.RowKit
set_option linter.unusedVariables false

/-- words as cells -/
def cellsI (L : List Nat) : List Value := L.map fun n : Nat => Value.int .i64 (n : Int)

/-- v is a row of the call's own (from block base on) that holds these words -/
structure OwnI (w : World) (base : Nat) (v : Value) (L : List Nat) : Prop where
  lt : ∀ x ∈ L, x < 9223372036854775808
  own : w.ownsRow base 3 1 v L.length (cellsI L)

theorem infoI : (Tryz.prog.info? 3).map (fun i => (i.zero, i.size, i.bytes)) = some (some (.int .i64 0), 1, 8) := by kernel_rfl
theorem undI : Tryz.prog.underlying 91 = some (.slice 3) := by kernel_rfl

theorem cellsI_length (L : List Nat) : (cellsI L).length = L.length := by simp [cellsI]

theorem OwnI.nil (w : World) (base : Nat) : OwnI w base (.slice none 0 0) [] := ⟨by simp, World.ownsRow_nil w base _ _⟩

/-- where it lies -/
theorem OwnI.at_ {w : World} {base : Nat} {v : Value} {L : List Nat} (h : OwnI w base v L) :
    (v = .slice none 0 0 ∧ L = []) ∨ ∃ g cap cur, v = .slice (some ⟨g, 0, none⟩) L.length cap ∧ base ≤ g ∧ w.heap[g]? = some (.cells cur 3 (0, 0)) ∧ L.length ≤ cap ∧ cap ≤ 9223372036854775807 ∧ cur.size = cap ∧ cur.toList.take L.length = cellsI L := by
  obtain ⟨h1, h2⟩ := h
  obtain ⟨h3, h4⟩ := h2
  rcases h4 with ⟨rfl, hn⟩ | ⟨g, cap, cur, rfl, hb, hg, hl, hm, hs, ht⟩
  · exact .inl ⟨rfl, List.eq_nil_of_length_eq_zero hn⟩
  · exact .inr ⟨g, cap, cur, rfl, hb, hg, hl, by simpa [maxLen] using hm, by simpa using hs, by simpa using ht⟩

theorem cur_getI {cur : Array Value} {L : List Nat} (ht : cur.toList.take L.length = cellsI L) (i : Nat) (h : i < L.length) : cur[i]? = some (.int .i64 (L[i] : Nat)) := by
  have e : (cur.toList.take L.length)[i]? = (cellsI L)[i]? := by rw [ht]
  rw [List.getElem?_take_of_lt h] at e
  simpa [cellsI, h] using e

/-- a row that is not nil, as a block -/
structure RowI (w : World) (g cap : Nat) (L : List Nat) : Prop where
  lt : ∀ x ∈ L, x < 9223372036854775808
  le : L.length ≤ cap
  max : cap ≤ 9223372036854775807
  row : ∃ cur, w.heap[g]? = some (.cells cur 3 (0, 0)) ∧ cur.size = cap ∧ cur.toList.take L.length = cellsI L

theorem RowI.ltg {w : World} {g cap : Nat} {L : List Nat} (h : RowI w g cap L) : g < w.heap.size := by
  obtain ⟨cur, hg, hs, ht⟩ := h.row
  exact lt_of_heap hg
theorem RowI.cell {w : World} {g cap : Nat} {L : List Nat} (h : RowI w g cap L) (i : Nat) (hi : i < L.length) : w.cell? ⟨g, i, none⟩ = some (.int .i64 (L[i] : Nat)) := by
  obtain ⟨cur, hg, hs, ht⟩ := h.row
  simp [World.cell?, hg, cur_getI ht i hi]
theorem RowI.frozen {w : World} {g cap : Nat} {L : List Nat} (h : RowI w g cap L) (i : Nat) : w.frozen? ⟨g, i, none⟩ = false := by
  obtain ⟨cur, hg, hs, ht⟩ := h.row
  simp [World.frozen?, hg]
theorem RowI.keep {w w' : World} {g cap : Nat} {L : List Nat} (h : RowI w g cap L) (hk : w'.heap[g]? = w.heap[g]?) : RowI w' g cap L := by
  obtain ⟨cur, hg, hs, ht⟩ := h.row
  exact ⟨h.lt, h.le, h.max, cur, hk.trans hg, hs, ht⟩
theorem RowI.below {w w' : World} {g cap B : Nat} {L : List Nat} (h : RowI w g cap L) (hb : Below B w w') (hB : g < B) : RowI w' g cap L := h.keep (hb.block g hB)
theorem RowI.own {w : World} {g cap base : Nat} {L : List Nat} (h : RowI w g cap L) (hb : base ≤ g) : OwnI w base (.slice (some ⟨g, 0, none⟩) L.length cap) L := by
  obtain ⟨cur, hg, hs, ht⟩ := h.row
  exact ⟨h.lt, by simp [cellsI_length], .inr ⟨g, cap, cur, rfl, hb, hg, h.le, by simpa [maxLen] using h.max, by simpa using hs, by simpa using ht⟩⟩
theorem RowI.take {w : World} {g cap : Nat} {L : List Nat} (h : RowI w g cap L) (k : Nat) : RowI w g cap (L.take k) := by
  obtain ⟨cur, hg, hs, ht⟩ := h.row
  refine ⟨fun x hx => h.lt x (List.mem_of_mem_take hx), by have := h.le; simp; omega, h.max, cur, hg, hs, ?_⟩
  rw [cellsI, List.map_take, ← cellsI, ← ht, List.take_take, List.length_take]
theorem RowI.set {w : World} {g cap : Nat} {L : List Nat} (h : RowI w g cap L) (i y : Nat) (hi : i < L.length) (hy : y < 9223372036854775808) : RowI (w.setCell ⟨g, i, none⟩ (.int .i64 (y : Nat))) g cap (L.set i y) := by
  obtain ⟨cur, hg, hs, ht⟩ := h.row
  refine ⟨fun x hx => ?_, by simpa using h.le, h.max, _, setCell_heap_same hg i _, by simpa using hs, ?_⟩
  · rcases List.mem_or_eq_of_mem_set hx with hx | rfl
    · exact h.lt x hx
    · exact hy
  · rw [Array.toList_setIfInBounds, List.length_set, List.take_set, ht]
    simp [cellsI, List.map_set]

section
variable (w : World) {ops : Array Oper} {rest : List Oper} {o : Oper} {a : Act} {Q : Exit → Act → World → Prop}

/-- append of one word -/
theorem wpList_appI (hg : o.guard = none) (s x : Operand) (ho : o.op = .call { callee := .builtin .append, args := #[s, x], argTypes := #[91, 91] })
    (base : Nat) (v : Value) (L : List Nat) (hs : a.eval s = v) (hown : OwnI w base v L) (p y : Nat) (hx : a.eval x = .slice (some ⟨p, 0, none⟩) 1 1) (hc : w.cell? ⟨p, 0, none⟩ = some (.int .i64 (y : Nat))) (hy : y < 9223372036854775808)
    (hbase : base ≤ w.heap.size) (hlen : L.length ≤ 1000000000)
    (hK : ∀ v' w', OwnI w' base v' (L ++ [y]) → w.grownBy w' v.ownBlock → wpList Tryz.prog ops Q rest (a.put o.dst v') w') : wpList Tryz.prog ops Q (o :: rest) a w := by
  obtain ⟨i0, hi, hz0, hz1, hz2⟩ := info_parts infoI
  refine wpList_append_own w hg s x 91 ho base 3 i0 (.int .i64 0) 1 8 undI hi hz0 hz1 hz2 rfl (by decide) v L.length (cellsI L) hs hown.own ⟨p, 0, none⟩ 1 1 [.int .i64 (y : Nat)] hx rfl ?_ ?_ ?_ ?_ hbase ?_
  · intro j u hj
    cases j with
    | zero => simp at hj; subst hj; simpa [Addr.add] using hc
    | succ j => simp at hj
  · simp [Value.oneCell']
  · simp [maxLen]; omega
  · omega
  · intro v' w' ho hgr _
    refine hK v' w' ⟨?_, ?_⟩ hgr
    · intro z hz
      rcases List.mem_append.1 hz with hz | hz
      · exact hown.lt z hz
      · simp at hz; subst hz; exact hy
    · have e : cellsI (L ++ [y]) = cellsI L ++ [.int .i64 (y : Nat)] := by simp [cellsI]
      rw [e]; simpa using ho

end

theorem OwnI.alloc {w : World} {base : Nat} {v : Value} {L : List Nat} (h : OwnI w base v L) (o : Obj) : OwnI (w.alloc o) base v L := ⟨h.lt, h.own.alloc o⟩
theorem OwnI.row {w : World} {base n cap : Nat} {a : Option Addr} {L : List Nat} (h : OwnI w base (.slice a n cap) L) (hne : 0 < L.length) : ∃ g, a = some ⟨g, 0, none⟩ ∧ n = L.length ∧ base ≤ g ∧ RowI w g cap L := by
  rcases h.at_ with ⟨_, rfl⟩ | ⟨g, cap', cur, e, hb, hg, hl, hm, hs, ht⟩
  · simp at hne
  · cases e
    exact ⟨g, rfl, rfl, hb, h.lt, hl, hm, cur, hg, hs, ht⟩
theorem OwnI.slice {w : World} {base : Nat} {v : Value} {L : List Nat} (h : OwnI w base v L) : (v = .slice none 0 0 ∧ L = []) ∨ ∃ g cap, v = .slice (some ⟨g, 0, none⟩) L.length cap ∧ base ≤ g ∧ RowI w g cap L := by
  rcases h.at_ with ⟨rfl, rfl⟩ | ⟨g, cap, cur, rfl, hb, hg, hl, hm, hs, ht⟩
  · exact .inl ⟨rfl, rfl⟩
  · exact .inr ⟨g, cap, rfl, hb, h.lt, hl, hm, cur, hg, hs, ht⟩
end Go.Proofs.YtjldeckcfdeklaaGreatDoor
