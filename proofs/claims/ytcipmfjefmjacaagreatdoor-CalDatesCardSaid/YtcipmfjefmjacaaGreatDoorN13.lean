/- Rows of bytes that a call has made itself; Reverse; string(b). -/
import Derived.Test.YtcipmfjefmjacaaGreatDoorN12
namespace Go.Proofs.YtcipmfjefmjacaaGreatDoor
open Go.RowKit
set_option linter.unusedVariables false

/-- words as cells -/
def cellsB (L : List Nat) : List Value := L.map fun n : Nat => Value.int .u8 (n : Int)

/-- v is a row of the call's own (from block base on) that holds these words -/
structure OwnB (w : World) (base : Nat) (v : Value) (L : List Nat) : Prop where
  lt : ∀ x ∈ L, x < 256
  own : w.ownsRow base 5 1 v L.length (cellsB L)

theorem infoB : (Tryz.prog.info? 5).map (fun i => (i.zero, i.size, i.bytes)) = some (some (.int .u8 0), 1, 1) := by kernel_rfl
theorem undB : Tryz.prog.underlying 61 = some (.slice 5) := by kernel_rfl

theorem cellsB_length (L : List Nat) : (cellsB L).length = L.length := by simp [cellsB]

theorem OwnB.nil (w : World) (base : Nat) : OwnB w base (.slice none 0 0) [] := ⟨by simp, World.ownsRow_nil w base _ _⟩

/-- where it lies -/
theorem OwnB.at_ {w : World} {base : Nat} {v : Value} {L : List Nat} (h : OwnB w base v L) :
    (v = .slice none 0 0 ∧ L = []) ∨ ∃ g cap cur, v = .slice (some ⟨g, 0, none⟩) L.length cap ∧ base ≤ g ∧ w.heap[g]? = some (.cells cur 5 (0, 0)) ∧ L.length ≤ cap ∧ cap ≤ 9223372036854775807 ∧ cur.size = cap ∧ cur.toList.take L.length = cellsB L := by
  obtain ⟨h1, h2⟩ := h
  obtain ⟨h3, h4⟩ := h2
  rcases h4 with ⟨rfl, hn⟩ | ⟨g, cap, cur, rfl, hb, hg, hl, hm, hs, ht⟩
  · exact .inl ⟨rfl, List.eq_nil_of_length_eq_zero hn⟩
  · exact .inr ⟨g, cap, cur, rfl, hb, hg, hl, by simpa [maxLen] using hm, by simpa using hs, by simpa using ht⟩

theorem cur_getB {cur : Array Value} {L : List Nat} (ht : cur.toList.take L.length = cellsB L) (i : Nat) (h : i < L.length) : cur[i]? = some (.int .u8 (L[i] : Nat)) := by
  have e : (cur.toList.take L.length)[i]? = (cellsB L)[i]? := by rw [ht]
  rw [List.getElem?_take_of_lt h] at e
  simpa [cellsB, h] using e

/-- a row that is not nil, as a block -/
structure RowB (w : World) (g cap : Nat) (L : List Nat) : Prop where
  lt : ∀ x ∈ L, x < 256
  le : L.length ≤ cap
  max : cap ≤ 9223372036854775807
  row : ∃ cur, w.heap[g]? = some (.cells cur 5 (0, 0)) ∧ cur.size = cap ∧ cur.toList.take L.length = cellsB L

theorem RowB.ltg {w : World} {g cap : Nat} {L : List Nat} (h : RowB w g cap L) : g < w.heap.size := by
  obtain ⟨cur, hg, hs, ht⟩ := h.row
  exact lt_of_heap hg
theorem RowB.cell {w : World} {g cap : Nat} {L : List Nat} (h : RowB w g cap L) (i : Nat) (hi : i < L.length) : w.cell? ⟨g, i, none⟩ = some (.int .u8 (L[i] : Nat)) := by
  obtain ⟨cur, hg, hs, ht⟩ := h.row
  simp [World.cell?, hg, cur_getB ht i hi]
theorem RowB.frozen {w : World} {g cap : Nat} {L : List Nat} (h : RowB w g cap L) (i : Nat) : w.frozen? ⟨g, i, none⟩ = false := by
  obtain ⟨cur, hg, hs, ht⟩ := h.row
  simp [World.frozen?, hg]
theorem RowB.keep {w w' : World} {g cap : Nat} {L : List Nat} (h : RowB w g cap L) (hk : w'.heap[g]? = w.heap[g]?) : RowB w' g cap L := by
  obtain ⟨cur, hg, hs, ht⟩ := h.row
  exact ⟨h.lt, h.le, h.max, cur, hk.trans hg, hs, ht⟩
theorem RowB.below {w w' : World} {g cap B : Nat} {L : List Nat} (h : RowB w g cap L) (hb : Below B w w') (hB : g < B) : RowB w' g cap L := h.keep (hb.block g hB)
theorem RowB.own {w : World} {g cap base : Nat} {L : List Nat} (h : RowB w g cap L) (hb : base ≤ g) : OwnB w base (.slice (some ⟨g, 0, none⟩) L.length cap) L := by
  obtain ⟨cur, hg, hs, ht⟩ := h.row
  exact ⟨h.lt, by simp [cellsB_length], .inr ⟨g, cap, cur, rfl, hb, hg, h.le, by simpa [maxLen] using h.max, by simpa using hs, by simpa using ht⟩⟩
theorem RowB.take {w : World} {g cap : Nat} {L : List Nat} (h : RowB w g cap L) (k : Nat) : RowB w g cap (L.take k) := by
  obtain ⟨cur, hg, hs, ht⟩ := h.row
  refine ⟨fun x hx => h.lt x (List.mem_of_mem_take hx), by have := h.le; simp; omega, h.max, cur, hg, hs, ?_⟩
  rw [cellsB, List.map_take, ← cellsB, ← ht, List.take_take, List.length_take]
theorem RowB.set {w : World} {g cap : Nat} {L : List Nat} (h : RowB w g cap L) (i y : Nat) (hi : i < L.length) (hy : y < 256) : RowB (w.setCell ⟨g, i, none⟩ (.int .u8 (y : Nat))) g cap (L.set i y) := by
  obtain ⟨cur, hg, hs, ht⟩ := h.row
  refine ⟨fun x hx => ?_, by simpa using h.le, h.max, _, setCell_heap_same hg i _, by simpa using hs, ?_⟩
  · rcases List.mem_or_eq_of_mem_set hx with hx | rfl
    · exact h.lt x hx
    · exact hy
  · rw [Array.toList_setIfInBounds, List.length_set, List.take_set, ht]
    simp [cellsB, List.map_set]

section
variable (w : World) {ops : Array Oper} {rest : List Oper} {o : Oper} {a : Act} {Q : Exit → Act → World → Prop}

/-- append of one word -/
theorem wpList_appB (hg : o.guard = none) (s x : Operand) (ho : o.op = .call { callee := .builtin .append, args := #[s, x], argTypes := #[61, 61] })
    (base : Nat) (v : Value) (L : List Nat) (hs : a.eval s = v) (hown : OwnB w base v L) (p y : Nat) (hx : a.eval x = .slice (some ⟨p, 0, none⟩) 1 1) (hc : w.cell? ⟨p, 0, none⟩ = some (.int .u8 (y : Nat))) (hy : y < 256)
    (hbase : base ≤ w.heap.size) (hlen : L.length ≤ 1000000000)
    (hK : ∀ v' w', OwnB w' base v' (L ++ [y]) → w.grownBy w' v.ownBlock → wpList Tryz.prog ops Q rest (a.put o.dst v') w') : wpList Tryz.prog ops Q (o :: rest) a w := by
  obtain ⟨i0, hi, hz0, hz1, hz2⟩ := info_parts infoB
  refine wpList_append_own w hg s x 61 ho base 5 i0 (.int .u8 0) 1 1 undB hi hz0 hz1 hz2 rfl (by decide) v L.length (cellsB L) hs hown.own ⟨p, 0, none⟩ 1 1 [.int .u8 (y : Nat)] hx rfl ?_ ?_ ?_ ?_ hbase ?_
  · intro j u hj
    cases j with
    | zero => simp at hj; subst hj; simpa [Addr.add] using hc
    | succ j => simp at hj
  · simp [Value.oneCell']
  · simp [maxLen]; omega
  · omega
  · intro v' w' ho hgr _
    refine hK v' w' ⟨?_, ?_⟩ hgr
    · intro z hz
      rcases List.mem_append.1 hz with hz | hz
      · exact hown.lt z hz
      · simp at hz; subst hz; exact hy
    · have e : cellsB (L ++ [y]) = cellsB L ++ [.int .u8 (y : Nat)] := by simp [cellsB]
      rw [e]; simpa using ho

end

theorem OwnB.alloc {w : World} {base : Nat} {v : Value} {L : List Nat} (h : OwnB w base v L) (o : Obj) : OwnB (w.alloc o) base v L := ⟨h.lt, h.own.alloc o⟩
theorem OwnB.row {w : World} {base n cap : Nat} {a : Option Addr} {L : List Nat} (h : OwnB w base (.slice a n cap) L) (hne : 0 < L.length) : ∃ g, a = some ⟨g, 0, none⟩ ∧ n = L.length ∧ base ≤ g ∧ RowB w g cap L := by
  rcases h.at_ with ⟨_, rfl⟩ | ⟨g, cap', cur, e, hb, hg, hl, hm, hs, ht⟩
  · simp at hne
  · cases e
    exact ⟨g, rfl, rfl, hb, h.lt, hl, hm, cur, hg, hs, ht⟩
theorem OwnB.slice {w : World} {base : Nat} {v : Value} {L : List Nat} (h : OwnB w base v L) : (v = .slice none 0 0 ∧ L = []) ∨ ∃ g cap, v = .slice (some ⟨g, 0, none⟩) L.length cap ∧ base ≤ g ∧ RowB w g cap L := by
  rcases h.at_ with ⟨rfl, rfl⟩ | ⟨g, cap, cur, rfl, hb, hg, hl, hm, hs, ht⟩
  · exact .inl ⟨rfl, rfl⟩
  · exact .inr ⟨g, cap, rfl, hb, h.lt, hl, hm, cur, hg, hs, ht⟩
/-- a change of one block of words leaves it -/
theorem OwnB.apart {w w' : World} {base g : Nat} {v : Value} {L : List Nat} (h : OwnB w base v L) (hb : ∀ k, k < w.heap.size → k ≠ g → w'.heap[k]? = w.heap[k]?) {cap : Nat} {X : List Nat} (hg : RowU w g cap X) : OwnB w' base v L := by
  rcases h.slice with ⟨rfl, rfl⟩ | ⟨g', cap', rfl, hbg, hr⟩
  · exact ⟨by simp, World.ownsRow_nil w' base _ _⟩
  · refine (RowB.keep hr (hb g' hr.ltg ?_)).own hbg
    rintro rfl
    obtain ⟨c1, e1, _⟩ := hr.row
    obtain ⟨c2, e2, _⟩ := hg.row
    rw [e1] at e2
    simp at e2
end Go.Proofs.YtcipmfjefmjacaaGreatDoor
