/- The document's numbers (thresherref02) in memory: rows of pieces; trim. -/
import Derived.Test.YtcmpdamfeoaapaaGreatDoorM1
import Derived.Laws.MakeOwn
import Derived.Test.YtcmpdamfeoaapaaGreatDoorQ0
namespace Go.Proofs.YtcmpdamfeoaapaaGreatDoor
open Go.RowKit
set_option linter.unusedVariables false

/-- the slice a, cap holds these words -/
structure Li4 (w : World) (a : Option Addr) (cap : Nat) (L : List Nat) : Prop where
  lt : ∀ x ∈ L, x < 10000
  le : L.length ≤ cap
  max : cap ≤ 9223372036854775807
  spot : ∀ x, a = some x → x.spot = none
  at_ : ∀ i (h : i < L.length), ∃ b off, a = some ⟨b, off, none⟩ ∧ w.cell? ⟨b, off + i, none⟩ = some (.int .i64 (L[i] : Nat))

theorem Li4.below {w w' : World} {a : Option Addr} {cap : Nat} {L : List Nat} (h : Li4 w a cap L) (hb : Below w.heap.size w w') : Li4 w' a cap L :=
  ⟨h.lt, h.le, h.max, h.spot, fun i hi => by
    obtain ⟨b, off, rfl, hc⟩ := h.at_ i hi
    exact ⟨b, off, rfl, (hb.cell (World.block_lt_of_cell? w _ hc)).trans hc⟩⟩
theorem Li4.take {w : World} {a : Option Addr} {cap : Nat} {L : List Nat} (h : Li4 w a cap L) (k : Nat) : Li4 w a cap (L.take k) :=
  ⟨fun x hx => h.lt x (List.mem_of_mem_take hx), by have := h.le; simp; omega, h.max, h.spot, fun i hi => by
    simp at hi
    obtain ⟨b, off, rfl, hc⟩ := h.at_ i (by omega)
    exact ⟨b, off, rfl, by rw [hc]; simp⟩⟩
theorem Li4.nil (w : World) (a : Option Addr) (cap : Nat) (h : cap ≤ 9223372036854775807) (hs : ∀ x, a = some x → x.spot = none) : Li4 w a cap [] :=
  ⟨by simp, by simp, h, hs, by simp⟩
theorem Li4.clip {w : World} {a : Option Addr} {cap : Nat} {L : List Nat} (h : Li4 w a cap L) : Li4 w a L.length L :=
  ⟨h.lt, Nat.le_refl _, Nat.le_trans h.le h.max, h.spot, h.at_⟩

/-- words as cells -/
def cells4 (L : List Nat) : List Value := L.map fun n : Nat => Value.int .i64 (n : Int)

/-- v is a row of the call's own (from block base on) that holds these words -/
structure Own4 (w : World) (base : Nat) (v : Value) (L : List Nat) : Prop where
  lt : ∀ x ∈ L, x < B4
  own : w.ownsRow base 3 1 v L.length (cells4 L)

theorem info4 : (Tryz.prog.info? 3).map (fun i => (i.zero, i.size, i.bytes)) = some (some (.int .i64 0), 1, 8) := by kernel_rfl
theorem und4 : Tryz.prog.underlying 97 = some (.slice 3) := by kernel_rfl

theorem cells4_length (L : List Nat) : (cells4 L).length = L.length := by simp [cells4]

theorem Own4.nil (w : World) (base : Nat) : Own4 w base (.slice none 0 0) [] := ⟨by simp, World.ownsRow_nil w base _ _⟩

/-- where it lies -/
theorem Own4.at_ {w : World} {base : Nat} {v : Value} {L : List Nat} (h : Own4 w base v L) :
    (v = .slice none 0 0 ∧ L = []) ∨ ∃ g cap cur, v = .slice (some ⟨g, 0, none⟩) L.length cap ∧ base ≤ g ∧ w.heap[g]? = some (.cells cur 3 (0, 0)) ∧ L.length ≤ cap ∧ cap ≤ 9223372036854775807 ∧ cur.size = cap ∧ cur.toList.take L.length = cells4 L := by
  obtain ⟨h1, h2⟩ := h
  obtain ⟨h3, h4⟩ := h2
  rcases h4 with ⟨rfl, hn⟩ | ⟨g, cap, cur, rfl, hb, hg, hl, hm, hs, ht⟩
  · exact .inl ⟨rfl, List.eq_nil_of_length_eq_zero hn⟩
  · exact .inr ⟨g, cap, cur, rfl, hb, hg, hl, by simpa [maxLen] using hm, by simpa using hs, by simpa using ht⟩

theorem cur_get4 {cur : Array Value} {L : List Nat} (ht : cur.toList.take L.length = cells4 L) (i : Nat) (h : i < L.length) : cur[i]? = some (.int .i64 (L[i] : Nat)) := by
  have e : (cur.toList.take L.length)[i]? = (cells4 L)[i]? := by rw [ht]
  rw [List.getElem?_take_of_lt h] at e
  simpa [cells4, h] using e

theorem li4_of_row {w : World} {g cap : Nat} {cur : Array Value} {L : List Nat} (hlt : ∀ x ∈ L, x < B4) (hg : w.heap[g]? = some (.cells cur 3 (0, 0))) (hl : L.length ≤ cap) (hm : cap ≤ 9223372036854775807)
    (ht : cur.toList.take L.length = cells4 L) : Li4 w (some ⟨g, 0, none⟩) cap L :=
  ⟨hlt, hl, hm, by simp, fun i hi => ⟨g, 0, rfl, by simp [World.cell?, hg, cur_get4 ht i hi]⟩⟩

theorem Own4.li4 {w : World} {base : Nat} {v : Value} {L : List Nat} (h : Own4 w base v L) : ∃ a cap, v = .slice a L.length cap ∧ Li4 w a cap L := by
  rcases h.at_ with ⟨rfl, rfl⟩ | ⟨g, cap, cur, rfl, hb, hg, hl, hm, hs, ht⟩
  · exact ⟨none, 0, rfl, Li4.nil _ _ _ (by omega) (by simp)⟩
  · exact ⟨_, cap, rfl, li4_of_row h.lt hg hl hm ht⟩

/-- a row that is not nil, as a block -/
structure Row4 (w : World) (g cap : Nat) (L : List Nat) : Prop where
  lt : ∀ x ∈ L, x < B4
  le : L.length ≤ cap
  max : cap ≤ 9223372036854775807
  row : ∃ cur, w.heap[g]? = some (.cells cur 3 (0, 0)) ∧ cur.size = cap ∧ cur.toList.take L.length = cells4 L

theorem Row4.li4 {w : World} {g cap : Nat} {L : List Nat} (h : Row4 w g cap L) : Li4 w (some ⟨g, 0, none⟩) cap L := by
  obtain ⟨cur, hg, hs, ht⟩ := h.row
  exact li4_of_row h.lt hg h.le h.max ht
theorem Row4.ltg {w : World} {g cap : Nat} {L : List Nat} (h : Row4 w g cap L) : g < w.heap.size := by
  obtain ⟨cur, hg, hs, ht⟩ := h.row
  exact lt_of_heap hg
theorem Row4.cell {w : World} {g cap : Nat} {L : List Nat} (h : Row4 w g cap L) (i : Nat) (hi : i < L.length) : w.cell? ⟨g, i, none⟩ = some (.int .i64 (L[i] : Nat)) := by
  obtain ⟨b, off, e, hc⟩ := h.li4.at_ i hi
  cases e
  simpa using hc
theorem Row4.frozen {w : World} {g cap : Nat} {L : List Nat} (h : Row4 w g cap L) (i : Nat) : w.frozen? ⟨g, i, none⟩ = false := by
  obtain ⟨cur, hg, hs, ht⟩ := h.row
  simp [World.frozen?, hg]
theorem Row4.keep {w w' : World} {g cap : Nat} {L : List Nat} (h : Row4 w g cap L) (hk : w'.heap[g]? = w.heap[g]?) : Row4 w' g cap L := by
  obtain ⟨cur, hg, hs, ht⟩ := h.row
  exact ⟨h.lt, h.le, h.max, cur, hk.trans hg, hs, ht⟩
theorem Row4.below {w w' : World} {g cap B : Nat} {L : List Nat} (h : Row4 w g cap L) (hb : Below B w w') (hB : g < B) : Row4 w' g cap L := h.keep (hb.block g hB)
theorem Row4.own {w : World} {g cap base : Nat} {L : List Nat} (h : Row4 w g cap L) (hb : base ≤ g) : Own4 w base (.slice (some ⟨g, 0, none⟩) L.length cap) L := by
  obtain ⟨cur, hg, hs, ht⟩ := h.row
  exact ⟨h.lt, by simp [cells4_length], .inr ⟨g, cap, cur, rfl, hb, hg, h.le, by simpa [maxLen] using h.max, by simpa using hs, by simpa using ht⟩⟩
theorem Row4.take {w : World} {g cap : Nat} {L : List Nat} (h : Row4 w g cap L) (k : Nat) : Row4 w g cap (L.take k) := by
  obtain ⟨cur, hg, hs, ht⟩ := h.row
  refine ⟨fun x hx => h.lt x (List.mem_of_mem_take hx), by have := h.le; simp; omega, h.max, cur, hg, hs, ?_⟩
  rw [cells4, List.map_take, ← cells4, ← ht, List.take_take, List.length_take]
theorem Row4.set {w : World} {g cap : Nat} {L : List Nat} (h : Row4 w g cap L) (i y : Nat) (hi : i < L.length) (hy : y < B4) : Row4 (w.setCell ⟨g, i, none⟩ (.int .i64 (y : Nat))) g cap (L.set i y) := by
  obtain ⟨cur, hg, hs, ht⟩ := h.row
  refine ⟨fun x hx => ?_, by simpa using h.le, h.max, _, setCell_heap_same hg i _, by simpa using hs, ?_⟩
  · rcases List.mem_or_eq_of_mem_set hx with hx | rfl
    · exact h.lt x hx
    · exact hy
  · rw [Array.toList_setIfInBounds, List.length_set, List.take_set, ht]
    simp [cells4, List.map_set]

section
variable (w : World) {ops : Array Oper} {rest : List Oper} {o : Oper} {a : Act} {Q : Exit → Act → World → Prop}

/-- append of one word -/
theorem wpList_app4 (hg : o.guard = none) (s x : Operand) (ho : o.op = .call { callee := .builtin .append, args := #[s, x], argTypes := #[97, 97] })
    (base : Nat) (v : Value) (L : List Nat) (hs : a.eval s = v) (hown : Own4 w base v L) (p y : Nat) (hx : a.eval x = .slice (some ⟨p, 0, none⟩) 1 1) (hc : w.cell? ⟨p, 0, none⟩ = some (.int .i64 (y : Nat))) (hy : y < B4)
    (hbase : base ≤ w.heap.size) (hlen : L.length ≤ 1000000000)
    (hK : ∀ v' w', Own4 w' base v' (L ++ [y]) → w.grownBy w' v.ownBlock → wpList Tryz.prog ops Q rest (a.put o.dst v') w') : wpList Tryz.prog ops Q (o :: rest) a w := by
  obtain ⟨i0, hi, hz0, hz1, hz2⟩ := info_parts info4
  refine wpList_append_own w hg s x 97 ho base 3 i0 (.int .i64 0) 1 8 und4 hi hz0 hz1 hz2 rfl (by decide) v L.length (cells4 L) hs hown.own ⟨p, 0, none⟩ 1 1 [.int .i64 (y : Nat)] hx rfl ?_ ?_ ?_ ?_ hbase ?_
  · intro j u hj
    cases j with
    | zero => simp at hj; subst hj; simpa [Addr.add] using hc
    | succ j => simp at hj
  · simp [Value.oneCell']
  · simp [maxLen]; omega
  · omega
  · intro v' w' ho hgr _
    refine hK v' w' ⟨?_, ?_⟩ hgr
    · intro z hz
      rcases List.mem_append.1 hz with hz | hz
      · exact hown.lt z hz
      · simp at hz; subst hz; exact hy
    · have e : cells4 (L ++ [y]) = cells4 L ++ [.int .i64 (y : Nat)] := by simp [cells4]
      rw [e]; simpa using ho

/-- make with room, without elements -/
theorem wpList_make40 (hg : o.guard = none) (l c : Operand) (ho : o.op = .makeSlice 97 l c) (base cap : Nat) (ci : Int) (hl : a.eval l = .int .i64 0) (hc : a.eval c = .int .i64 ci) (hci : ci = (cap : Int)) (hcap : cap ≤ 1000000000) (hbase : base ≤ w.heap.size)
    (hK : ∀ v' w', Own4 w' base v' [] → w.grownBy w' none → wpList Tryz.prog ops Q rest (a.put o.dst v') w') : wpList Tryz.prog ops Q (o :: rest) a w := by
  subst hci
  obtain ⟨i0, hi, hz0, hz1, hz2⟩ := info_parts info4
  obtain ⟨w', hr, hw, hgr⟩ := run_make_own (P := Tryz.prog) w base 97 3 i0 (.int .i64 0) 1 und4 hi hz0 hz1 .i64 .i64 cap (by rw [hz2]; omega) (by simp [maxLen]; omega) hbase
  refine wpList_plain hg fun K' hK' => ?_
  unfold Oper.wp
  simp [execOp, ho, hl, hc, hr, Result.andThen]
  exact hK' _ _ (hK _ w' ⟨by simp, hw⟩ hgr)

theorem madeCells_toList4 (n : Nat) : (madeCells (Value.int .i64 0).cells n).toList = cells4 (List.replicate n 0) := by
  apply List.ext_getElem
  · simp [size_madeCells, cells4]
  · intro i h1 h2
    simp [madeCells, cells4, Value.cells, Nat.mod_one]

/-- make of so many noughts -/
theorem wpList_make4 (hg : o.guard = none) (l c : Operand) (ho : o.op = .makeSlice 97 l c) (len cap : Nat) (li ci : Int) (hl : a.eval l = .int .i64 li) (hc : a.eval c = .int .i64 ci) (hli : li = (len : Int)) (hci : ci = (cap : Int)) (hlc : len ≤ cap) (hcap : cap ≤ 1000000000)
    (hK : ∀ w', Row4 w' w.heap.size cap (List.replicate len 0) → Below w.heap.size w w' → wpList Tryz.prog ops Q rest (a.put o.dst (.slice (some ⟨w.heap.size, 0, none⟩) len cap)) w') : wpList Tryz.prog ops Q (o :: rest) a w := by
  subst hci hli
  obtain ⟨i0, hi, hz0, hz1, hz2⟩ := info_parts info4
  have hr := run_make (P := Tryz.prog) w 97 3 i0 (.int .i64 0) und4 hi hz0 .i64 .i64 (len : Nat) (cap : Nat) (by omega) (by omega) (by rw [hz2]; omega) (by omega)
  refine wpList_plain hg fun K' hK' => ?_
  unfold Oper.wp
  simp [execOp, ho, hl, hc, hr, Result.andThen]
  refine hK' _ _ (hK _ ⟨?_, by simpa using hlc, by omega, _, heap_alloc_at w _, ?_, ?_⟩ ((Below.refl _ _).alloc (Nat.le_refl _) _))
  · intro x hx; rw [List.eq_of_mem_replicate hx]; decide
  · rw [size_madeCells, hz1]; omega
  · rw [hz1, Nat.mul_one, madeCells_toList4]
    simp only [cells4, ← List.map_take, List.length_replicate, List.take_replicate]
    rw [Nat.min_eq_left hlc]
end

/-- v is the list of the lim4 of n -/
def NumV (w : World) (v : Value) (n : Nat) : Prop := ∃ a cap, v = .slice a (lim4 n).length cap ∧ Li4 w a cap (lim4 n)
theorem NumV.below {w w' : World} {v : Value} {n : Nat} (h : NumV w v n) (hb : Below w.heap.size w w') : NumV w' v n := by
  obtain ⟨a, cap, rfl, hl⟩ := h; exact ⟨a, cap, rfl, hl.below hb⟩

theorem Own4.alloc {w : World} {base : Nat} {v : Value} {L : List Nat} (h : Own4 w base v L) (o : Obj) : Own4 (w.alloc o) base v L := ⟨h.lt, h.own.alloc o⟩

set_option maxHeartbeats 1000000 in
theorem trim4_any (a : Option Addr) (cap : Nat) (L : List Nat) (w : World) (h : Li4 w a cap L) :
    Calls Tryz.prog 122 #[.slice a L.length cap] w fun e w' => e = .returned (.slice a (trimL L).length cap) ∧ w = w' := by
  have hle := h.le
  have hmx := h.max
  have H := Lib.hid h
  clear h
  go_enter Tryz.func122, Tryz.ntmps122
  go_wp2
  go_loop [0] (fun v => ∃ k : Nat, k ≤ L.length ∧ v = .slice a k cap ∧ trimL (L.take k) = trimL L) lenV
  case atStart => exact ⟨L.length, Nat.le_refl _, rfl, by rw [List.take_length]⟩
  case round =>
    obtain ⟨k, hk, rfl, ht⟩ := hrel
    have HT := Lib.hid ht
    clear ht
    cases k with
    | zero =>
      go_wp2
      go_ret
      have e : (trimL L).length = 0 := by rw [← HT.out]; rfl
      exact ⟨by rw [e]; rfl, rfl⟩
    | succ k =>
      obtain ⟨b, off, rfl, hc⟩ := H.out.at_ k (by omega)
      have hsn : L.take (k + 1) = L.take k ++ [L[k]'(by omega)] := List.take_succ_eq_append_getElem (by omega)
      by_cases hz : L[k]'(by omega) = 0
      · rw [hz] at hc hsn
        have HT' : Hid (trimL (L.take k) = trimL L) := by rw [← HT.out, hsn]; exact (trimL_snoc_zero _).symm
        clear hsn hz HT
        have hc' : w.cell? ⟨b, off + k, none⟩ = some (.int .i64 0) := by simpa using hc
        clear hc
        go_wp2
        go_round
        case rel => exact ⟨k, by omega, rfl, HT'.out⟩
        case measure => simp [lenV]
      · have e : Hid ((trimL L).length = k + 1) := by
          show (trimL L).length = k + 1
          rw [← HT.out, hsn, trimL_snoc_pos _ hz]; rw [← hsn, List.length_take]; exact Nat.min_eq_left hk
        generalize L[k]'(by omega) = x at *
        have hx : ((x : Int) == 0) = false := by simp; omega
        clear hsn hz HT
        go_wp2
        go_ret
        exact ⟨by rw [e.out]; rfl, rfl⟩

end Go.Proofs.YtcmpdamfeoaapaaGreatDoor
