/- Package ustr: the iterator over a string's characters. -/
import Derived.Test.YtjldeckcfdeklaaGreatDoorU1
import Derived.RangeFuncNested
import Derived.RangeFuncBound
import Derived.RangeFuncCalls
import Derived.RangeFuncLeaves
import Derived.OwnWalkIn
import Derived.TacticsInMore
import Derived.LoopNIn
import Derived.LoopIn
import Derived.WalkKit
import Derived.Shelf.Abstract
namespace Go.Proofs.YtjldeckcfdeklaaGreatDoor
open Go.RowKit Go.Shelf
set_option linter.unusedVariables false
attribute [local go_sem] Oper.semAt_some

/-- the characters from a place on: places and codes -/
def charsF (s : ByteArray) (b : Bool) : Nat → Nat → List (Nat × Nat)
  | 0, _ => []
  | n + 1, m => if m < s.size then (m, (nxt s m b).1) :: charsF s b n (m + (nxt s m b).2) else []
def chars (s : ByteArray) (b : Bool) (m : Nat) : List (Nat × Nat) := charsF s b (s.size - m) m
theorem charsF_end {s : ByteArray} {b : Bool} {n m : Nat} (h : s.size ≤ m) : charsF s b n m = [] := by
  cases n with
  | zero => rfl
  | succ n => unfold charsF; rw [if_neg (by omega)]
theorem charsF_more (s : ByteArray) (b : Bool) : ∀ (n k m : Nat), s.size - m ≤ n → s.size - m ≤ k → charsF s b n m = charsF s b k m := by
  intro n
  induction n with
  | zero => intro k m h1 h2; rw [charsF_end (by omega), charsF_end (by omega)]
  | succ n ih =>
    intro k m h1 h2
    rcases Nat.lt_or_ge m s.size with h | h
    · have hw := nxt_width b h
      cases k with
      | zero => omega
      | succ k =>
        show (if m < s.size then _ else _) = (if m < s.size then _ else _)
        rw [if_pos h, if_pos h, ih k (m + (nxt s m b).2) (by omega) (by omega)]
    · rw [charsF_end h, charsF_end h]
theorem chars_step {s : ByteArray} {b : Bool} {m : Nat} (h : m < s.size) : chars s b m = (m, (nxt s m b).1) :: chars s b (m + (nxt s m b).2) := by
  have hw := nxt_width b h
  unfold chars
  obtain ⟨k, hk⟩ : ∃ k, s.size - m = k + 1 := ⟨s.size - m - 1, by omega⟩
  rw [hk]
  show (if m < s.size then _ else _) = _
  rw [if_pos h, charsF_more s b k (s.size - (m + (nxt s m b).2)) _ (by omega) (by omega)]
theorem chars_end {s : ByteArray} {b : Bool} {m : Nat} (h : s.size ≤ m) : chars s b m = [] := charsF_end h
theorem chars_len (s : ByteArray) (b : Bool) : ∀ (n m : Nat), s.size - m ≤ n → (chars s b m).length ≤ s.size - m := by
  intro n
  induction n with
  | zero => intro m h; rw [chars_end (by omega)]; simp
  | succ n ih =>
    intro m h
    rcases Nat.lt_or_ge m s.size with h' | h'
    · have hw := nxt_width b h'
      have := ih (m + (nxt s m b).2) (by omega)
      rw [chars_step h', List.length_cons]
      omega
    · rw [chars_end h']; simp

theorem U8Ok.lt1 {w : World} (h : U8Ok w) : 5 < w.heap.size := by
  have h0 := h.1 0 (by decide)
  rcases Nat.lt_or_ge 5 w.heap.size with h' | h'
  · exact h'
  · exfalso
    unfold World.cell? at h0
    rw [Array.getElem?_eq_none h'] at h0
    cases h0
theorem U8Ok.lt2 {w : World} (h : U8Ok w) : 6 < w.heap.size := by
  have h0 := (h.2 0 (by decide)).1
  rcases Nat.lt_or_ge 6 w.heap.size with h' | h'
  · exact h'
  · exfalso
    unfold World.cell? at h0
    rw [Array.getElem?_eq_none h'] at h0
    cases h0
theorem U8Ok.keep {n : Nat} {w w' : World} (h : U8Ok w) (hb : Below n w w') (h1 : 5 < n) (h2 : 6 < n) : U8Ok w' :=
  ⟨fun c hc => (hb.cell (p := ⟨5, c, none⟩) h1).trans (h.1 c hc), fun i hi => ⟨(hb.cell (p := ⟨6, 2 * i, none⟩) h2).trans (h.2 i hi).1, (hb.cell (p := ⟨6, 2 * i + 1, none⟩) h2).trans (h.2 i hi).2⟩⟩

/-- what a round keeps -/
def KpU (n₀ Bs Bb : Nat) (W W' : World) : Prop := Below n₀ W W' ∧ W'.heap[Bs]? = W.heap[Bs]? ∧ W'.heap[Bb]? = W.heap[Bb]?
theorem KpU.refl (n₀ Bs Bb : Nat) (W : World) : KpU n₀ Bs Bb W W := ⟨Below.refl _ _, rfl, rfl⟩
theorem KpU.trans {n₀ Bs Bb : Nat} {A B C : World} (h : KpU n₀ Bs Bb A B) (k : KpU n₀ Bs Bb B C) : KpU n₀ Bs Bb A C := ⟨h.1.trans k.1, k.2.1.trans h.2.1, k.2.2.trans h.2.2⟩
theorem KpU.below {n₀ Bs Bb : Nat} {A B : World} (h : Below A.heap.size A B) (h0 : n₀ ≤ A.heap.size) (h1 : Bs < A.heap.size) (h2 : Bb < A.heap.size) : KpU n₀ Bs Bb A B := ⟨h.mono h0, h.block _ h1, h.block _ h2⟩
theorem cell_same {W W' : World} {B i : Nat} (h : W'.heap[B]? = W.heap[B]?) : W'.cell? ⟨B, i, none⟩ = W.cell? ⟨B, i, none⟩ := by
  unfold World.cell?
  rw [h]
theorem KpU.put {n₀ Bs Bb : Nat} {w : World} (h0 : n₀ ≤ w.heap.size) (h1 : Bs < w.heap.size) (h2 : Bb < w.heap.size) (W : World) (l : Nat) (o o' : Obj) (hl : w.heap.size ≤ l) (h : W.heap[l]? = some o) (hc : o.isCells = false) (hw : o.isWalk = false) : KpU n₀ Bs Bb W (W.putObj l o') := by
  have hg := grownBy_putObj' W l o'
  have hlt := (Array.getElem?_eq_some_iff.1 h).1
  exact ⟨belowK_b h0 W l o o' hl h hc hw, hg.block Bs (by omega) (fun e => by cases e; omega), hg.block Bb (by omega) (fun e => by cases e; omega)⟩
theorem KpU.set {n₀ Bs Bb : Nat} {A B : World} (h : KpU n₀ Bs Bb A B) {p : Addr} (hp : n₀ ≤ p.block) (h1 : Bs ≠ p.block) (h2 : Bb ≠ p.block) (u : Value) : KpU n₀ Bs Bb A (B.setCell p u) :=
  ⟨h.1.setCell hp u, (Below.heap_setCell _ _ _ _ h1).trans h.2.1, (Below.heap_setCell _ _ _ _ h2).trans h.2.2⟩

set_option maxHeartbeats 4000000 in
set_option maxRecDepth 100000 in
theorem all1_any (n l Bs Bb n₀ : Nat) (s : ByteArray) (b : Bool) (hn : 1 ≤ n) (hs : s.size ≤ 140737488351232) (hU1 : 5 < n₀) (hU2 : 6 < n₀) (J Jx : List (Nat × Nat) → World → Prop)
    (W : World) (hn₀ : n₀ ≤ W.heap.size) (hB1 : Bs < W.heap.size) (hB2 : Bb < W.heap.size) (hJ : AbidesFrom W.heap.size J)
    (hY : ∀ pre (x : Nat × Nat) W1, J pre W1 → pre.length < s.size → YieldAt Fence.wide (n - 1) Tryz.prog l #[.int .i64 (x.1 : Int), .int .i64 (x.2 : Int)] W1 fun e W' =>
      (e = .returned (.bool true) ∧ J (pre ++ [x]) W' ∧ KpU n₀ Bs Bb W1 W') ∨ (e = .returned (.bool false) ∧ Jx (pre ++ [x]) W'))
    (hBs : W.cell? ⟨Bs, 0, none⟩ = some (.string s)) (hBb : W.cell? ⟨Bb, 0, none⟩ = some (.bool b)) (hU : U8Ok W) (h0 : J [] W) :
    CallsIn Fence.wide n Tryz.prog 109 #[.func (.yield l) #[] #[], .pointer (some ⟨Bs, 0, none⟩), .pointer (some ⟨Bb, 0, none⟩)] W fun e W' => (∃ v, e = .returned v) ∧
      ((∃ ys, ys = chars s b 0 ∧ J ys W') ∨ (∃ pre, pre <+: chars s b 0 ∧ Jx pre W')) := by
  refine callsIn_of_wp Tryz.func109 rfl trivial ?_ rfl
  simp only [Tryz.ntmps109, List.size_toArray, List.length_cons, List.length_nil, Nat.reduceAdd, Nat.reduceSub, Array.replicate_succ, Array.replicate_zero, List.push_toArray, List.append_toArray, List.nil_append, List.cons_append]
  have HY := Lib.hid hY
  have HJ := Lib.hid hJ
  have HU := Lib.hid hU
  have H0 := Lib.hid h0
  clear hY hJ hU h0
  gi_wp2
  gi_loopw [4] (fun p wr => ∃ (m : Nat) (pre : List (Nat × Nat)), p = .int .i64 (m : Int) ∧ Hid (pre ++ chars s b m = chars s b 0) ∧ pre.length ≤ m ∧ m ≤ s.size + 4 ∧ Hid (J pre wr) ∧ Hid (KpU n₀ Bs Bb W wr))
    (fun p _ => s.size - (intOf p).toNat)
  case atStart => exact ⟨0, [], rfl, rfl, Nat.zero_le _, Nat.zero_le _, H0.out, KpU.refl _ _ _ _⟩
  case round =>
    obtain ⟨m, pre, rfl, HE, hpm, hm4, HJs, HB⟩ := hrel
    have c1 : wr.cell? ⟨Bs, 0, none⟩ = some (.string s) := (cell_same HB.out.2.1).trans hBs
    have c2 : wr.cell? ⟨Bb, 0, none⟩ = some (.bool b) := (cell_same HB.out.2.2).trans hBb
    rcases Nat.lt_or_ge m s.size with hlt | hge
    · have hI : (m : Int) < (s.size : Int) := by omega
      have hUr : U8Ok wr := HU.out.keep HB.out.1 hU1 hU2
      have HN := Lib.hid (UNext_any s m b wr hlt hs hUr)
      have hw := nxt_width b hlt
      have HE1 : Hid ((pre ++ [(m, (nxt s m b).1)]) ++ chars s b (m + (nxt s m b).2) = chars s b 0) := by
        show _ = _
        rw [← HE.out, chars_step hlt]
        simp
      obtain ⟨⟨c, k⟩, hnx⟩ : ∃ x, x = nxt s m b := ⟨_, rfl⟩
      rw [← hnx] at HN hw HE1
      clear hnx hUr
      dsimp only at HN hw HE1
      gi_wp2_with fail
      refine ⟨trivial, ?_⟩
      refine (callsIn_wide.2 HN.out).mono ?_
      rintro e w1 ⟨rfl, hb1⟩
      have hzz := HB.out.1.size
      have HB1 : Hid (KpU n₀ Bs Bb W w1) := HB.out.trans (KpU.below hb1 (by omega) (by omega) (by omega))
      have HJ1 : Hid (J pre w1) := HJ.out _ _ _ none HJs.out ⟨hb1.os, hb1.tape, hb1.output, hb1.size, fun k hk _ => hb1.block k hk⟩ (fun r e => by cases e)
      obtain ⟨fn, tmps, assign, body, hy, hR⟩ := HY.out pre (m, c) w1 HJ1.out (by omega)
      dsimp only at hy
      clear hb1 c1 c2 HJs HB
      gi_wp2_with fail
      refine hR.mono ?_
      rintro e W3 (⟨rfl, hJ3, hk3⟩ | ⟨rfl, hJx3⟩)
      · have HJ3 := Lib.hid hJ3
        have HB3 : Hid (KpU n₀ Bs Bb W W3) := HB1.out.trans hk3
        clear hJ3 hk3 hR hy
        gi_wp2_with fail
        go_roundw
        case rel => exact ⟨m + k, pre ++ [(m, c)], by simp, HE1, by simp; omega, by omega, HJ3, HB3⟩
        case measure => simp only [intOf]; omega
      · have HJx3 := Lib.hid hJx3
        clear hJx3 hR hy
        gi_wp2_with fail
        refine bodyPost_ret (results_none rfl _ _ _) rfl ?_
        exact ⟨⟨_, rfl⟩, .inr ⟨_, ⟨_, HE1.out⟩, HJx3.out⟩⟩
    · have hI : (s.size : Int) ≤ (m : Int) := by omega
      have HE1 : Hid (pre = chars s b 0) := by
        have := HE.out
        rw [chars_end hge, List.append_nil] at this
        exact this
      gi_wp2_with fail
      go_end0
      exact ⟨⟨_, rfl⟩, .inl ⟨_, HE1.out, HJs.out⟩⟩

theorem all_stops (n Bs Bb n₀ : Nat) (s : ByteArray) (b : Bool) (hn : 1 ≤ n) (hs : s.size ≤ 140737488351232) (w : World) (hB1 : Bs < w.heap.size) (hB2 : Bb < w.heap.size) (hU1 : 5 < n₀) (hU2 : 6 < n₀) (hn₀ : n₀ ≤ w.heap.size)
    (hBs : w.cell? ⟨Bs, 0, none⟩ = some (.string s)) (hBb : w.cell? ⟨Bb, 0, none⟩ = some (.bool b)) (hU : U8Ok w) :
    SeqStopsK Fence.wide n Tryz.prog 109 #[.pointer (some ⟨Bs, 0, none⟩), .pointer (some ⟨Bb, 0, none⟩)] (fun x : Nat × Nat => #[Value.int .i64 (x.1 : Int), Value.int .i64 (x.2 : Int)]) (KpU n₀ Bs Bb) (fun ys => ys = chars s b 0)
      (fun pre => pre <+: chars s b 0) s.size w := fun l J Jx W hW hJ _ hY h0 =>
  all1_any n l Bs Bb n₀ s b hn hs hU1 hU2 J Jx W (Nat.le_trans hn₀ hW.size) (Nat.lt_of_lt_of_le hB1 hW.size) (Nat.lt_of_lt_of_le hB2 hW.size) hJ hY ((hW.cell (p := ⟨Bs, 0, none⟩) hB1).trans hBs) ((hW.cell (p := ⟨Bb, 0, none⟩) hB2).trans hBb) (hU.below hW) h0
end Go.Proofs.YtjldeckcfdeklaaGreatDoor
