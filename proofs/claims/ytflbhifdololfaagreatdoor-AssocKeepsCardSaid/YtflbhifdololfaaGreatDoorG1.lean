/- Small laws of no program: stores of floats and maps; worlds that part in a few named blocks; a step over a map. -/
import Derived.Test.YtflbhifdololfaaGreatDoorProg
import Derived.WalkKit
import Derived.WalkSpells
import Derived.WalkLawsBesides
import Derived.Maps.OwnOps
import Derived.Maps.RangeWalk
import Derived.Lib.Hide
namespace Go.Proofs.YtflbhifdololfaaGreatDoor
open Go.RowKit
set_option linter.unusedVariables false

@[go_sem] theorem run_store_float {P : Program} {w : World} {a : Addr} {m : Mode} (k : FloatKind) (n : Nat) : (store a (.float k n) m).run P w = stored P w a (.float k n) m := run_store P w a _ m rfl
@[go_sem] theorem run_store_map {P : Program} {w : World} {a : Addr} {m : Mode} (r : Option Nat) : (store a (.map r) m).run P w = stored P w a (.map r) m := run_store P w a _ m rfl

theorem ba_beq (k : ByteArray) : (k == k) = true := by
  cases k; rename_i d; show (d == d) = true; simp
theorem ba_bne {a b : ByteArray} (h : a ≠ b) : (a == b) = false := by
  cases a; cases b; rename_i d d'; show (d == d') = false; rw [beq_eq_false_iff_ne]; intro e; exact h (by rw [e])

/-- what was there is as it was, but for the blocks of S -/
structure Apart (S : List Nat) (w w' : World) : Prop where
  os : w'.os = w.os
  tape : w'.tape = w.tape
  output : w'.output = w.output
  size : w.heap.size ≤ w'.heap.size
  block : ∀ k, k < w.heap.size → k ∉ S → w'.heap[k]? = w.heap[k]?

theorem Apart.refl (S : List Nat) (w : World) : Apart S w w := ⟨rfl, rfl, rfl, Nat.le_refl _, fun _ _ _ => rfl⟩
theorem Apart.trans {S T : List Nat} {a b c : World} (h : Apart S a b) (k : Apart T b c) (hT : ∀ x, x ∈ T → x ∈ S ∨ a.heap.size ≤ x) : Apart S a c :=
  ⟨k.os.trans h.os, k.tape.trans h.tape, k.output.trans h.output, Nat.le_trans h.size k.size, fun i hi hn =>
    (k.block i (Nat.lt_of_lt_of_le hi h.size) (fun ht => (hT i ht).elim hn (fun hl => absurd hi (by omega)))).trans (h.block i hi hn)⟩
theorem Apart.of_below {w w' : World} (h : Below w.heap.size w w') (S : List Nat) : Apart S w w' := ⟨h.os, h.tape, h.output, h.size, fun k hk _ => h.block k hk⟩
theorem Apart.below {S : List Nat} {w w' : World} (h : Apart S w w') {B : Nat} (hB : B ≤ w.heap.size) (hS : ∀ x, x ∈ S → B ≤ x) : Below B w w' :=
  ⟨h.os, h.tape, h.output, h.size, fun k hk => h.block k (by omega) (fun hs => by have := hS k hs; omega)⟩
theorem Apart.alloc {S : List Nat} {a w : World} (h : Apart S a w) (o : Obj) : Apart S a (w.alloc o) :=
  h.trans (T := []) ⟨rfl, rfl, rfl, by simp, fun k hk _ => Below.heap_alloc _ _ _ hk⟩ (by simp)
theorem Apart.drew {S : List Nat} {a w : World} (h : Apart S a w) : Apart S a w.drew := ⟨h.os, h.tape, h.output, h.size, h.block⟩
theorem Apart.setCell {S : List Nat} {a w : World} (h : Apart S a w) (p : Addr) (hp : p.block ∈ S ∨ a.heap.size ≤ p.block) (u : Value) : Apart S a (w.setCell p u) :=
  h.trans (T := [p.block]) ⟨rfl, rfl, rfl, by simp [World.setCell], fun k hk hn => Below.heap_setCell _ _ _ _ (by simpa using hn)⟩ (by simpa using hp)

theorem _root_.Go.RowKit.Below.drewN {B : Nat} {a w : World} (h : Below B a w) (n : Nat) : Below B a (w.drewN n) := ⟨h.os, h.tape, h.output, h.size, h.block⟩

/-- a whole object put in a block's place -/
def _root_.Go.World.setObj' (w : World) (r : Nat) (o : Obj) : World := { w with heap := w.heap.setIfInBounds r o }
theorem setObj'_size (w : World) (r : Nat) (o : Obj) : (w.setObj' r o).heap.size = w.heap.size := by simp [World.setObj']
theorem setObj'_same (w : World) (r : Nat) (o : Obj) (h : r < w.heap.size) : (w.setObj' r o).heap[r]? = some o := by simp [World.setObj', h]
theorem setObj'_other (w : World) (r k : Nat) (o : Obj) (h : k ≠ r) : (w.setObj' r o).heap[k]? = w.heap[k]? := by
  simp only [World.setObj', Array.getElem?_setIfInBounds]
  rw [if_neg (by omega)]
theorem Apart.setObj' {S : List Nat} {a w : World} (h : Apart S a w) (r : Nat) (hp : r ∈ S ∨ a.heap.size ≤ r) (o : Obj) : Apart S a (w.setObj' r o) :=
  h.trans (T := [r]) ⟨rfl, rfl, rfl, by simp [World.setObj'], fun k hk hn => setObj'_other _ _ _ _ (by simpa using hn)⟩ (by simpa using hp)
theorem Below.setObj' {B : Nat} {a w : World} (h : Below B a w) (r : Nat) (hp : B ≤ r) (o : Obj) : Below B a (w.setObj' r o) :=
  h.trans ⟨rfl, rfl, rfl, by simp [World.setObj'], fun k hk => setObj'_other _ _ _ _ (by omega)⟩

theorem heap_alloc_lt (w : World) (o : Obj) (k : Nat) (h : k < w.heap.size) : (w.alloc o).heap[k]? = w.heap[k]? := Below.heap_alloc w o k h
theorem heap_alloc_at (w : World) (o : Obj) : (w.alloc o).heap[w.heap.size]? = some o := by show (w.heap.push o)[w.heap.size]? = _; simp
theorem setCell_heap_same {w : World} {b : Nat} {c : Array Value} {t : TypeId} {f : Nat × Nat} (h : w.heap[b]? = some (.cells c t f)) (i : Nat) (v : Value) :
    (w.setCell ⟨b, i, none⟩ v).heap[b]? = some (.cells (c.setIfInBounds i v) t f) := by
  simp [World.setCell, Array.getElem?_modify, h]
theorem lt_of_heap {w : World} {k : Nat} {o : Obj} (h : w.heap[k]? = some o) : k < w.heap.size := (Array.getElem?_eq_some_iff.1 h).1

/-! one step of a loop over a map -/
def leftOf' (es : Array MapEntry) (seen : Array Nat) : Array MapEntry := es.filter fun e => !seen.contains e.born

theorem run_next_over (P : Program) (w : World) (r m since last : Nat) (seen : Array Nat) (es : Array MapEntry) (clock : Nat) (T : TypeId)
    (hr : w.heap[r]? = some (.mapIter (some m) since seen last)) (hm : w.heap[m]? = some (.map es clock)) (hlast : ∀ e ∈ es.toList, e.born < last)
    (hleft : leftOf' es seen = #[]) : (Instr.next (.pointer (some ⟨r, 0, none⟩)) false T).run P w = .ok (.tuple #[.bool false]) w := by
  have hall : (!seen.isEmpty && !es.isEmpty && es.all (fun e => decide (e.born ≥ last))) = false := by
    rcases hes : es.toList with _ | ⟨e, l⟩
    · have : es = #[] := by apply Array.toList_inj.1; simpa using hes
      simp [this]
    · have he := hlast e (by rw [hes]; simp)
      have : es.all (fun e => decide (e.born ≥ last)) = false := by
        rw [Array.all_eq_false]
        have h0 : 0 < es.size := by rw [← Array.length_toList, hes]; simp
        refine ⟨0, h0, ?_⟩
        have : es[0] = e := by
          have := Array.getElem_toList (xs := es) (i := 0) h0
          rw [← this]; simp [hes]
        rw [this]; simp; omega
      simp [this]
  unfold leftOf' at hleft
  simp only [Instr.next, getObj, Sem.run_bind, Sem.run, hr, hm, Result.andThen]
  simp only [hall, hleft]
  simp [choose, Sem.run, Question.forced]

theorem run_next_step (P : Program) (w : World) (r m since last : Nat) (seen : Array Nat) (es : Array MapEntry) (clock : Nat) (T : TypeId)
    (hr : w.heap[r]? = some (.mapIter (some m) since seen last)) (hm : w.heap[m]? = some (.map es clock)) (hlast : ∀ e ∈ es.toList, e.born < last) (hsince : ∀ e ∈ es.toList, e.born < since)
    (hleft : leftOf' es seen ≠ #[]) :
    ∃ e w1, e ∈ (leftOf' es seen).toList ∧ (w1 = w ∨ w1 = w.drew) ∧
      (Instr.next (.pointer (some ⟨r, 0, none⟩)) false T).run P w = .ok (.tuple #[.bool true, e.key, e.val]) (w1.setObj' r (.mapIter (some m) since (seen.push e.born) clock)) := by
  have hall : (!seen.isEmpty && !es.isEmpty && es.all (fun e => decide (e.born ≥ last))) = false := by
    rcases hes : es.toList with _ | ⟨e, l⟩
    · have : es = #[] := by apply Array.toList_inj.1; simpa using hes
      simp [this]
    · have he := hlast e (by rw [hes]; simp)
      have : es.all (fun e => decide (e.born ≥ last)) = false := by
        rw [Array.all_eq_false]
        have h0 : 0 < es.size := by rw [← Array.length_toList, hes]; simp
        refine ⟨0, h0, ?_⟩
        have : es[0] = e := by
          have := Array.getElem_toList (xs := es) (i := 0) h0
          rw [← this]; simp [hes]
        rw [this]; simp; omega
      simp [this]
  have hold : (leftOf' es seen).filter (fun e => decide (e.born < since)) = leftOf' es seen := by
    rw [Array.filter_eq_self]
    intro e he
    have := hsince e (by simp [leftOf'] at he; simpa using he.1)
    simpa using this
  have hnew : (leftOf' es seen).filter (fun e => decide (e.born ≥ since)) = #[] := by
    rw [Array.filter_eq_empty_iff]
    intro e he
    have := hsince e (by simp [leftOf'] at he; simpa using he.1)
    simp; omega
  have hpos : 0 < (leftOf' es seen).size := by
    rcases Nat.eq_zero_or_pos (leftOf' es seen).size with h | h
    · exact absurd (Array.eq_empty_of_size_eq_zero h) hleft
    · exact h
  have hemp : (leftOf' es seen).isEmpty = false := by simpa using hleft
  have hrlt := lt_of_heap hr
  have key : ∀ (j : Nat) (hj : j < (leftOf' es seen).size) (w1 : World), w1.heap = w.heap →
      (if (Question.mapNext (leftOf' es seen).size).forced = true then Result.ok 0 w else Result.ok ((Question.mapNext (leftOf' es seen).size).cut (w.tape w.drawn (Question.mapNext (leftOf' es seen).size))) w.drew : Result Nat) = .ok j w1 →
      (Instr.next (.pointer (some ⟨r, 0, none⟩)) false T).run P w = .ok (.tuple #[.bool true, ((leftOf' es seen)[j]).key, ((leftOf' es seen)[j]).val]) (w1.setObj' r (.mapIter (some m) since (seen.push ((leftOf' es seen)[j]).born) clock)) := by
    intro j hj w1 hw1 hc
    have hr1 : w1.heap[r]? = some (.mapIter (some m) since seen last) := by rw [hw1]; exact hr
    simp only [Instr.next, getObj, Sem.run_bind, Sem.run, hr, hm, Result.andThen]
    rw [show (Array.filter (fun e => !seen.contains e.born) es) = leftOf' es seen from rfl]
    simp only [hall, hold, hnew, hemp]
    simp [hc, hj, setObj, Sem.run, hr1, World.setObj', Result.andThen]
  by_cases h1 : (leftOf' es seen).size ≤ 1
  · refine ⟨(leftOf' es seen)[0], w, by simp, .inl rfl, key 0 hpos w rfl ?_⟩
    simp [Question.forced, h1]
  · have hj : w.tape w.drawn (.mapNext (leftOf' es seen).size) % (leftOf' es seen).size < (leftOf' es seen).size := Nat.mod_lt _ hpos
    refine ⟨_, w.drew, Array.getElem_mem_toList hj, .inr rfl, key _ hj w.drew rfl ?_⟩
    simp [Question.forced, h1, Question.cut]

theorem run_entry (P : Program) (w : World) (r m since clock : Nat) (seen : Array Nat) (es : Array MapEntry) (e : MapEntry)
    (hr : w.heap[r]? = some (.mapIter (some m) since (seen.push e.born) clock)) (hm : w.heap[m]? = some (.map es clock)) (he : es.find? (fun x => x.born == e.born) = some e) :
    (Instr.entry (.pointer (some ⟨r, 0, none⟩))).run P w = .ok (.tuple #[e.key, e.val]) w := by
  simp [Instr.entry, getObj, Sem.run, hr, hm, he, Result.andThen]

end Go.Proofs.YtflbhifdololfaaGreatDoor
