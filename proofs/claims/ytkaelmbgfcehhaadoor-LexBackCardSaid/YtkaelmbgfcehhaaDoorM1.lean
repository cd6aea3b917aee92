/- Several texts in one (G1, G3, N0, N1, N2, N3, N4, N5, N6, N7). -/
import Derived.Test.YtkaelmbgfcehhaaDoorProg
import Derived.WalkKit
import Derived.WalkSpells
import Derived.WalkLawsBesides
import Derived.Maps.OwnOps
import Derived.Maps.RangeWalk
import Derived.Lib.Hide
import Derived.BigRegion
import Init
import Derived.StillTailTactics
import Derived.BigQuiet
import Derived.Deep.QuietTactic
import Derived.Laws.MakeOwn
import Derived.Test.YtkaelmbgfcehhaaDoorShelf
import Derived.Laws.BitsAllLaws
set_option linter.unusedVariables false
set_option linter.unusedSimpArgs false
section
/- Small laws of no program: stores of floats and maps; worlds that part in a few named blocks; a step over a map. -/
namespace Go.Proofs.YtkaelmbgfcehhaaDoor
open Go.RowKit
set_option linter.unusedVariables false

@[go_sem] theorem run_store_float {P : Program} {w : World} {a : Addr} {m : Mode} (k : FloatKind) (n : Nat) : (store a (.float k n) m).run P w = stored P w a (.float k n) m := run_store P w a _ m rfl
@[go_sem] theorem run_store_map {P : Program} {w : World} {a : Addr} {m : Mode} (r : Option Nat) : (store a (.map r) m).run P w = stored P w a (.map r) m := run_store P w a _ m rfl

theorem ba_beq (k : ByteArray) : (k == k) = true := by
  cases k; rename_i d; show (d == d) = true; simp
theorem ba_bne {a b : ByteArray} (h : a ≠ b) : (a == b) = false := by
  cases a; cases b; rename_i d d'; show (d == d') = false; rw [beq_eq_false_iff_ne]; intro e; exact h (by rw [e])

/-- what was there is as it was, but for the blocks of S -/
structure Apart (S : List Nat) (w w' : World) : Prop where
  os : w'.os = w.os
  tape : w'.tape = w.tape
  output : w'.output = w.output
  size : w.heap.size ≤ w'.heap.size
  block : ∀ k, k < w.heap.size → k ∉ S → w'.heap[k]? = w.heap[k]?

theorem Apart.refl (S : List Nat) (w : World) : Apart S w w := ⟨rfl, rfl, rfl, Nat.le_refl _, fun _ _ _ => rfl⟩
theorem Apart.trans {S T : List Nat} {a b c : World} (h : Apart S a b) (k : Apart T b c) (hT : ∀ x, x ∈ T → x ∈ S ∨ a.heap.size ≤ x) : Apart S a c :=
  ⟨k.os.trans h.os, k.tape.trans h.tape, k.output.trans h.output, Nat.le_trans h.size k.size, fun i hi hn =>
    (k.block i (Nat.lt_of_lt_of_le hi h.size) (fun ht => (hT i ht).elim hn (fun hl => absurd hi (by omega)))).trans (h.block i hi hn)⟩
theorem Apart.of_below {w w' : World} (h : Below w.heap.size w w') (S : List Nat) : Apart S w w' := ⟨h.os, h.tape, h.output, h.size, fun k hk _ => h.block k hk⟩
theorem Apart.below {S : List Nat} {w w' : World} (h : Apart S w w') {B : Nat} (hB : B ≤ w.heap.size) (hS : ∀ x, x ∈ S → B ≤ x) : Below B w w' :=
  ⟨h.os, h.tape, h.output, h.size, fun k hk => h.block k (by omega) (fun hs => by have := hS k hs; omega)⟩
theorem Apart.alloc {S : List Nat} {a w : World} (h : Apart S a w) (o : Obj) : Apart S a (w.alloc o) :=
  h.trans (T := []) ⟨rfl, rfl, rfl, by simp, fun k hk _ => Below.heap_alloc _ _ _ hk⟩ (by simp)
theorem Apart.drew {S : List Nat} {a w : World} (h : Apart S a w) : Apart S a w.drew := ⟨h.os, h.tape, h.output, h.size, h.block⟩
theorem Apart.setCell {S : List Nat} {a w : World} (h : Apart S a w) (p : Addr) (hp : p.block ∈ S ∨ a.heap.size ≤ p.block) (u : Value) : Apart S a (w.setCell p u) :=
  h.trans (T := [p.block]) ⟨rfl, rfl, rfl, by simp [World.setCell], fun k hk hn => Below.heap_setCell _ _ _ _ (by simpa using hn)⟩ (by simpa using hp)

theorem _root_.Go.RowKit.Below.drewN {B : Nat} {a w : World} (h : Below B a w) (n : Nat) : Below B a (w.drewN n) := ⟨h.os, h.tape, h.output, h.size, h.block⟩

/-- a whole object put in a block's place -/
def _root_.Go.World.setObj' (w : World) (r : Nat) (o : Obj) : World := { w with heap := w.heap.setIfInBounds r o }
theorem setObj'_size (w : World) (r : Nat) (o : Obj) : (w.setObj' r o).heap.size = w.heap.size := by simp [World.setObj']
theorem setObj'_same (w : World) (r : Nat) (o : Obj) (h : r < w.heap.size) : (w.setObj' r o).heap[r]? = some o := by simp [World.setObj', h]
theorem setObj'_other (w : World) (r k : Nat) (o : Obj) (h : k ≠ r) : (w.setObj' r o).heap[k]? = w.heap[k]? := by
  simp only [World.setObj', Array.getElem?_setIfInBounds]
  rw [if_neg (by omega)]
theorem Apart.setObj' {S : List Nat} {a w : World} (h : Apart S a w) (r : Nat) (hp : r ∈ S ∨ a.heap.size ≤ r) (o : Obj) : Apart S a (w.setObj' r o) :=
  h.trans (T := [r]) ⟨rfl, rfl, rfl, by simp [World.setObj'], fun k hk hn => setObj'_other _ _ _ _ (by simpa using hn)⟩ (by simpa using hp)
theorem Below.setObj' {B : Nat} {a w : World} (h : Below B a w) (r : Nat) (hp : B ≤ r) (o : Obj) : Below B a (w.setObj' r o) :=
  h.trans ⟨rfl, rfl, rfl, by simp [World.setObj'], fun k hk => setObj'_other _ _ _ _ (by omega)⟩

theorem heap_alloc_lt (w : World) (o : Obj) (k : Nat) (h : k < w.heap.size) : (w.alloc o).heap[k]? = w.heap[k]? := Below.heap_alloc w o k h
theorem heap_alloc_at (w : World) (o : Obj) : (w.alloc o).heap[w.heap.size]? = some o := by show (w.heap.push o)[w.heap.size]? = _; simp
theorem setCell_heap_same {w : World} {b : Nat} {c : Array Value} {t : TypeId} {f : Nat × Nat} (h : w.heap[b]? = some (.cells c t f)) (i : Nat) (v : Value) :
    (w.setCell ⟨b, i, none⟩ v).heap[b]? = some (.cells (c.setIfInBounds i v) t f) := by
  simp [World.setCell, Array.getElem?_modify, h]
theorem lt_of_heap {w : World} {k : Nat} {o : Obj} (h : w.heap[k]? = some o) : k < w.heap.size := (Array.getElem?_eq_some_iff.1 h).1

/-! one step of a loop over a map -/
def leftOf' (es : Array MapEntry) (seen : Array Nat) : Array MapEntry := es.filter fun e => !seen.contains e.born

theorem run_next_over (P : Program) (w : World) (r m since last : Nat) (seen : Array Nat) (es : Array MapEntry) (clock : Nat) (T : TypeId)
    (hr : w.heap[r]? = some (.mapIter (some m) since seen last)) (hm : w.heap[m]? = some (.map es clock)) (hlast : ∀ e ∈ es.toList, e.born < last)
    (hleft : leftOf' es seen = #[]) : (Instr.next (.pointer (some ⟨r, 0, none⟩)) false T).run P w = .ok (.tuple #[.bool false]) w := by
  have hall : (!seen.isEmpty && !es.isEmpty && es.all (fun e => decide (e.born ≥ last))) = false := by
    rcases hes : es.toList with _ | ⟨e, l⟩
    · have : es = #[] := by apply Array.toList_inj.1; simpa using hes
      simp [this]
    · have he := hlast e (by rw [hes]; simp)
      have : es.all (fun e => decide (e.born ≥ last)) = false := by
        rw [Array.all_eq_false]
        have h0 : 0 < es.size := by rw [← Array.length_toList, hes]; simp
        refine ⟨0, h0, ?_⟩
        have : es[0] = e := by
          have := Array.getElem_toList (xs := es) (i := 0) h0
          rw [← this]; simp [hes]
        rw [this]; simp; omega
      simp [this]
  unfold leftOf' at hleft
  simp only [Instr.next, getObj, Sem.run_bind, Sem.run, hr, hm, Result.andThen]
  simp only [hall, hleft]
  simp [choose, Sem.run, Question.forced]

theorem run_next_step (P : Program) (w : World) (r m since last : Nat) (seen : Array Nat) (es : Array MapEntry) (clock : Nat) (T : TypeId)
    (hr : w.heap[r]? = some (.mapIter (some m) since seen last)) (hm : w.heap[m]? = some (.map es clock)) (hlast : ∀ e ∈ es.toList, e.born < last) (hsince : ∀ e ∈ es.toList, e.born < since)
    (hleft : leftOf' es seen ≠ #[]) :
    ∃ e w1, e ∈ (leftOf' es seen).toList ∧ (w1 = w ∨ w1 = w.drew) ∧
      (Instr.next (.pointer (some ⟨r, 0, none⟩)) false T).run P w = .ok (.tuple #[.bool true, e.key, e.val]) (w1.setObj' r (.mapIter (some m) since (seen.push e.born) clock)) := by
  have hall : (!seen.isEmpty && !es.isEmpty && es.all (fun e => decide (e.born ≥ last))) = false := by
    rcases hes : es.toList with _ | ⟨e, l⟩
    · have : es = #[] := by apply Array.toList_inj.1; simpa using hes
      simp [this]
    · have he := hlast e (by rw [hes]; simp)
      have : es.all (fun e => decide (e.born ≥ last)) = false := by
        rw [Array.all_eq_false]
        have h0 : 0 < es.size := by rw [← Array.length_toList, hes]; simp
        refine ⟨0, h0, ?_⟩
        have : es[0] = e := by
          have := Array.getElem_toList (xs := es) (i := 0) h0
          rw [← this]; simp [hes]
        rw [this]; simp; omega
      simp [this]
  have hold : (leftOf' es seen).filter (fun e => decide (e.born < since)) = leftOf' es seen := by
    rw [Array.filter_eq_self]
    intro e he
    have := hsince e (by simp [leftOf'] at he; simpa using he.1)
    simpa using this
  have hnew : (leftOf' es seen).filter (fun e => decide (e.born ≥ since)) = #[] := by
    rw [Array.filter_eq_empty_iff]
    intro e he
    have := hsince e (by simp [leftOf'] at he; simpa using he.1)
    simp; omega
  have hpos : 0 < (leftOf' es seen).size := by
    rcases Nat.eq_zero_or_pos (leftOf' es seen).size with h | h
    · exact absurd (Array.eq_empty_of_size_eq_zero h) hleft
    · exact h
  have hemp : (leftOf' es seen).isEmpty = false := by simpa using hleft
  have hrlt := lt_of_heap hr
  have key : ∀ (j : Nat) (hj : j < (leftOf' es seen).size) (w1 : World), w1.heap = w.heap →
      (if (Question.mapNext (leftOf' es seen).size).forced = true then Result.ok 0 w else Result.ok ((Question.mapNext (leftOf' es seen).size).cut (w.tape w.drawn (Question.mapNext (leftOf' es seen).size))) w.drew : Result Nat) = .ok j w1 →
      (Instr.next (.pointer (some ⟨r, 0, none⟩)) false T).run P w = .ok (.tuple #[.bool true, ((leftOf' es seen)[j]).key, ((leftOf' es seen)[j]).val]) (w1.setObj' r (.mapIter (some m) since (seen.push ((leftOf' es seen)[j]).born) clock)) := by
    intro j hj w1 hw1 hc
    have hr1 : w1.heap[r]? = some (.mapIter (some m) since seen last) := by rw [hw1]; exact hr
    simp only [Instr.next, getObj, Sem.run_bind, Sem.run, hr, hm, Result.andThen]
    rw [show (Array.filter (fun e => !seen.contains e.born) es) = leftOf' es seen from rfl]
    simp only [hall, hold, hnew, hemp]
    simp [hc, hj, setObj, Sem.run, hr1, World.setObj', Result.andThen]
  by_cases h1 : (leftOf' es seen).size ≤ 1
  · refine ⟨(leftOf' es seen)[0], w, by simp, .inl rfl, key 0 hpos w rfl ?_⟩
    simp [Question.forced, h1]
  · have hj : w.tape w.drawn (.mapNext (leftOf' es seen).size) % (leftOf' es seen).size < (leftOf' es seen).size := Nat.mod_lt _ hpos
    refine ⟨_, w.drew, Array.getElem_mem_toList hj, .inr rfl, key _ hj w.drew rfl ?_⟩
    simp [Question.forced, h1, Question.cut]

theorem run_entry (P : Program) (w : World) (r m since clock : Nat) (seen : Array Nat) (es : Array MapEntry) (e : MapEntry)
    (hr : w.heap[r]? = some (.mapIter (some m) since (seen.push e.born) clock)) (hm : w.heap[m]? = some (.map es clock)) (he : es.find? (fun x => x.born == e.born) = some e) :
    (Instr.entry (.pointer (some ⟨r, 0, none⟩))).run P w = .ok (.tuple #[e.key, e.val]) w := by
  simp [Instr.entry, getObj, Sem.run, hr, hm, he, Result.andThen]

end Go.Proofs.YtkaelmbgfcehhaaDoor
end

section
/- A region that draws its order, by an invariant over what has come up: each operation is walked once. -/
namespace Go.Proofs.YtkaelmbgfcehhaaDoor
open Go.RowKit

/-- i has come up too. -/
def upd (L : Nat → Bool) (i : Nat) : Nat → Bool := fun j => if j = i then true else L j
theorem upd_self (L : Nat → Bool) (i : Nat) : upd L i i = true := by simp [upd]
theorem upd_other (L : Nat → Bool) {i j : Nat} (h : j ≠ i) : upd L i j = L j := by simp [upd, h]

/-- Each operation waits for earlier ones alone, but for the edges that don't bind. -/
def orderedOps (ops : Array Oper) : Bool := (List.range ops.size).all fun i => ((ops[i]?).map fun o => o.after.all fun e => decide (e.on < i) || !(Region.binds .any e)).getD false

theorem all_listed {ops : Array Oper} {listed : Array Bool} (hord : orderedOps ops = true) (hs : listed.size = ops.size) (hr : Region.ready .any ops listed = []) :
    ∀ i, i < ops.size → listed.getD i false = true := by
  intro i
  induction i using Nat.strongRecOn with
  | ind i ih =>
    intro hi
    cases hl : listed.getD i false with
    | true => rfl
    | false =>
      exfalso
      have hm : i ∈ Region.ready .any ops listed := by
        rw [mem_ready]
        refine ⟨?_, ops[i], Array.getElem?_eq_getElem hi, ?_⟩
        · have hi' : i < listed.size := by omega
          simp [hi'] at hl ⊢
          exact hl
        · intro e he hbind
          have h1 := List.all_eq_true.1 hord i (List.mem_range.2 hi)
          rw [Array.getElem?_eq_getElem hi] at h1
          simp only [Option.map_some, Option.getD_some, Array.all_eq_true_iff_forall_mem] at h1
          have h2 := h1 e he
          rw [hbind, Bool.not_true, Bool.or_false] at h2
          replace h2 := of_decide_eq_true h2
          exact ih e.on h2 (by omega)
      rw [hr] at hm
      cases hm

theorem count_set : ∀ (l : List Bool) (i : Nat), l[i]? = some false → (l.set i true).count false + 1 = l.count false
  | [], i, h => by simp at h
  | b :: l, 0, h => by simp at h; subst h; simp
  | b :: l, i + 1, h => by
    have := count_set l i (by simpa using h)
    cases b <;> simp <;> omega

theorem wpAny_inv {P : Program} {ops : Array Oper} {Q : Exit → Act → World → Prop} (I : (Nat → Bool) → Act → World → Prop) (hord : orderedOps ops = true)
    (hstep : ∀ (L : Nat → Bool) (a : Act) (w : World) (i : Nat) (o : Oper), ops[i]? = some o → I L a w → L i = false → (∀ e ∈ o.after, Region.binds .any e = true → L e.on = true) → wpOp P ops Q i (I (upd L i)) a w)
    (hdone : ∀ (L : Nat → Bool) (a : Act) (w : World), (∀ i, i < ops.size → L i = true) → I L a w → Q .normal a w) :
    ∀ (fuel : Nat) (listed : Array Bool) (a : Act) (w : World), listed.size = ops.size → listed.toList.count false = fuel → I (fun j => listed.getD j false) a w → wpAny P .any ops Q fuel listed a w := by
  intro fuel
  induction fuel with
  | zero =>
    intro listed a w hs hc hI
    have hall : ∀ i, i < ops.size → listed.getD i false = true := by
      intro i hi
      have hi' : i < listed.size := by omega
      cases hl : listed.getD i false with
      | true => rfl
      | false =>
        exfalso
        have h0 : false ∉ listed.toList := List.count_eq_zero.1 hc
        apply h0
        simp [hi'] at hl
        rw [← hl]
        simp
    refine ⟨?_, hdone _ _ _ hall hI⟩
    cases hr : Region.ready .any ops listed with
    | nil => rfl
    | cons i rs =>
      exfalso
      have hm : i ∈ Region.ready .any ops listed := by rw [hr]; exact List.mem_cons_self
      obtain ⟨h1, o, ho, _⟩ := mem_ready.1 hm
      have hi : i < ops.size := (Array.getElem?_eq_some_iff.1 ho).1
      have hi' : i < listed.size := by omega
      have h2 := hall i hi
      simp [hi'] at h1 h2
      rw [h1] at h2
      cases h2
  | succ fuel ih =>
    intro listed a w hs hc hI
    refine ⟨fun hr => hdone _ _ _ (all_listed hord hs hr) hI, fun i hi => ?_⟩
    obtain ⟨h1, o, ho, hall⟩ := mem_ready.1 hi
    have hi0 : i < ops.size := (Array.getElem?_eq_some_iff.1 ho).1
    have hi' : i < listed.size := by omega
    have hlf : listed.getD i false = false := by simp [hi'] at h1 ⊢; exact h1
    refine wpOp_mono (fun a' w' hK => ih (listed.setIfInBounds i true) a' w' (by simp [hs]) ?_ ?_) (hstep _ a w i o ho hI hlf hall)
    · have h3 : listed.toList[i]? = some false := by
        simp [hi'] at h1 ⊢
        exact h1
      have := count_set listed.toList i h3
      rw [Array.toList_setIfInBounds]
      omega
    · have e : (fun j => (listed.setIfInBounds i true).getD j false) = upd (fun j => listed.getD j false) i := by
        funext j
        by_cases hj : j = i
        · subst hj
          rw [upd_self]
          simp [hi']
        · rw [upd_other _ hj]
          simp [Array.getElem?_setIfInBounds_ne (Ne.symm hj)]
      rw [e]
      exact hK

/-- A region that draws its order, by an invariant. -/
theorem wp_region_inv {P : Program} {ops : Array Oper} {Q : Exit → Act → World → Prop} {id : Nat} {a : Act} {w : World} (hm : P.follows .mixedOrders = true) (hord : orderedOps ops = true)
    (I : (Nat → Bool) → Act → World → Prop) (h0 : I (fun _ => false) a w.drew)
    (hstep : ∀ (L : Nat → Bool) (a : Act) (w : World) (i : Nat) (o : Oper), ops[i]? = some o → I L a w → L i = false → (∀ e ∈ o.after, Region.binds .any e = true → L e.on = true) → wpOp P ops Q i (I (upd L i)) a w)
    (hdone : ∀ (L : Nat → Bool) (a : Act) (w : World), (∀ i, i < ops.size → L i = true) → I L a w → Q .normal a w) : (Code.region id ops true).wp P Q a w := by
  refine wp_region_any hm (wpAny_inv I hord hstep hdone ops.size _ _ _ (by simp) (by simp) ?_)
  have e : (fun j => (Array.replicate ops.size false).getD j false) = fun _ => false := by
    funext j
    by_cases hj : j < ops.size
    · simp [hj]
    · simp [hj]
  rw [e]
  exact h0

theorem wp_region_inv0 {P : Program} {ops : Array Oper} {Q : Exit → Act → World → Prop} {id : Nat} {a : Act} {w : World} (hm : P.follows .mixedOrders = true) (hord : orderedOps ops = true)
    (I : Act → World → (Nat → Bool) → Act → World → Prop) (h0 : I a w (fun _ => false) a w.drew)
    (hstep : ∀ (L : Nat → Bool) (a' : Act) (W : World) (i : Nat) (o : Oper), ops[i]? = some o → I a w L a' W → L i = false → (∀ e ∈ o.after, Region.binds .any e = true → L e.on = true) → wpOp P ops Q i (I a w (upd L i)) a' W)
    (hdone : ∀ (L : Nat → Bool) (a' : Act) (W : World), (∀ i, i < ops.size → L i = true) → I a w L a' W → Q .normal a' W) : (Code.region id ops true).wp P Q a w :=
  wp_region_inv hm hord (I a w) h0 hstep hdone

/-- each operation of a list, with its number -/
def AllOps (p : Nat → Oper → Prop) : List Oper → Nat → Prop
  | [], _ => True
  | o :: r, i => p i o ∧ AllOps p r (i + 1)
theorem AllOps.get {p : Nat → Oper → Prop} : ∀ (l : List Oper) (k i : Nat) (o : Oper), AllOps p l k → l[i]? = some o → p (k + i) o
  | [], _, i, o, _, h => by simp at h
  | x :: l, k, 0, o, hp, h => by
    simp at h
    subst h
    exact hp.1
  | x :: l, k, i + 1, o, hp, h => by
    have := AllOps.get l (k + 1) i o hp.2 (by simpa using h)
    rw [show k + (i + 1) = k + 1 + i by omega]
    exact this
/-- the operations that one waits for -/
def depsOf (o : Oper) : List Nat := (o.after.toList.filter fun e => Region.binds .any e).map (·.on)
theorem wp_region_steps {P : Program} {ops : Array Oper} {Q : Exit → Act → World → Prop} {id : Nat} {a : Act} {w : World} (hm : P.follows .mixedOrders = true) (hord : orderedOps ops = true) (hng : (ops.toList.all fun o => o.guard.isNone) = true)
    (I : Act → World → (Nat → Bool) → Act → World → Prop) (h0 : I a w (fun _ => false) a w.drew)
    (hstep : AllOps (fun i o => ∀ (L : Nat → Bool) (a' : Act) (W : World), I a w L a' W → L i = false → (∀ j ∈ depsOf o, L j = true) → ∀ K : Act → World → Prop, (∀ a'' W', I a w (upd L i) a'' W' → K a'' W') → Oper.wp P o a' W K Q) ops.toList 0)
    (hdone : ∀ (L : Nat → Bool) (a' : Act) (W : World), (∀ i, i < ops.size → L i = true) → I a w L a' W → Q .normal a' W) : (Code.region id ops true).wp P Q a w := by
  refine wp_region_inv hm hord (I a w) h0 ?_ hdone
  intro L a' W i o ho hI hL hd
  refine wpOp_step ho (fun K hK => ?_)
  have ho' : ops.toList[i]? = some o := by simpa using ho
  have hg := List.all_eq_true.1 hng o (List.mem_of_getElem? ho')
  have hw : Region.wanted o (yielded ops a'.tmps) = true := by
    unfold Region.wanted
    cases h : o.guard with
    | none => rfl
    | some g => rw [h] at hg; cases hg
  rw [if_pos hw]
  have h := AllOps.get _ 0 i o hstep ho'
  rw [Nat.zero_add] at h
  refine h L a' W hI hL ?_ K hK
  intro j hj
  obtain ⟨e, he, rfl⟩ := List.mem_map.1 hj
  obtain ⟨he1, he2⟩ := List.mem_filter.1 he
  exact hd e (by simpa using he1) he2

/-- a block that the region makes: m: it is made, st: it is written -/
def Blk (n1 : Nat) (W : World) (T : TypeId) (m st : Bool) (u : Value) (B : Nat) (z v : Array Value) : Prop :=
  m = true → u = .pointer (some ⟨B, 0, none⟩) ∧ n1 ≤ B ∧ W.heap[B]? = some (.cells (if st = true then v else z) T (0, 0))
theorem Blk.lt {n1 : Nat} {W : World} {T : TypeId} {st : Bool} {u : Value} {B : Nat} {z v : Array Value} (h : Blk n1 W T true st u B z v) : B < W.heap.size := (Array.getElem?_eq_some_iff.1 (h rfl).2.2).1
theorem Blk.keep {n1 : Nat} {W W' : World} {T : TypeId} {m st : Bool} {u : Value} {B : Nat} {z v : Array Value} (h : Blk n1 W T m st u B z v) (hb : m = true → B < W.heap.size → W'.heap[B]? = W.heap[B]?) : Blk n1 W' T m st u B z v := by
  intro hm
  subst hm
  exact ⟨(h rfl).1, (h rfl).2.1, (hb rfl h.lt).trans (h rfl).2.2⟩
theorem Blk.raw {n1 : Nat} {W : World} {T : TypeId} {u : Value} {B : Nat} {z v : Array Value} (h : Blk n1 W T true false u B z v) : u = .pointer (some ⟨B, 0, none⟩) ∧ n1 ≤ B ∧ W.heap[B]? = some (.cells z T (0, 0)) := h rfl
theorem Blk.full {n1 : Nat} {W : World} {T : TypeId} {u : Value} {B : Nat} {z v : Array Value} (h : Blk n1 W T true true u B z v) : u = .pointer (some ⟨B, 0, none⟩) ∧ n1 ≤ B ∧ W.heap[B]? = some (.cells v T (0, 0)) := h rfl
/-- three blocks that a region makes and writes in whatever order -/
structure Inv3 (W0 W : World) (T : TypeId) (m1 m2 m3 t1 t2 t3 : Bool) (u1 u2 u3 : Value) (z v1 v2 v3 : Array Value) (B1 B2 B3 : Nat) : Prop where
  below : Below W0.heap.size W0 W
  b1 : Blk W0.heap.size W T m1 t1 u1 B1 z v1
  b2 : Blk W0.heap.size W T m2 t2 u2 B2 z v2
  b3 : Blk W0.heap.size W T m3 t3 u3 B3 z v3
  d12 : m1 = true → m2 = true → B1 ≠ B2
  d13 : m1 = true → m3 = true → B1 ≠ B3
  d23 : m2 = true → m3 = true → B2 ≠ B3
  s1 : t1 = true → m1 = true
  s2 : t2 = true → m2 = true
  s3 : t3 = true → m3 = true
section
variable {W0 W W' : World} {T : TypeId} {m1 m2 m3 t1 t2 t3 : Bool} {u1 u2 u3 : Value} {z v1 v2 v3 : Array Value} {B1 B2 B3 : Nat}
theorem Inv3.start (W0 : World) (T : TypeId) (u1 u2 u3 : Value) (z v1 v2 v3 : Array Value) : Inv3 W0 W0.drew T false false false false false false u1 u2 u3 z v1 v2 v3 0 0 0 :=
  ⟨(Below.refl _ _).drew, fun h => (by cases h), fun h => (by cases h), fun h => (by cases h), fun h => (by cases h), fun h => (by cases h), fun h => (by cases h), fun h => (by cases h), fun h => (by cases h), fun h => (by cases h)⟩
theorem Inv3.keep (h : Inv3 W0 W T m1 m2 m3 t1 t2 t3 u1 u2 u3 z v1 v2 v3 B1 B2 B3) (hb : Below W.heap.size W W') : Inv3 W0 W' T m1 m2 m3 t1 t2 t3 u1 u2 u3 z v1 v2 v3 B1 B2 B3 :=
  ⟨h.below.trans (hb.mono h.below.size), h.b1.keep (fun _ hl => hb.block _ hl), h.b2.keep (fun _ hl => hb.block _ hl), h.b3.keep (fun _ hl => hb.block _ hl), h.d12, h.d13, h.d23, h.s1, h.s2, h.s3⟩
theorem blk_new (h : Below W0.heap.size W0 W) (T : TypeId) (t : Bool) (z v : Array Value) (ht : t = false) : Blk W0.heap.size (W.alloc (.cells z T)) T true t (.pointer (some ⟨W.heap.size, 0, none⟩)) W.heap.size z v := by
  subst ht
  exact fun _ => ⟨rfl, h.size, heap_alloc_at W _⟩
theorem Inv3.alloc1 (h : Inv3 W0 W T false m2 m3 t1 t2 t3 u1 u2 u3 z v1 v2 v3 B1 B2 B3) : Inv3 W0 (W.alloc (.cells z T)) T true m2 m3 t1 t2 t3 (.pointer (some ⟨W.heap.size, 0, none⟩)) u2 u3 z v1 v2 v3 W.heap.size B2 B3 := by
  have hk := h.keep ((Below.refl W.heap.size W).alloc (Nat.le_refl _) (.cells z T))
  exact ⟨hk.below, blk_new h.below T t1 z v1 (by cases t1 with | false => rfl | true => exact absurd (h.s1 rfl) (by decide)), hk.b2, hk.b3, fun _ e => by subst e; have := h.b2.lt; omega, fun _ e => by subst e; have := h.b3.lt; omega, h.d23, fun _ => rfl, h.s2, h.s3⟩
theorem Inv3.alloc2 (h : Inv3 W0 W T m1 false m3 t1 t2 t3 u1 u2 u3 z v1 v2 v3 B1 B2 B3) : Inv3 W0 (W.alloc (.cells z T)) T m1 true m3 t1 t2 t3 u1 (.pointer (some ⟨W.heap.size, 0, none⟩)) u3 z v1 v2 v3 B1 W.heap.size B3 := by
  have hk := h.keep ((Below.refl W.heap.size W).alloc (Nat.le_refl _) (.cells z T))
  exact ⟨hk.below, hk.b1, blk_new h.below T t2 z v2 (by cases t2 with | false => rfl | true => exact absurd (h.s2 rfl) (by decide)), hk.b3, fun e _ => by subst e; have := h.b1.lt; omega, h.d13, fun _ e => by subst e; have := h.b3.lt; omega, h.s1, fun _ => rfl, h.s3⟩
theorem Inv3.alloc3 (h : Inv3 W0 W T m1 m2 false t1 t2 t3 u1 u2 u3 z v1 v2 v3 B1 B2 B3) : Inv3 W0 (W.alloc (.cells z T)) T m1 m2 true t1 t2 t3 u1 u2 (.pointer (some ⟨W.heap.size, 0, none⟩)) z v1 v2 v3 B1 B2 W.heap.size := by
  have hk := h.keep ((Below.refl W.heap.size W).alloc (Nat.le_refl _) (.cells z T))
  exact ⟨hk.below, hk.b1, hk.b2, blk_new h.below T t3 z v3 (by cases t3 with | false => rfl | true => exact absurd (h.s3 rfl) (by decide)), h.d12, fun e _ => by subst e; have := h.b1.lt; omega, fun e _ => by subst e; have := h.b2.lt; omega, h.s1, h.s2, fun _ => rfl⟩
/-- a world whose one block is turned -/
structure OneTurned (W W' : World) (B : Nat) (o : Obj) : Prop where
  os : W'.os = W.os
  tape : W'.tape = W.tape
  output : W'.output = W.output
  size : W'.heap.size = W.heap.size
  at_ : W'.heap[B]? = some o
  other : ∀ k, k ≠ B → W'.heap[k]? = W.heap[k]?
theorem OneTurned.below {B n : Nat} {o : Obj} (h : OneTurned W W' B o) (hn : n ≤ B) : Below n W W' := ⟨h.os, h.tape, h.output, Nat.le_of_eq h.size.symm, fun k hk => h.other k (by omega)⟩
theorem Inv3.store1 (h : Inv3 W0 W T true true true t1 t2 t3 u1 u2 u3 z v1 v2 v3 B1 B2 B3) (ht : OneTurned W W' B1 (.cells v1 T (0, 0))) : Inv3 W0 W' T true true true true t2 t3 u1 u2 u3 z v1 v2 v3 B1 B2 B3 :=
  ⟨h.below.trans (ht.below (h.b1 rfl).2.1), fun _ => ⟨(h.b1 rfl).1, (h.b1 rfl).2.1, ht.at_⟩, h.b2.keep (fun _ _ => ht.other _ (h.d12 rfl rfl).symm), h.b3.keep (fun _ _ => ht.other _ (h.d13 rfl rfl).symm), h.d12, h.d13, h.d23, fun _ => rfl, h.s2, h.s3⟩
theorem Inv3.store2 (h : Inv3 W0 W T true true true t1 t2 t3 u1 u2 u3 z v1 v2 v3 B1 B2 B3) (ht : OneTurned W W' B2 (.cells v2 T (0, 0))) : Inv3 W0 W' T true true true t1 true t3 u1 u2 u3 z v1 v2 v3 B1 B2 B3 :=
  ⟨h.below.trans (ht.below (h.b2 rfl).2.1), h.b1.keep (fun _ _ => ht.other _ (h.d12 rfl rfl)), fun _ => ⟨(h.b2 rfl).1, (h.b2 rfl).2.1, ht.at_⟩, h.b3.keep (fun _ _ => ht.other _ (h.d23 rfl rfl).symm), h.d12, h.d13, h.d23, h.s1, fun _ => rfl, h.s3⟩
theorem Inv3.store3 (h : Inv3 W0 W T true true true t1 t2 t3 u1 u2 u3 z v1 v2 v3 B1 B2 B3) (ht : OneTurned W W' B3 (.cells v3 T (0, 0))) : Inv3 W0 W' T true true true t1 t2 true u1 u2 u3 z v1 v2 v3 B1 B2 B3 :=
  ⟨h.below.trans (ht.below (h.b3 rfl).2.1), h.b1.keep (fun _ _ => ht.other _ (h.d13 rfl rfl)), h.b2.keep (fun _ _ => ht.other _ (h.d23 rfl rfl)), fun _ => ⟨(h.b3 rfl).1, (h.b3 rfl).2.1, ht.at_⟩, h.d12, h.d13, h.d23, h.s1, h.s2, fun _ => rfl⟩
theorem turned_set {W : World} {B : Nat} {A : Array Value} {T : TypeId} (h : W.heap[B]? = some (.cells A T (0, 0))) (i : Nat) (v : Value) : OneTurned W (W.setCell ⟨B, i, none⟩ v) B (.cells (A.setIfInBounds i v) T (0, 0)) :=
  ⟨rfl, rfl, rfl, by simp [World.setCell], setCell_heap_same h i v, fun k hk => Below.heap_setCell _ _ _ _ hk⟩
theorem turned_one {W : World} {B : Nat} {z : Value} {T : TypeId} (h : W.heap[B]? = some (.cells #[z] T (0, 0))) (v : Value) : OneTurned W (W.setCell ⟨B, 0, none⟩ v) B (.cells #[v] T (0, 0)) := turned_set h 0 v
theorem turned_three {W : World} {B : Nat} {z0 z1 z2 : Value} {T : TypeId} (h : W.heap[B]? = some (.cells #[z0, z1, z2] T (0, 0))) (v0 v1 v2 : Value) : OneTurned W (((W.setCell ⟨B, 0, none⟩ v0).setCell ⟨B, 1, none⟩ v1).setCell ⟨B, 2, none⟩ v2) B (.cells #[v0, v1, v2] T (0, 0)) := by
  have h1 : OneTurned W (W.setCell ⟨B, 0, none⟩ v0) B (.cells #[v0, z1, z2] T (0, 0)) := turned_set h 0 v0
  have k2 := turned_set h1.at_ 1 v1
  have h2 : OneTurned W ((W.setCell ⟨B, 0, none⟩ v0).setCell ⟨B, 1, none⟩ v1) B (.cells #[v0, v1, z2] T (0, 0)) := ⟨k2.os.trans h1.os, k2.tape.trans h1.tape, k2.output.trans h1.output, k2.size.trans h1.size, k2.at_, fun j hj => (k2.other j hj).trans (h1.other j hj)⟩
  have k3 := turned_set h2.at_ 2 v2
  exact ⟨k3.os.trans h2.os, k3.tape.trans h2.tape, k3.output.trans h2.output, k3.size.trans h2.size, k3.at_, fun j hj => (k3.other j hj).trans (h2.other j hj)⟩
theorem OneTurned.set {W W' : World} {B : Nat} {A : Array Value} {T : TypeId} (h : OneTurned W W' B (.cells A T (0, 0))) (i : Nat) (v : Value) : OneTurned W (W'.setCell ⟨B, i, none⟩ v) B (.cells (A.setIfInBounds i v) T (0, 0)) := by
  have k := turned_set h.at_ i v
  exact ⟨k.os.trans h.os, k.tape.trans h.tape, k.output.trans h.output, k.size.trans h.size, k.at_, fun j hj => (k.other j hj).trans (h.other j hj)⟩
end
theorem cellNext {w w' : World} (hb : Below w.heap.size w w') {p : Addr} {v : Value} (h : w.cell? p = some v) : w'.cell? p = some v := by
  refine (hb.cell ?_).trans h
  rcases Nat.lt_or_ge p.block w.heap.size with h' | h'
  · exact h'
  · exfalso
    unfold World.cell? at h
    rw [Array.getElem?_eq_none h'] at h
    cases h
end Go.Proofs.YtkaelmbgfcehhaaDoor
end

section
/- Numbers as lists of limbs: plain facts, no program in sight. -/
namespace Go.Proofs.YtkaelmbgfcehhaaDoor
set_option linter.unusedVariables false

/-- two to the 32 -/
abbrev B32 : Nat := 4294967296

def val : List Nat → Nat
  | [] => 0
  | x :: l => x + B32 * val l

theorem val_append : ∀ (xs ys : List Nat), val (xs ++ ys) = val xs + B32 ^ xs.length * val ys
  | [], ys => by simp [val]
  | x :: l, ys => by
    simp only [List.cons_append, val, val_append l ys, List.length_cons, Nat.pow_succ, Nat.mul_add]
    rw [Nat.mul_comm (B32 ^ l.length) B32, Nat.mul_assoc]; omega

theorem val_lt : ∀ (L : List Nat), (∀ x ∈ L, x < B32) → val L < B32 ^ L.length
  | [], _ => by simp [val]
  | x :: l, h => by
    have h1 := h x (by simp)
    have h2 := val_lt l (fun y hy => h y (by simp [hy]))
    simp only [val, List.length_cons, Nat.pow_succ]
    have h3 : B32 * (val l + 1) ≤ B32 * B32 ^ l.length := Nat.mul_le_mul_left _ h2
    rw [Nat.mul_comm (B32 ^ l.length)]
    rw [Nat.mul_add] at h3
    omega

theorem val_set : ∀ (L : List Nat) (i y : Nat) (h : i < L.length), val (L.set i y) + L[i] * B32 ^ i = val L + y * B32 ^ i
  | x :: l, 0, y, _ => by simp [val]; omega
  | x :: l, i + 1, y, h => by
    have ih := val_set l i y (by simpa using h)
    simp only [List.set_cons_succ, val, List.getElem_cons_succ, Nat.pow_succ]
    have e1 : l[i]'(by simpa using h) * (B32 ^ i * B32) = B32 * (l[i]'(by simpa using h) * B32 ^ i) := by
      rw [Nat.mul_comm (B32 ^ i) B32, ← Nat.mul_assoc, Nat.mul_comm _ B32, Nat.mul_assoc]
    have e2 : y * (B32 ^ i * B32) = B32 * (y * B32 ^ i) := by
      rw [Nat.mul_comm (B32 ^ i) B32, ← Nat.mul_assoc, Nat.mul_comm _ B32, Nat.mul_assoc]
    rw [e1, e2, Nat.add_assoc, ← Nat.mul_add, ih, Nat.mul_add, Nat.add_assoc]

theorem val_zeros : ∀ (n : Nat), val (List.replicate n 0) = 0
  | 0 => rfl
  | n + 1 => by simp [List.replicate_succ, val, val_zeros n]

/-- without noughts at the top -/
def trimL : List Nat → List Nat
  | [] => []
  | x :: l => if x = 0 ∧ trimL l = [] then [] else x :: trimL l

theorem trimL_snoc_zero : ∀ (l : List Nat), trimL (l ++ [0]) = trimL l
  | [] => by simp [trimL]
  | x :: l => by simp only [List.cons_append, trimL, trimL_snoc_zero l]
theorem trimL_snoc_pos (x : Nat) (hx : x ≠ 0) : ∀ (l : List Nat), trimL (l ++ [x]) = l ++ [x]
  | [] => by simp [trimL, hx]
  | y :: l => by simp [trimL, trimL_snoc_pos x hx l]
theorem trimL_prefix : ∀ (l : List Nat), trimL l = l.take (trimL l).length
  | [] => rfl
  | x :: l => by
    unfold trimL
    split
    · simp
    · simp [← trimL_prefix l]
theorem trimL_length_le (l : List Nat) : (trimL l).length ≤ l.length := by
  have := congrArg List.length (trimL_prefix l)
  simp at this; omega
theorem trimL_mem {l : List Nat} {x : Nat} (h : x ∈ trimL l) : x ∈ l := by
  rw [trimL_prefix] at h; exact List.mem_of_mem_take h
theorem val_trimL : ∀ (l : List Nat), val (trimL l) = val l
  | [] => rfl
  | x :: l => by
    unfold trimL
    split
    · rename_i h
      have := val_trimL l
      rw [h.2] at this
      simp [val, h.1, ← this]
    · simp [val, val_trimL l]

/-- the limbs of a number, the lowest first -/
def limbs (n : Nat) : List Nat := if h : n = 0 then [] else n % B32 :: limbs (n / B32)
termination_by n
decreasing_by exact Nat.div_lt_self (Nat.pos_of_ne_zero h) (by decide)

theorem limbs_zero : limbs 0 = [] := by unfold limbs; simp
theorem limbs_pos {n : Nat} (h : n ≠ 0) : limbs n = n % B32 :: limbs (n / B32) := by
  conv => lhs; unfold limbs
  simp [h]
theorem limbs_lt (n : Nat) : ∀ x ∈ limbs n, x < B32 := by
  induction n using Nat.strongRecOn with
  | _ n ih =>
    by_cases h : n = 0
    · subst h; simp [limbs_zero]
    · rw [limbs_pos h]
      intro x hx
      rcases List.mem_cons.1 hx with rfl | hx
      · exact Nat.mod_lt _ (by decide)
      · exact ih _ (Nat.div_lt_self (Nat.pos_of_ne_zero h) (by decide)) x hx
theorem val_limbs (n : Nat) : val (limbs n) = n := by
  induction n using Nat.strongRecOn with
  | _ n ih =>
    by_cases h : n = 0
    · subst h; simp [limbs_zero, val]
    · rw [limbs_pos h, val, ih _ (Nat.div_lt_self (Nat.pos_of_ne_zero h) (by decide))]
      exact Nat.mod_add_div n B32
theorem trimL_limbs : ∀ (l : List Nat), (∀ x ∈ l, x < B32) → trimL l = limbs (val l)
  | [], _ => by simp [trimL, val, limbs_zero]
  | x :: l, h => by
    have h1 := h x (by simp)
    have ih := trimL_limbs l (fun y hy => h y (by simp [hy]))
    have e1 : (x + B32 * val l) % B32 = x := by rw [Nat.add_mul_mod_self_left, Nat.mod_eq_of_lt h1]
    have e2 : (x + B32 * val l) / B32 = val l := by
      rw [Nat.add_mul_div_left _ _ (by decide), Nat.div_eq_of_lt h1]; omega
    by_cases hz : x + B32 * val l = 0
    · have hx : x = 0 := by omega
      have hv : val l = 0 := by have : B32 * val l = 0 := by omega
                                rcases Nat.mul_eq_zero.1 this with h | h; exact absurd h (by decide); exact h
      rw [hv, limbs_zero] at ih
      simp only [trimL, hx, ih, val, hv]
      simp [limbs_zero]
    · rw [val, limbs_pos hz, e1, e2]
      unfold trimL
      rw [if_neg, ih]
      intro hh
      rw [ih] at hh
      have : val (limbs (val l)) = 0 := by rw [hh.2]; rfl
      rw [val_limbs] at this
      rw [hh.1, this] at hz
      simp at hz
theorem limbs_length_le {n k : Nat} (h : n < B32 ^ k) : (limbs n).length ≤ k := by
  induction k generalizing n with
  | zero => have : n = 0 := by simpa using h
            subst this; simp [limbs_zero]
  | succ k ih =>
    by_cases hz : n = 0
    · subst hz; simp [limbs_zero]
    · rw [limbs_pos hz]
      have : n / B32 < B32 ^ k := by
        rw [Nat.div_lt_iff_lt_mul (by decide)]; rw [Nat.pow_succ] at h; exact h
      have := ih this
      simp; omega
theorem lt_of_limbs_length {n k : Nat} (h : (limbs n).length ≤ k) : n < B32 ^ k := by
  have := val_lt (limbs n) (limbs_lt n)
  rw [val_limbs] at this
  exact Nat.lt_of_lt_of_le this (Nat.pow_le_pow_right (by decide) h)
theorem limbs_last {n : Nat} (h : limbs n ≠ []) : (limbs n).getLast h ≠ 0 := by
  induction n using Nat.strongRecOn with
  | _ n ih =>
    have hz : n ≠ 0 := fun e => h (by rw [e, limbs_zero])
    by_cases hq : n / B32 = 0
    · have e : limbs n = [n % B32] := by rw [limbs_pos hz, hq, limbs_zero]
      have hm : n % B32 = n := Nat.mod_eq_of_lt (by
        rcases Nat.lt_or_ge n B32 with h | h
        · exact h
        · exact absurd hq (Nat.ne_of_gt (Nat.div_pos h (by decide))))
      simp only [e, List.getLast_singleton, hm]; exact hz
    · have hne : limbs (n / B32) ≠ [] := by rw [limbs_pos hq]; simp
      have e : limbs n = n % B32 :: limbs (n / B32) := limbs_pos hz
      simp only [e, List.getLast_cons hne]
      exact ih _ (Nat.div_lt_self (Nat.pos_of_ne_zero hz) (by decide)) hne
theorem limbs_eq_nil {n : Nat} : limbs n = [] ↔ n = 0 := by
  constructor
  · intro h; have := val_limbs n; rw [h] at this; exact this.symm
  · intro h; rw [h, limbs_zero]
theorem limbs_len_lt {x y : Nat} (h : (limbs x).length < (limbs y).length) : x < y := by
  rcases Nat.lt_or_ge x y with h1 | h1
  · exact h1
  · have h2 : x < B32 ^ (limbs x).length := lt_of_limbs_length (Nat.le_refl _)
    have h3 := limbs_length_le (Nat.lt_of_le_of_lt h1 h2)
    omega
theorem limbs_inj {x y : Nat} (h : limbs x = limbs y) : x = y := by rw [← val_limbs x, h, val_limbs]
/-- the first limb from the top that parts two lists decides -/
theorem val_lt_of_top {X Y : List Nat} (hX : ∀ x ∈ X, x < B32) (k : Nat) (h1 : k < X.length) (h2 : k < Y.length) (hd : X.drop (k + 1) = Y.drop (k + 1)) (hlt : X[k] < Y[k]) : val X < val Y := by
  have eX : X = X.take k ++ X[k] :: X.drop (k + 1) := by rw [← List.drop_eq_getElem_cons h1, List.take_append_drop]
  have eY : Y = Y.take k ++ Y[k] :: Y.drop (k + 1) := by rw [← List.drop_eq_getElem_cons h2, List.take_append_drop]
  have vX := congrArg val eX
  have vY := congrArg val eY
  rw [val_append] at vX vY
  simp only [val, List.length_take, Nat.min_eq_left (Nat.le_of_lt h1), Nat.min_eq_left (Nat.le_of_lt h2)] at vX vY
  have hb := val_lt (X.take k) (fun x hx => hX x (List.mem_of_mem_take hx))
  simp only [List.length_take, Nat.min_eq_left (Nat.le_of_lt h1)] at hb
  rw [hd] at vX
  have hm : B32 ^ k * (X[k] + 1) ≤ B32 ^ k * Y[k] := Nat.mul_le_mul_left _ hlt
  rw [vX, vY, Nat.mul_add, Nat.mul_add]
  rw [Nat.mul_add] at hm
  omega
theorem p2_le {a b : Nat} (h : a ≤ b) : (2 : Nat) ^ a ≤ 2 ^ b := Nat.pow_le_pow_right (by decide) h
theorem p2_lt {a b : Nat} (h : a < b) : (2 : Nat) ^ a < 2 ^ b := Nat.pow_lt_pow_right (by decide) h
theorem p10_le {a b : Nat} (h : a ≤ b) : (10 : Nat) ^ a ≤ 10 ^ b := Nat.pow_le_pow_right (by decide) h
theorem two_ten (k : Nat) : (2 : Nat) ^ k ≤ 10 ^ k := Nat.pow_le_pow_left (by decide) k
theorem b32_pow (k : Nat) : B32 ^ k = 2 ^ (32 * k) := by rw [show B32 = 2 ^ 32 by decide, ← Nat.pow_mul]
theorem thousand {i : Nat} (h : 0 < i) : (10 : Nat) ^ (3 * i) < 2 ^ (10 * i) := by
  rw [Nat.pow_mul, Nat.pow_mul]; exact Nat.pow_lt_pow_left (by decide) (by omega)
theorem tens {i : Nat} (h : 0 < i) : (10 : Nat) ^ (31 * i) < 2 ^ (103 * i) := by
  rw [Nat.pow_mul, Nat.pow_mul]; exact Nat.pow_lt_pow_left (by decide) (by omega)
end Go.Proofs.YtkaelmbgfcehhaaDoor
end

section
/- Package nat: lists of limbs in memory; trim, Clip, told, Valid. -/
namespace Go.Proofs.YtkaelmbgfcehhaaDoor
open Go.RowKit
set_option linter.unusedVariables false

/-- the slice a, cap holds these words -/
structure Lies (w : World) (a : Option Addr) (cap : Nat) (L : List Nat) : Prop where
  lt : ∀ x ∈ L, x < 4294967296
  le : L.length ≤ cap
  max : cap ≤ 9223372036854775807
  spot : ∀ x, a = some x → x.spot = none
  at_ : ∀ i (h : i < L.length), ∃ b off, a = some ⟨b, off, none⟩ ∧ w.cell? ⟨b, off + i, none⟩ = some (.int .u32 (L[i] : Nat))

theorem Lies.below {w w' : World} {a : Option Addr} {cap : Nat} {L : List Nat} (h : Lies w a cap L) (hb : Below w.heap.size w w') : Lies w' a cap L :=
  ⟨h.lt, h.le, h.max, h.spot, fun i hi => by
    obtain ⟨b, off, rfl, hc⟩ := h.at_ i hi
    exact ⟨b, off, rfl, (hb.cell (World.block_lt_of_cell? w _ hc)).trans hc⟩⟩
theorem Lies.take {w : World} {a : Option Addr} {cap : Nat} {L : List Nat} (h : Lies w a cap L) (k : Nat) : Lies w a cap (L.take k) :=
  ⟨fun x hx => h.lt x (List.mem_of_mem_take hx), by have := h.le; simp; omega, h.max, h.spot, fun i hi => by
    simp at hi
    obtain ⟨b, off, rfl, hc⟩ := h.at_ i (by omega)
    exact ⟨b, off, rfl, by rw [hc]; simp⟩⟩
theorem Lies.nil (w : World) (a : Option Addr) (cap : Nat) (h : cap ≤ 9223372036854775807) (hs : ∀ x, a = some x → x.spot = none) : Lies w a cap [] :=
  ⟨by simp, by simp, h, hs, by simp⟩
theorem Lies.clip {w : World} {a : Option Addr} {cap : Nat} {L : List Nat} (h : Lies w a cap L) : Lies w a L.length L :=
  ⟨h.lt, Nat.le_refl _, Nat.le_trans h.le h.max, h.spot, h.at_⟩

/-- a slice's length -/
def lenV : Value → Nat | .slice _ k _ => k | _ => 0

set_option maxHeartbeats 1000000 in
theorem trim_any (a : Option Addr) (cap : Nat) (L : List Nat) (w : World) (h : Lies w a cap L) :
    Calls Tryd.prog 91 #[.slice a L.length cap] w fun e w' => e = .returned (.slice a (trimL L).length cap) ∧ w = w' := by
  have hle := h.le
  have hmx := h.max
  have H := Lib.hid h
  clear h
  go_enter Tryd.func91, Tryd.ntmps91
  go_wp2
  go_loop [0] (fun v => ∃ k : Nat, k ≤ L.length ∧ v = .slice a k cap ∧ trimL (L.take k) = trimL L) lenV
  case atStart => exact ⟨L.length, Nat.le_refl _, rfl, by rw [List.take_length]⟩
  case round =>
    obtain ⟨k, hk, rfl, ht⟩ := hrel
    have HT := Lib.hid ht
    clear ht
    cases k with
    | zero =>
      go_wp2
      go_ret
      have e : (trimL L).length = 0 := by rw [← HT.out]; rfl
      exact ⟨by rw [e]; rfl, rfl⟩
    | succ k =>
      obtain ⟨b, off, rfl, hc⟩ := H.out.at_ k (by omega)
      have hsn : L.take (k + 1) = L.take k ++ [L[k]'(by omega)] := List.take_succ_eq_append_getElem (by omega)
      by_cases hz : L[k]'(by omega) = 0
      · rw [hz] at hc hsn
        have HT' : Hid (trimL (L.take k) = trimL L) := by rw [← HT.out, hsn]; exact (trimL_snoc_zero _).symm
        clear hsn hz HT
        have hc' : w.cell? ⟨b, off + k, none⟩ = some (.int .u32 0) := by simpa using hc
        clear hc
        go_wp2
        go_round
        case rel => exact ⟨k, by omega, rfl, HT'.out⟩
        case measure => simp [lenV]
      · have e : Hid ((trimL L).length = k + 1) := by
          show (trimL L).length = k + 1
          rw [← HT.out, hsn, trimL_snoc_pos _ hz]; rw [← hsn, List.length_take]; exact Nat.min_eq_left hk
        generalize L[k]'(by omega) = x at *
        have hx : ((x : Int) == 0) = false := by simp; omega
        clear hsn hz HT
        go_wp2
        go_ret
        exact ⟨by rw [e.out]; rfl, rfl⟩

theorem clip_any (a : Option Addr) (len cap : Nat) (w : World) (h : len ≤ cap) :
    Calls Tryd.prog 77 #[.slice a len cap] w fun e w' => e = .returned (.slice a len len) ∧ w = w' := by
  go_enter Tryd.func77, Tryd.ntmps77
  go_wp2
  go_ret
  exact ⟨rfl, rfl⟩

theorem told_any (a : Option Addr) (cap : Nat) (L : List Nat) (w : World) (h : Lies w a cap L) (hl : (trimL L).length ≤ 256) :
    Calls Tryd.prog 79 #[.slice a L.length cap] w fun e w' => e = .returned (.tuple #[.slice a (trimL L).length (trimL L).length, .int .i64 0]) ∧ w = w' := by
  have H := Lib.hid h
  have h1 := trimL_length_le L
  have h2 := h.le
  clear h
  go_enter Tryd.func79, Tryd.ntmps79
  go_wp2_with fail
  refine (trim_any a cap L _ H.out).mono ?_
  rintro e w1 ⟨rfl, rfl⟩
  go_wp2_with fail
  refine (clip_any a _ cap _ (by omega)).mono ?_
  rintro e w1 ⟨rfl, rfl⟩
  go_wp2_with fail
  go_ret2
  exact ⟨rfl, rfl⟩

set_option maxRecDepth 100000 in
theorem valid_any (a : Option Addr) (cap : Nat) (n : Nat) (w : World) (h : Lies w a cap (limbs n)) (hl : (limbs n).length ≤ 256) :
    Calls Tryd.prog 78 #[.slice a (limbs n).length cap] w fun e w' => e = .returned (.bool true) ∧ w = w' := by
  by_cases hn : n = 0
  · have e : (limbs n).length = 0 := by rw [hn, limbs_zero]; rfl
    rw [e]
    clear e h hl hn
    go_enter Tryd.func78, Tryd.ntmps78
    go_wp2
    go_ret
    exact ⟨rfl, rfl⟩
  · have hne : limbs n ≠ [] := fun e => hn (limbs_eq_nil.1 e)
    have hlast := limbs_last hne
    have hpos : 0 < (limbs n).length := List.length_pos_iff.2 hne
    obtain ⟨b, off, rfl, hc⟩ := h.at_ ((limbs n).length - 1) (by omega)
    rw [← List.getLast_eq_getElem hne] at hc
    generalize (limbs n).getLast hne = x at *
    generalize (limbs n).length = k at *
    have hx : ((x : Int) != 0) = true := by simp; omega
    have hk : ((k : Int) == 0) = false := by simp; omega
    obtain ⟨j, rfl⟩ : ∃ j, k = j + 1 := ⟨k - 1, by omega⟩
    have hc' : w.cell? ⟨b, off + j, none⟩ = some (.int .u32 x) := by simpa using hc
    clear hc h hlast
    go_enter Tryd.func78, Tryd.ntmps78
    go_wp2
    go_ret
    exact ⟨rfl, rfl⟩
end Go.Proofs.YtkaelmbgfcehhaaDoor
end

section
/- Package nat: From, Cmp. -/
namespace Go.Proofs.YtkaelmbgfcehhaaDoor
open Go.RowKit
set_option linter.unusedVariables false

theorem From_any (n : Nat) (hn : n < 18446744073709551616) (w : World) :
    Calls Tryd.prog 80 #[.int .u64 n] w fun e w' => ∃ a cap, e = .returned (.slice a (limbs n).length cap) ∧ Lies w' a cap (limbs n) ∧ Below w.heap.size w w' := by
  go_enter Tryd.func80, Tryd.ntmps80
  go_wp2_with fail
  have h1 : ((n : Int) % 4294967296) = ((n % 4294967296 : Nat) : Int) := by omega
  have h2 : ((n : Int) / 4294967296) = ((n / 4294967296 : Nat) : Int) := by omega
  rw [h1, h2]
  have hl : Lies (w.alloc (.cells #[.int .u32 (n % 4294967296 : Nat), .int .u32 (n / 4294967296 : Nat)] 95)) (some ⟨w.heap.size, 0, none⟩) 2 [n % 4294967296, n / 4294967296] :=
    ⟨by simp; omega, by simp, by omega, by simp, fun i hi => ⟨w.heap.size, 0, rfl, by
      match i, hi with
      | 0, _ => simp [go_sem]
      | 1, _ => simp [go_sem]⟩⟩
  have hv : trimL [n % 4294967296, n / 4294967296] = limbs n := by
    rw [trimL_limbs _ hl.lt]
    congr 1
    simp only [val, B32]; omega
  have ht := trim_any _ _ _ _ hl
  simp only [List.length_cons, List.length_nil] at ht
  rw [hv] at ht
  refine ht.mono ?_
  rintro e w1 ⟨rfl, rfl⟩
  have hl2 := hl.take (limbs n).length
  rw [← hv, ← trimL_prefix, hv] at hl2
  clear ht hv h1 h2
  have HL := Lib.hid hl2
  clear hl2 hl
  go_wp2_with fail
  go_ret
  exact ⟨_, _, rfl, HL.out, (Below.refl _ _).alloc (Nat.le_refl _) _⟩

/-- the order of two numbers -/
def cmpN (x y : Nat) : Int := if x < y then -1 else if x = y then 0 else 1

set_option maxHeartbeats 1000000 in
theorem Cmp_any (a : Option Addr) (ca : Nat) (x : Nat) (b : Option Addr) (cb : Nat) (y : Nat) (w : World) (ha : Lies w a ca (limbs x)) (hb : Lies w b cb (limbs y)) :
    Calls Tryd.prog 95 #[.slice a (limbs x).length ca, .slice b (limbs y).length cb] w fun e w' => e = .returned (.int .i64 (cmpN x y)) ∧ Below w.heap.size w w' := by
  have h1 := ha.le; have h2 := ha.max; have h3 := hb.le; have h4 := hb.max
  have HA := Lib.hid ha; have HB := Lib.hid hb
  clear ha hb
  by_cases hl : (limbs x).length = (limbs y).length
  · have hne : (((limbs x).length : Int) != ((limbs y).length : Int)) = false := by simp [hl]
    have HL := Lib.hid hl
    have HX := Lib.hid (limbs_lt x); have HY := Lib.hid (limbs_lt y)
    have e1 : Hid (val (limbs x) = x) := val_limbs x
    have e2 : Hid (val (limbs y) = y) := val_limbs y
    clear hl
    generalize hLX : limbs x = X at *
    generalize hLY : limbs y = Y at *
    have HLX := Lib.hid hLX; have HLY := Lib.hid hLY
    clear hLX hLY
    go_enter Tryd.func95, Tryd.ntmps95
    go_wp2_with fail
    go_loopw [5] (fun i wr => ∃ k : Nat, k ≤ X.length ∧ i = .int .i64 ((k : Int) - 1) ∧ X.drop k = Y.drop k ∧ Below w.heap.size w wr) (fun i _ => (intOf i + 1).toNat)
    case atStart => exact ⟨X.length, Nat.le_refl _, rfl, by rw [List.drop_length, HL.out, List.drop_length], Below.refl _ _⟩
    case round =>
      obtain ⟨k, hk, rfl, hd, hbw⟩ := hrel
      have HD := Lib.hid hd
      have BW := Lib.hid hbw
      clear hd hbw
      cases k with
      | zero =>
        go_wp2_with fail
        go_ret
        have e : X = Y := by simpa using HD.out
        have e' : x = y := by rw [← e1.out, ← e2.out, e]
        exact ⟨by rw [show cmpN x y = 0 by simp [cmpN, e']]; rfl, BW.out⟩
      | succ k =>
        have hkY : k < Y.length := by have := HL.out; omega
        obtain ⟨ba, oa, rfl, hca⟩ := HA.out.at_ k (by omega)
        obtain ⟨bb, ob, rfl, hcb⟩ := HB.out.at_ k hkY
        have hca' := (BW.out.cell (World.block_lt_of_cell? w _ hca)).trans hca
        have hcb' := (BW.out.cell (World.block_lt_of_cell? w _ hcb)).trans hcb
        clear hca hcb
        have i0 : (0 : Int) ≤ (k : Int) := Int.natCast_nonneg _
        have i1 : (k : Int) < (X.length : Int) := by omega
        have i2 : (k : Int) < (Y.length : Int) := by omega
        by_cases hq : X[k] = Y[k]
        · have HD' : Hid (X.drop k = Y.drop k) := by
            show X.drop k = Y.drop k
            rw [List.drop_eq_getElem_cons (show k < X.length by omega), List.drop_eq_getElem_cons hkY, hq, HD.out]
          have hb1 : ((X[k] : Int) != (Y[k] : Int)) = false := by simp [hq]
          clear hq HD
          generalize X[k] = xk at *
          generalize Y[k] = yk at *
          go_wp2_with fail
          go_quiet (fail)
          go_wp2_with fail
          go_roundw
          case rel => exact ⟨k, by omega, rfl, HD'.out, BW.out.drewN _⟩
          case measure => simp [intOf]
        · have hb1 : ((X[k] : Int) != (Y[k] : Int)) = true := by simp; omega
          by_cases hlt : X[k] < Y[k]
          · have hb2 : ((X[k] : Int) < (Y[k] : Int)) := by omega
            have hr : Hid (cmpN x y = -1) := by
              show cmpN x y = -1
              have := val_lt_of_top HX.out k (by omega) hkY HD.out hlt
              rw [e1.out, e2.out] at this
              simp [cmpN, this]
            clear hq HD hlt
            generalize X[k] = xk at *
            generalize Y[k] = yk at *
            go_wp2_with fail
            go_quiet (fail)
            go_wp2_with fail
            go_quiet (fail)
            go_wp2_with fail
            go_ret
            exact ⟨by rw [hr.out]; rfl, (BW.out.drewN _).drewN _⟩
          · have hb2 : ¬ ((X[k] : Int) < (Y[k] : Int)) := by omega
            have hb3 : decide ((X[k] : Int) < (Y[k] : Int)) = false := by simp; omega
            have hr : Hid (cmpN x y = 1) := by
              show cmpN x y = 1
              have := val_lt_of_top HY.out k hkY (by omega) HD.out.symm (by omega)
              rw [e1.out, e2.out] at this
              simp only [cmpN]
              rw [if_neg (by omega), if_neg (by omega)]
            clear hq HD hlt
            generalize X[k] = xk at *
            generalize Y[k] = yk at *
            go_wp2_with fail
            go_quiet (fail)
            go_wp2_with fail
            go_quiet (fail)
            go_wp2_with fail
            go_ret
            exact ⟨by rw [hr.out]; rfl, (BW.out.drewN _).drewN _⟩
  · have hne : (((limbs x).length : Int) != ((limbs y).length : Int)) = true := by simp; omega
    by_cases hlt : (limbs x).length < (limbs y).length
    · have hr : Hid (cmpN x y = -1) := by
        show cmpN x y = -1
        simp [cmpN, limbs_len_lt hlt]
      clear hl
      generalize (limbs x).length = lx at *
      generalize (limbs y).length = ly at *
      clear HA HB
      go_enter Tryd.func95, Tryd.ntmps95
      go_wp2_with fail
      go_ret
      exact ⟨by rw [hr.out]; rfl, Below.refl _ _⟩
    · have hr : Hid (cmpN x y = 1) := by
        show cmpN x y = 1
        have := limbs_len_lt (x := y) (y := x) (by omega)
        simp only [cmpN]
        rw [if_neg (by omega), if_neg (by omega)]
      clear hl
      generalize (limbs x).length = lx at *
      generalize (limbs y).length = ly at *
      clear HA HB
      go_enter Tryd.func95, Tryd.ntmps95
      go_wp2_with fail
      go_ret
      exact ⟨by rw [hr.out]; rfl, Below.refl _ _⟩
end Go.Proofs.YtkaelmbgfcehhaaDoor
end

section
/- Rows of words that a call has made itself: made, appended to, written. -/
namespace Go.Proofs.YtkaelmbgfcehhaaDoor
open Go.RowKit
set_option linter.unusedVariables false

/-- words as cells -/
def cellsU (L : List Nat) : List Value := L.map fun n : Nat => Value.int .u32 (n : Int)

/-- v is a row of the call's own (from block base on) that holds these words -/
structure OwnU (w : World) (base : Nat) (v : Value) (L : List Nat) : Prop where
  lt : ∀ x ∈ L, x < B32
  own : w.ownsRow base 95 1 v L.length (cellsU L)

theorem infoU : (Tryd.prog.info? 95).map (fun i => (i.zero, i.size, i.bytes)) = some (some (.int .u32 0), 1, 4) := by kernel_rfl
theorem undU : Tryd.prog.underlying 87 = some (.slice 95) := by kernel_rfl

theorem cellsU_length (L : List Nat) : (cellsU L).length = L.length := by simp [cellsU]

theorem OwnU.nil (w : World) (base : Nat) : OwnU w base (.slice none 0 0) [] := ⟨by simp, World.ownsRow_nil w base _ _⟩

/-- where it lies -/
theorem OwnU.at_ {w : World} {base : Nat} {v : Value} {L : List Nat} (h : OwnU w base v L) :
    (v = .slice none 0 0 ∧ L = []) ∨ ∃ g cap cur, v = .slice (some ⟨g, 0, none⟩) L.length cap ∧ base ≤ g ∧ w.heap[g]? = some (.cells cur 95 (0, 0)) ∧ L.length ≤ cap ∧ cap ≤ 9223372036854775807 ∧ cur.size = cap ∧ cur.toList.take L.length = cellsU L := by
  obtain ⟨h1, h2⟩ := h
  obtain ⟨h3, h4⟩ := h2
  rcases h4 with ⟨rfl, hn⟩ | ⟨g, cap, cur, rfl, hb, hg, hl, hm, hs, ht⟩
  · exact .inl ⟨rfl, List.eq_nil_of_length_eq_zero hn⟩
  · exact .inr ⟨g, cap, cur, rfl, hb, hg, hl, by simpa [maxLen] using hm, by simpa using hs, by simpa using ht⟩

theorem cur_get {cur : Array Value} {L : List Nat} (ht : cur.toList.take L.length = cellsU L) (i : Nat) (h : i < L.length) : cur[i]? = some (.int .u32 (L[i] : Nat)) := by
  have e : (cur.toList.take L.length)[i]? = (cellsU L)[i]? := by rw [ht]
  rw [List.getElem?_take_of_lt h] at e
  simpa [cellsU, h] using e

theorem lies_of_row {w : World} {g cap : Nat} {cur : Array Value} {L : List Nat} (hlt : ∀ x ∈ L, x < B32) (hg : w.heap[g]? = some (.cells cur 95 (0, 0))) (hl : L.length ≤ cap) (hm : cap ≤ 9223372036854775807)
    (ht : cur.toList.take L.length = cellsU L) : Lies w (some ⟨g, 0, none⟩) cap L :=
  ⟨hlt, hl, hm, by simp, fun i hi => ⟨g, 0, rfl, by simp [World.cell?, hg, cur_get ht i hi]⟩⟩

theorem OwnU.lies {w : World} {base : Nat} {v : Value} {L : List Nat} (h : OwnU w base v L) : ∃ a cap, v = .slice a L.length cap ∧ Lies w a cap L := by
  rcases h.at_ with ⟨rfl, rfl⟩ | ⟨g, cap, cur, rfl, hb, hg, hl, hm, hs, ht⟩
  · exact ⟨none, 0, rfl, Lies.nil _ _ _ (by omega) (by simp)⟩
  · exact ⟨_, cap, rfl, lies_of_row h.lt hg hl hm ht⟩

/-- a row that is not nil, as a block -/
structure RowU (w : World) (g cap : Nat) (L : List Nat) : Prop where
  lt : ∀ x ∈ L, x < B32
  le : L.length ≤ cap
  max : cap ≤ 9223372036854775807
  row : ∃ cur, w.heap[g]? = some (.cells cur 95 (0, 0)) ∧ cur.size = cap ∧ cur.toList.take L.length = cellsU L

theorem RowU.lies {w : World} {g cap : Nat} {L : List Nat} (h : RowU w g cap L) : Lies w (some ⟨g, 0, none⟩) cap L := by
  obtain ⟨cur, hg, hs, ht⟩ := h.row
  exact lies_of_row h.lt hg h.le h.max ht
theorem RowU.ltg {w : World} {g cap : Nat} {L : List Nat} (h : RowU w g cap L) : g < w.heap.size := by
  obtain ⟨cur, hg, hs, ht⟩ := h.row
  exact lt_of_heap hg
theorem RowU.cell {w : World} {g cap : Nat} {L : List Nat} (h : RowU w g cap L) (i : Nat) (hi : i < L.length) : w.cell? ⟨g, i, none⟩ = some (.int .u32 (L[i] : Nat)) := by
  obtain ⟨b, off, e, hc⟩ := h.lies.at_ i hi
  cases e
  simpa using hc
theorem RowU.frozen {w : World} {g cap : Nat} {L : List Nat} (h : RowU w g cap L) (i : Nat) : w.frozen? ⟨g, i, none⟩ = false := by
  obtain ⟨cur, hg, hs, ht⟩ := h.row
  simp [World.frozen?, hg]
theorem RowU.keep {w w' : World} {g cap : Nat} {L : List Nat} (h : RowU w g cap L) (hk : w'.heap[g]? = w.heap[g]?) : RowU w' g cap L := by
  obtain ⟨cur, hg, hs, ht⟩ := h.row
  exact ⟨h.lt, h.le, h.max, cur, hk.trans hg, hs, ht⟩
theorem RowU.below {w w' : World} {g cap B : Nat} {L : List Nat} (h : RowU w g cap L) (hb : Below B w w') (hB : g < B) : RowU w' g cap L := h.keep (hb.block g hB)
theorem RowU.own {w : World} {g cap base : Nat} {L : List Nat} (h : RowU w g cap L) (hb : base ≤ g) : OwnU w base (.slice (some ⟨g, 0, none⟩) L.length cap) L := by
  obtain ⟨cur, hg, hs, ht⟩ := h.row
  exact ⟨h.lt, by simp [cellsU_length], .inr ⟨g, cap, cur, rfl, hb, hg, h.le, by simpa [maxLen] using h.max, by simpa using hs, by simpa using ht⟩⟩
theorem RowU.take {w : World} {g cap : Nat} {L : List Nat} (h : RowU w g cap L) (k : Nat) : RowU w g cap (L.take k) := by
  obtain ⟨cur, hg, hs, ht⟩ := h.row
  refine ⟨fun x hx => h.lt x (List.mem_of_mem_take hx), by have := h.le; simp; omega, h.max, cur, hg, hs, ?_⟩
  rw [cellsU, List.map_take, ← cellsU, ← ht, List.take_take, List.length_take]
theorem RowU.set {w : World} {g cap : Nat} {L : List Nat} (h : RowU w g cap L) (i y : Nat) (hi : i < L.length) (hy : y < B32) : RowU (w.setCell ⟨g, i, none⟩ (.int .u32 (y : Nat))) g cap (L.set i y) := by
  obtain ⟨cur, hg, hs, ht⟩ := h.row
  refine ⟨fun x hx => ?_, by simpa using h.le, h.max, _, setCell_heap_same hg i _, by simpa using hs, ?_⟩
  · rcases List.mem_or_eq_of_mem_set hx with hx | rfl
    · exact h.lt x hx
    · exact hy
  · rw [Array.toList_setIfInBounds, List.length_set, List.take_set, ht]
    simp [cellsU, List.map_set]

section
variable (w : World) {ops : Array Oper} {rest : List Oper} {o : Oper} {a : Act} {Q : Exit → Act → World → Prop}

/-- append of one word -/
theorem wpList_app1 (hg : o.guard = none) (s x : Operand) (ho : o.op = .call { callee := .builtin .append, args := #[s, x], argTypes := #[87, 87] })
    (base : Nat) (v : Value) (L : List Nat) (hs : a.eval s = v) (hown : OwnU w base v L) (p y : Nat) (hx : a.eval x = .slice (some ⟨p, 0, none⟩) 1 1) (hc : w.cell? ⟨p, 0, none⟩ = some (.int .u32 (y : Nat))) (hy : y < B32)
    (hbase : base ≤ w.heap.size) (hlen : L.length ≤ 1000000000)
    (hK : ∀ v' w', OwnU w' base v' (L ++ [y]) → w.grownBy w' v.ownBlock → wpList Tryd.prog ops Q rest (a.put o.dst v') w') : wpList Tryd.prog ops Q (o :: rest) a w := by
  obtain ⟨i0, hi, hz0, hz1, hz2⟩ := info_parts infoU
  refine wpList_append_own w hg s x 87 ho base 95 i0 (.int .u32 0) 1 4 undU hi hz0 hz1 hz2 rfl (by decide) v L.length (cellsU L) hs hown.own ⟨p, 0, none⟩ 1 1 [.int .u32 (y : Nat)] hx rfl ?_ ?_ ?_ ?_ hbase ?_
  · intro j u hj
    cases j with
    | zero => simp at hj; subst hj; simpa [Addr.add] using hc
    | succ j => simp at hj
  · simp [Value.oneCell']
  · simp [maxLen]; omega
  · omega
  · intro v' w' ho hgr _
    refine hK v' w' ⟨?_, ?_⟩ hgr
    · intro z hz
      rcases List.mem_append.1 hz with hz | hz
      · exact hown.lt z hz
      · simp at hz; subst hz; exact hy
    · have e : cellsU (L ++ [y]) = cellsU L ++ [.int .u32 (y : Nat)] := by simp [cellsU]
      rw [e]; simpa using ho

/-- make with room, without elements -/
theorem wpList_make0 (hg : o.guard = none) (l c : Operand) (ho : o.op = .makeSlice 87 l c) (base cap : Nat) (ci : Int) (hl : a.eval l = .int .i64 0) (hc : a.eval c = .int .i64 ci) (hci : ci = (cap : Int)) (hcap : cap ≤ 1000000000) (hbase : base ≤ w.heap.size)
    (hK : ∀ v' w', OwnU w' base v' [] → w.grownBy w' none → wpList Tryd.prog ops Q rest (a.put o.dst v') w') : wpList Tryd.prog ops Q (o :: rest) a w := by
  subst hci
  obtain ⟨i0, hi, hz0, hz1, hz2⟩ := info_parts infoU
  obtain ⟨w', hr, hw, hgr⟩ := run_make_own (P := Tryd.prog) w base 87 95 i0 (.int .u32 0) 1 undU hi hz0 hz1 .i64 .i64 cap (by rw [hz2]; omega) (by simp [maxLen]; omega) hbase
  refine wpList_plain hg fun K' hK' => ?_
  unfold Oper.wp
  simp [execOp, ho, hl, hc, hr, Result.andThen]
  exact hK' _ _ (hK _ w' ⟨by simp, hw⟩ hgr)

theorem madeCells_toList (n : Nat) : (madeCells (Value.int .u32 0).cells n).toList = cellsU (List.replicate n 0) := by
  apply List.ext_getElem
  · simp [size_madeCells, cellsU]
  · intro i h1 h2
    simp [madeCells, cellsU, Value.cells, Nat.mod_one]

/-- make of so many noughts -/
theorem wpList_make1 (hg : o.guard = none) (l c : Operand) (ho : o.op = .makeSlice 87 l c) (len cap : Nat) (li ci : Int) (hl : a.eval l = .int .i64 li) (hc : a.eval c = .int .i64 ci) (hli : li = (len : Int)) (hci : ci = (cap : Int)) (hlc : len ≤ cap) (hcap : cap ≤ 1000000000)
    (hK : ∀ w', RowU w' w.heap.size cap (List.replicate len 0) → Below w.heap.size w w' → wpList Tryd.prog ops Q rest (a.put o.dst (.slice (some ⟨w.heap.size, 0, none⟩) len cap)) w') : wpList Tryd.prog ops Q (o :: rest) a w := by
  subst hci hli
  obtain ⟨i0, hi, hz0, hz1, hz2⟩ := info_parts infoU
  have hr := run_make (P := Tryd.prog) w 87 95 i0 (.int .u32 0) undU hi hz0 .i64 .i64 (len : Nat) (cap : Nat) (by omega) (by omega) (by rw [hz2]; omega) (by omega)
  refine wpList_plain hg fun K' hK' => ?_
  unfold Oper.wp
  simp [execOp, ho, hl, hc, hr, Result.andThen]
  refine hK' _ _ (hK _ ⟨?_, by simpa using hlc, by omega, _, heap_alloc_at w _, ?_, ?_⟩ ((Below.refl _ _).alloc (Nat.le_refl _) _))
  · intro x hx; rw [List.eq_of_mem_replicate hx]; decide
  · rw [size_madeCells, hz1]; omega
  · rw [hz1, Nat.mul_one, madeCells_toList]
    simp only [cellsU, ← List.map_take, List.length_replicate, List.take_replicate]
    rw [Nat.min_eq_left hlc]
end

/-- slices.Clone of words -/
theorem Clone_any (s : Option Addr) (cap : Nat) (L : List Nat) (w : World) (h : Lies w s cap L) (hlen : L.length ≤ 1000000000) :
    Calls Tryd.prog 93 #[.slice s L.length cap] w fun e w' => ∃ v, e = .returned v ∧ OwnU w' w.heap.size v L ∧ Below w.heap.size w w' := by
  obtain ⟨i0, hi, hz0, hz1, hz2⟩ := info_parts infoU
  rcases s with _ | ⟨b, off, spot⟩
  · have hL : L = [] := by
      rcases L with _ | ⟨x, l⟩
      · rfl
      · obtain ⟨b, off, e, _⟩ := h.at_ 0 (by simp); cases e
    subst hL
    refine (Tryd.slices_Clone_nil 0 cap w).mono ?_
    rintro e w' ⟨rfl, rfl⟩
    exact ⟨_, rfl, OwnU.nil _ _, Below.refl _ _⟩
  · have hcell : ∀ j u, (cellsU L)[j]? = some u → w.cell? ⟨b, off + j, none⟩ = some u := by
      intro j u hj
      have hjl : j < L.length := by
        have := (List.getElem?_eq_some_iff.1 hj).1; simpa [cellsU] using this
      obtain ⟨b', off', e, hc⟩ := h.at_ j hjl
      cases e
      rw [hc, ← hj]; simp [cellsU, hjl]
    obtain rfl : spot = none := h.spot _ rfl
    refine (Tryd.slices_Clone i0 (.int .u32 0) 1 4 hi hz0 hz1 hz2 rfl (by decide) (fun w => by kernel_rfl) b off L.length cap (cellsU L) w (by simp [cellsU]) (by simp [maxLen]; omega) (by omega) hcell (by intro u hu; simp [cellsU] at hu; obtain ⟨n, _, rfl⟩ := hu; rfl)).mono ?_
    rintro e w' ⟨v, rfl, hown, _, hb⟩
    exact ⟨v, rfl, ⟨h.lt, hown⟩, hb⟩
end Go.Proofs.YtkaelmbgfcehhaaDoor
end

section
/- Package nat: Add. -/
namespace Go.Proofs.YtkaelmbgfcehhaaDoor
open Go.RowKit
set_option linter.unusedVariables false

/-- v is the list of the limbs of n -/
def NatV (w : World) (v : Value) (n : Nat) : Prop := ∃ a cap, v = .slice a (limbs n).length cap ∧ Lies w a cap (limbs n)
theorem NatV.below {w w' : World} {v : Value} {n : Nat} (h : NatV w v n) (hb : Below w.heap.size w w') : NatV w' v n := by
  obtain ⟨a, cap, rfl, hl⟩ := h; exact ⟨a, cap, rfl, hl.below hb⟩

theorem OwnU.alloc {w : World} {base : Nat} {v : Value} {L : List Nat} (h : OwnU w base v L) (o : Obj) : OwnU (w.alloc o) base v L := ⟨h.lt, h.own.alloc o⟩

theorem add_step2 {P Q out : List Nat} {k cr : Nat} (h1 : k < P.length) (h2 : k < Q.length) (ho : out.length = k) (hv : val out + cr * B32 ^ k = val (P.take k) + val (Q.take k)) :
    val (out ++ [(cr + P[k] + Q[k]) % B32]) + (cr + P[k] + Q[k]) / B32 * B32 ^ (k + 1) = val (P.take (k + 1)) + val (Q.take (k + 1)) := by
  rw [List.take_succ_eq_append_getElem h1, List.take_succ_eq_append_getElem h2, val_append, val_append, val_append]
  simp only [val, ho, List.length_take, Nat.min_eq_left (Nat.le_of_lt h1), Nat.min_eq_left (Nat.le_of_lt h2), Nat.pow_succ]
  have e := Nat.div_add_mod (cr + P[k] + Q[k]) B32
  generalize (cr + P[k] + Q[k]) / B32 = q at *
  generalize (cr + P[k] + Q[k]) % B32 = r at *
  have e2 : B32 ^ k * (B32 * q + r) = B32 ^ k * (cr + P[k] + Q[k]) := by rw [e]
  simp only [Nat.mul_add, Nat.mul_zero, Nat.add_zero] at e2 ⊢
  rw [Nat.mul_comm cr] at hv
  rw [show q * (B32 ^ k * B32) = B32 ^ k * (B32 * q) by rw [Nat.mul_comm q, Nat.mul_assoc]]
  omega
theorem add_step1 {P Q out : List Nat} {k cr : Nat} (h1 : k < P.length) (h2 : Q.length ≤ k) (ho : out.length = k) (hv : val out + cr * B32 ^ k = val (P.take k) + val (Q.take k)) :
    val (out ++ [(cr + P[k]) % B32]) + (cr + P[k]) / B32 * B32 ^ (k + 1) = val (P.take (k + 1)) + val (Q.take (k + 1)) := by
  rw [List.take_succ_eq_append_getElem h1, List.take_of_length_le (show Q.length ≤ k + 1 by omega), val_append, val_append]
  rw [List.take_of_length_le h2] at hv
  simp only [val, ho, List.length_take, Nat.min_eq_left (Nat.le_of_lt h1), Nat.pow_succ]
  have e := Nat.div_add_mod (cr + P[k]) B32
  generalize (cr + P[k]) / B32 = q at *
  generalize (cr + P[k]) % B32 = r at *
  have e2 : B32 ^ k * (B32 * q + r) = B32 ^ k * (cr + P[k]) := by rw [e]
  simp only [Nat.mul_add, Nat.mul_zero, Nat.add_zero] at e2 ⊢
  rw [Nat.mul_comm cr] at hv
  rw [show q * (B32 ^ k * B32) = B32 ^ k * (B32 * q) by rw [Nat.mul_comm q, Nat.mul_assoc]]
  omega

set_option maxRecDepth 100000 in
set_option maxHeartbeats 2000000 in
theorem Add_any (va vb : Value) (x y : Nat) (w : World) (hx : NatV w va x) (hy : NatV w vb y) (hX : (limbs x).length ≤ 256) (hY : (limbs y).length ≤ 256) (hF : (limbs (x + y)).length ≤ 256) :
    Calls Tryd.prog 98 #[va, vb] w fun e w' => ∃ v, e = .returned (.tuple #[v, .int .i64 0]) ∧ NatV w' v (x + y) ∧ Below w.heap.size w w' := by
  obtain ⟨a, ca, rfl, ha⟩ := hx
  obtain ⟨b, cb, rfl, hb⟩ := hy
  have V1 := Lib.hid (valid_any a ca x w ha hX)
  have V2 := Lib.hid (valid_any b cb y w hb hY)
  have HF := Lib.hid hF
  have vx : Hid (val (limbs x) = x) := val_limbs x
  have vy : Hid (val (limbs y) = y) := val_limbs y
  have h1 := ha.le; have h2 := hb.le
  have HA := Lib.hid ha; have HB := Lib.hid hb
  clear ha hb hF
  generalize limbs x = X at *
  generalize limbs y = Y at *
  go_enter Tryd.func98, Tryd.ntmps98
  go_wp2_with fail
  refine V1.out.mono ?_
  rintro e w1 ⟨rfl, rfl⟩
  go_wp2_with fail
  refine V2.out.mono ?_
  rintro e w1 ⟨rfl, rfl⟩
  clear V1 V2
  by_cases hlt : X.length < Y.length
  · have HP : Hid (Lies w b cb Y) := HB.out
    have HQ : Hid (Lies w a ca X) := HA.out
    clear HA HB
    obtain ⟨P, hP⟩ : ∃ P, P = Y := ⟨_, rfl⟩
    obtain ⟨Q, hQ⟩ : ∃ Q, Q = X := ⟨_, rfl⟩
    subst hP hQ

    go_wp2_with (at_make; (refine wpList_make0 _ rfl _ _ rfl w.heap.size (P.length + 1) _ rfl rfl (by simp) (by omega) (Nat.le_refl _) ?_); intro v0 w0 hown0 hgr0)
    have HO0 := Lib.hid hown0
    have HB0 := Lib.hid ((Below.refl w.heap.size w).grown hgr0 (Nat.le_refl _) (by simp))
    clear hown0 hgr0
    go_wp2_with fail
    go_loopw [6, 7, 31] (fun o c i wr => ∃ (k : Nat) (out : List Nat) (cr : Nat), k ≤ P.length ∧ i = .int .i64 k ∧ c = .int .u64 cr ∧ out.length = k ∧ cr ≤ 1 ∧ val out + cr * B32 ^ k = val (P.take k) + val (Q.take k) ∧ OwnU wr w.heap.size o out ∧ Below w.heap.size w wr) (fun _ _ i _ => P.length - (intOf i).toNat)
    case atStart => exact ⟨0, [], 0, Nat.zero_le _, rfl, rfl, rfl, by omega, by simp [val], HO0.out, HB0.out⟩
    case round =>
      obtain ⟨k, out, cr, hk, rfl, rfl, hol, hcr, hv, hown, hbw⟩ := hrel
      have HV := Lib.hid hv; have HO := Lib.hid hown; have BW := Lib.hid hbw; have HOL := Lib.hid hol
      have hBs := hbw.size
      clear hv hown hbw hol HO0 HB0
      by_cases hlt : k < P.length
      · obtain ⟨bp, op, rfl, hcp⟩ := HP.out.at_ k hlt
        have hcp' := (BW.out.cell (World.block_lt_of_cell? w _ hcp)).trans hcp
        have hxk : P[k] < 4294967296 := HP.out.lt _ (List.getElem_mem hlt)
        clear hcp
        by_cases hq : k < Q.length
        · obtain ⟨bq, oq, rfl, hcq⟩ := HQ.out.at_ k hq
          have hcq' := (BW.out.cell (World.block_lt_of_cell? w _ hcq)).trans hcq
          have hyk : Q[k] < 4294967296 := HQ.out.lt _ (List.getElem_mem hq)
          clear hcq
          obtain ⟨y, hy⟩ : ∃ y : Nat, y = (cr + P[k] + Q[k]) % B32 := ⟨_, rfl⟩
          obtain ⟨c2, hc2⟩ : ∃ c2 : Nat, c2 = (cr + P[k] + Q[k]) / B32 := ⟨_, rfl⟩
          have HS := Lib.hid (add_step2 hlt hq HOL.out HV.out)
          rw [← hy, ← hc2] at HS
          have ey : ((cr : Int) + P[k] + Q[k]) % 4294967296 = (y : Int) := by rw [hy, B32]; omega
          have ec : ((cr : Int) + P[k] + Q[k]) / 4294967296 = (c2 : Int) := by rw [hc2, B32]; omega
          have hyl : y < B32 := by rw [hy]; exact Nat.mod_lt _ (by decide)
          have hc2l : c2 ≤ 1 := by rw [hc2, B32]; omega
          have Hyl := Lib.hid hyl; have Hc2l := Lib.hid hc2l
          clear hy hc2 hyl hc2l
          generalize P[k] = xk at *
          generalize Q[k] = yk at *
          go_wp2_with (at_builtin; refine wpList_app1 _ rfl _ _ rfl w.heap.size _ out rfl (OwnU.alloc HO.out _) wr.heap.size y rfl (by simp [go_sem]) Hyl.out (by simp; omega) (by rw [HOL.out]; omega) ?_; intro v1 w1 hown1 hgr1)
          have HO1 := Lib.hid hown1
          have HB1 := Lib.hid ((BW.out.alloc hBs _).grown hgr1 (by simp; omega) (fun x hx => (HO.out.own.lt x hx).1))
          clear hown1 hgr1
          go_wp2_with fail
          go_roundw
          case rel => exact ⟨k + 1, out ++ [y], c2, by omega, by go_num, rfl, by simp [HOL.out], Hc2l.out, HS.out, HO1.out, HB1.out⟩
          case measure => simp [intOf]; omega
        · obtain ⟨y, hy⟩ : ∃ y : Nat, y = (cr + P[k]) % B32 := ⟨_, rfl⟩
          obtain ⟨c2, hc2⟩ : ∃ c2 : Nat, c2 = (cr + P[k]) / B32 := ⟨_, rfl⟩
          have HS := Lib.hid (add_step1 hlt (Nat.not_lt.1 hq) HOL.out HV.out)
          rw [← hy, ← hc2] at HS
          have ey : ((cr : Int) + P[k]) % 4294967296 = (y : Int) := by rw [hy, B32]; omega
          have ec : ((cr : Int) + P[k]) / 4294967296 = (c2 : Int) := by rw [hc2, B32]; omega
          have hyl : y < B32 := by rw [hy]; exact Nat.mod_lt _ (by decide)
          have hc2l : c2 ≤ 1 := by rw [hc2, B32]; omega
          have Hyl := Lib.hid hyl; have Hc2l := Lib.hid hc2l
          clear hy hc2 hyl hc2l
          generalize P[k] = xk at *
          go_wp2_with (at_builtin; refine wpList_app1 _ rfl _ _ rfl w.heap.size _ out rfl (OwnU.alloc HO.out _) wr.heap.size y rfl (by simp [go_sem]) Hyl.out (by simp; omega) (by rw [HOL.out]; omega) ?_; intro v1 w1 hown1 hgr1)
          have HO1 := Lib.hid hown1
          have HB1 := Lib.hid ((BW.out.alloc hBs _).grown hgr1 (by simp; omega) (fun x hx => (HO.out.own.lt x hx).1))
          clear hown1 hgr1
          go_wp2_with fail
          go_roundw
          case rel => exact ⟨k + 1, out ++ [y], c2, by omega, by go_num, rfl, by simp [HOL.out], Hc2l.out, HS.out, HO1.out, HB1.out⟩
          case measure => simp [intOf]; omega
      · obtain rfl : k = P.length := by omega
        have ey : ((cr : Int)) % 4294967296 = (cr : Int) := by omega
        go_wp2_with (at_builtin; refine wpList_app1 _ rfl _ _ rfl w.heap.size _ out rfl (OwnU.alloc HO.out _) wr.heap.size cr rfl (by simp [go_sem]) (by unfold B32; omega) (by simp; omega) (by rw [HOL.out]; omega) ?_; intro v1 w1 hown1 hgr1)
        have hvs : val (out ++ [cr]) = x + y := by
          rw [val_append, HOL.out]
          have := HV.out
          rw [List.take_length, List.take_of_length_le (by omega)] at this
          simp only [val, Nat.mul_zero, Nat.add_zero]
          rw [← vx.out, ← vy.out, Nat.add_comm (val Q), ← this]; rw [Nat.mul_comm (B32 ^ _)]
        have htr : trimL (out ++ [cr]) = limbs (x + y) := by rw [trimL_limbs _ hown1.lt, hvs]
        have HB1 := Lib.hid ((BW.out.alloc hBs _).grown hgr1 (by simp; omega) (fun x hx => (HO.out.own.lt x hx).1))
        obtain ⟨a1, cap1, rfl, hlies⟩ := hown1.lies
        have HT := Lib.hid (told_any a1 cap1 _ w1 hlies (by rw [htr]; exact HF.out))
        have HLf : Hid (Lies w1 a1 (limbs (x + y)).length (limbs (x + y))) := by
          have h1 := (hlies.take (trimL (out ++ [cr])).length)
          rw [← trimL_prefix] at h1
          rw [← htr]; exact h1.clip
        have HTR := Lib.hid htr
        clear hown1 hgr1 hvs hlies htr
        go_wp2_with fail
        refine HT.out.mono ?_
        rintro e w2 ⟨rfl, rfl⟩
        rw [HTR.out]
        go_wp2_with fail
        go_ret2
        exact ⟨_, rfl, ⟨_, _, rfl, HLf.out⟩, HB1.out⟩
  · have HP : Hid (Lies w a ca X) := HA.out
    have HQ : Hid (Lies w b cb Y) := HB.out
    clear HA HB
    obtain ⟨P, hP⟩ : ∃ P, P = X := ⟨_, rfl⟩
    obtain ⟨Q, hQ⟩ : ∃ Q, Q = Y := ⟨_, rfl⟩
    subst hP hQ

    go_wp2_with (at_make; (refine wpList_make0 _ rfl _ _ rfl w.heap.size (P.length + 1) _ rfl rfl (by simp) (by omega) (Nat.le_refl _) ?_); intro v0 w0 hown0 hgr0)
    have HO0 := Lib.hid hown0
    have HB0 := Lib.hid ((Below.refl w.heap.size w).grown hgr0 (Nat.le_refl _) (by simp))
    clear hown0 hgr0
    go_wp2_with fail
    go_loopw [6, 7, 31] (fun o c i wr => ∃ (k : Nat) (out : List Nat) (cr : Nat), k ≤ P.length ∧ i = .int .i64 k ∧ c = .int .u64 cr ∧ out.length = k ∧ cr ≤ 1 ∧ val out + cr * B32 ^ k = val (P.take k) + val (Q.take k) ∧ OwnU wr w.heap.size o out ∧ Below w.heap.size w wr) (fun _ _ i _ => P.length - (intOf i).toNat)
    case atStart => exact ⟨0, [], 0, Nat.zero_le _, rfl, rfl, rfl, by omega, by simp [val], HO0.out, HB0.out⟩
    case round =>
      obtain ⟨k, out, cr, hk, rfl, rfl, hol, hcr, hv, hown, hbw⟩ := hrel
      have HV := Lib.hid hv; have HO := Lib.hid hown; have BW := Lib.hid hbw; have HOL := Lib.hid hol
      have hBs := hbw.size
      clear hv hown hbw hol HO0 HB0
      by_cases hlt : k < P.length
      · obtain ⟨bp, op, rfl, hcp⟩ := HP.out.at_ k hlt
        have hcp' := (BW.out.cell (World.block_lt_of_cell? w _ hcp)).trans hcp
        have hxk : P[k] < 4294967296 := HP.out.lt _ (List.getElem_mem hlt)
        clear hcp
        by_cases hq : k < Q.length
        · obtain ⟨bq, oq, rfl, hcq⟩ := HQ.out.at_ k hq
          have hcq' := (BW.out.cell (World.block_lt_of_cell? w _ hcq)).trans hcq
          have hyk : Q[k] < 4294967296 := HQ.out.lt _ (List.getElem_mem hq)
          clear hcq
          obtain ⟨y, hy⟩ : ∃ y : Nat, y = (cr + P[k] + Q[k]) % B32 := ⟨_, rfl⟩
          obtain ⟨c2, hc2⟩ : ∃ c2 : Nat, c2 = (cr + P[k] + Q[k]) / B32 := ⟨_, rfl⟩
          have HS := Lib.hid (add_step2 hlt hq HOL.out HV.out)
          rw [← hy, ← hc2] at HS
          have ey : ((cr : Int) + P[k] + Q[k]) % 4294967296 = (y : Int) := by rw [hy, B32]; omega
          have ec : ((cr : Int) + P[k] + Q[k]) / 4294967296 = (c2 : Int) := by rw [hc2, B32]; omega
          have hyl : y < B32 := by rw [hy]; exact Nat.mod_lt _ (by decide)
          have hc2l : c2 ≤ 1 := by rw [hc2, B32]; omega
          have Hyl := Lib.hid hyl; have Hc2l := Lib.hid hc2l
          clear hy hc2 hyl hc2l
          generalize P[k] = xk at *
          generalize Q[k] = yk at *
          go_wp2_with (at_builtin; refine wpList_app1 _ rfl _ _ rfl w.heap.size _ out rfl (OwnU.alloc HO.out _) wr.heap.size y rfl (by simp [go_sem]) Hyl.out (by simp; omega) (by rw [HOL.out]; omega) ?_; intro v1 w1 hown1 hgr1)
          have HO1 := Lib.hid hown1
          have HB1 := Lib.hid ((BW.out.alloc hBs _).grown hgr1 (by simp; omega) (fun x hx => (HO.out.own.lt x hx).1))
          clear hown1 hgr1
          go_wp2_with fail
          go_roundw
          case rel => exact ⟨k + 1, out ++ [y], c2, by omega, by go_num, rfl, by simp [HOL.out], Hc2l.out, HS.out, HO1.out, HB1.out⟩
          case measure => simp [intOf]; omega
        · obtain ⟨y, hy⟩ : ∃ y : Nat, y = (cr + P[k]) % B32 := ⟨_, rfl⟩
          obtain ⟨c2, hc2⟩ : ∃ c2 : Nat, c2 = (cr + P[k]) / B32 := ⟨_, rfl⟩
          have HS := Lib.hid (add_step1 hlt (Nat.not_lt.1 hq) HOL.out HV.out)
          rw [← hy, ← hc2] at HS
          have ey : ((cr : Int) + P[k]) % 4294967296 = (y : Int) := by rw [hy, B32]; omega
          have ec : ((cr : Int) + P[k]) / 4294967296 = (c2 : Int) := by rw [hc2, B32]; omega
          have hyl : y < B32 := by rw [hy]; exact Nat.mod_lt _ (by decide)
          have hc2l : c2 ≤ 1 := by rw [hc2, B32]; omega
          have Hyl := Lib.hid hyl; have Hc2l := Lib.hid hc2l
          clear hy hc2 hyl hc2l
          generalize P[k] = xk at *
          go_wp2_with (at_builtin; refine wpList_app1 _ rfl _ _ rfl w.heap.size _ out rfl (OwnU.alloc HO.out _) wr.heap.size y rfl (by simp [go_sem]) Hyl.out (by simp; omega) (by rw [HOL.out]; omega) ?_; intro v1 w1 hown1 hgr1)
          have HO1 := Lib.hid hown1
          have HB1 := Lib.hid ((BW.out.alloc hBs _).grown hgr1 (by simp; omega) (fun x hx => (HO.out.own.lt x hx).1))
          clear hown1 hgr1
          go_wp2_with fail
          go_roundw
          case rel => exact ⟨k + 1, out ++ [y], c2, by omega, by go_num, rfl, by simp [HOL.out], Hc2l.out, HS.out, HO1.out, HB1.out⟩
          case measure => simp [intOf]; omega
      · obtain rfl : k = P.length := by omega
        have ey : ((cr : Int)) % 4294967296 = (cr : Int) := by omega
        go_wp2_with (at_builtin; refine wpList_app1 _ rfl _ _ rfl w.heap.size _ out rfl (OwnU.alloc HO.out _) wr.heap.size cr rfl (by simp [go_sem]) (by unfold B32; omega) (by simp; omega) (by rw [HOL.out]; omega) ?_; intro v1 w1 hown1 hgr1)
        have hvs : val (out ++ [cr]) = x + y := by
          rw [val_append, HOL.out]
          have := HV.out
          rw [List.take_length, List.take_of_length_le (by omega)] at this
          simp only [val, Nat.mul_zero, Nat.add_zero]
          rw [← vx.out, ← vy.out, ← this]; rw [Nat.mul_comm (B32 ^ _)]
        have htr : trimL (out ++ [cr]) = limbs (x + y) := by rw [trimL_limbs _ hown1.lt, hvs]
        have HB1 := Lib.hid ((BW.out.alloc hBs _).grown hgr1 (by simp; omega) (fun x hx => (HO.out.own.lt x hx).1))
        obtain ⟨a1, cap1, rfl, hlies⟩ := hown1.lies
        have HT := Lib.hid (told_any a1 cap1 _ w1 hlies (by rw [htr]; exact HF.out))
        have HLf : Hid (Lies w1 a1 (limbs (x + y)).length (limbs (x + y))) := by
          have h1 := (hlies.take (trimL (out ++ [cr])).length)
          rw [← trimL_prefix] at h1
          rw [← htr]; exact h1.clip
        have HTR := Lib.hid htr
        clear hown1 hgr1 hvs hlies htr
        go_wp2_with fail
        refine HT.out.mono ?_
        rintro e w2 ⟨rfl, rfl⟩
        rw [HTR.out]
        go_wp2_with fail
        go_ret2
        exact ⟨_, rfl, ⟨_, _, rfl, HLf.out⟩, HB1.out⟩
end Go.Proofs.YtkaelmbgfcehhaaDoor
end

section
/- Package nat: Mul. -/
namespace Go.Proofs.YtkaelmbgfcehhaaDoor
open Go.RowKit
set_option linter.unusedVariables false

theorem mul_step {out : List Nat} {k c p R : Nat} (hk : k < out.length) (h : val out + c * B32 ^ k = R) :
    val (out.set k ((c + (p + out[k])) % B32)) + (c + (p + out[k])) / B32 * B32 ^ (k + 1) = R + p * B32 ^ k := by
  have hs := val_set out k ((c + (p + out[k])) % B32) hk
  have e := Nat.div_add_mod (c + (p + out[k])) B32
  generalize val (out.set k ((c + (p + out[k])) % B32)) = v at *
  generalize (c + (p + out[k])) % B32 = r at *
  generalize (c + (p + out[k])) / B32 = q at *
  generalize out[k] = o at *
  have e2 : (B32 * q + r) * B32 ^ k = (c + (p + o)) * B32 ^ k := by rw [e]
  simp only [Nat.add_mul] at e2
  rw [Nat.pow_succ, show q * (B32 ^ k * B32) = B32 * q * B32 ^ k by rw [Nat.mul_comm (B32 ^ k), ← Nat.mul_assoc, Nat.mul_comm q]]
  generalize B32 ^ k = b at *
  generalize B32 * q * b = t1 at *
  omega

theorem val_take_snoc {Y : List Nat} {j : Nat} (h : j < Y.length) : val (Y.take (j + 1)) = val (Y.take j) + Y[j] * B32 ^ j := by
  rw [List.take_succ_eq_append_getElem h, val_append]
  simp only [val, List.length_take, Nat.min_eq_left (Nat.le_of_lt h), Nat.mul_zero, Nat.add_zero]
  rw [Nat.mul_comm]

set_option maxRecDepth 100000 in
set_option maxHeartbeats 4000000 in
theorem Mul_any (va vb : Value) (x y : Nat) (w : World) (hx : NatV w va x) (hy : NatV w vb y) (hX : (limbs x).length ≤ 256) (hY : (limbs y).length ≤ 256) (hF : (limbs (x * y)).length ≤ 256) :
    Calls Tryd.prog 66 #[va, vb] w fun e w' => ∃ v, e = .returned (.tuple #[v, .int .i64 0]) ∧ NatV w' v (x * y) ∧ Below w.heap.size w w' := by
  obtain ⟨a, ca, rfl, ha⟩ := hx
  obtain ⟨b, cb, rfl, hb⟩ := hy
  have V1 := Lib.hid (valid_any a ca x w ha hX)
  have V2 := Lib.hid (valid_any b cb y w hb hY)
  have HF := Lib.hid hF
  have vx : Hid (val (limbs x) = x) := val_limbs x
  have vy : Hid (val (limbs y) = y) := val_limbs y
  have h1 := ha.le; have h2 := hb.le
  have HA := Lib.hid ha; have HB := Lib.hid hb
  clear ha hb hF
  generalize limbs x = X at *
  generalize limbs y = Y at *
  go_enter Tryd.func66, Tryd.ntmps66
  go_wp2_with fail
  refine V1.out.mono ?_
  rintro e w1 ⟨rfl, rfl⟩
  go_wp2_with fail
  refine V2.out.mono ?_
  rintro e w1 ⟨rfl, rfl⟩
  clear V1 V2
  go_wp2_with (at_make; refine wpList_make1 _ rfl _ _ rfl (X.length + Y.length) (X.length + Y.length) _ _ rfl rfl (by simp) (by simp) (Nat.le_refl _) (by omega) ?_; intro w0 hrow hb0)
  have HR0 := Lib.hid hrow
  have HB0 := Lib.hid hb0
  clear hrow hb0
  go_wp2_with fail
  go_loopw [28] (fun i wr => ∃ (k : Nat) (out : List Nat), k ≤ X.length ∧ i = .int .i64 k ∧ out.length = X.length + Y.length ∧ val out = val (X.take k) * val Y ∧ (∀ t, k + Y.length ≤ t → out.getD t 0 = 0) ∧ RowU wr w.heap.size (X.length + Y.length) out ∧ Below w.heap.size w wr) (fun i _ => X.length - (intOf i).toNat)
  case atStart => exact ⟨0, List.replicate (X.length + Y.length) 0, Nat.zero_le _, rfl, by simp, by simp [val_zeros, val], fun t _ => by simp [List.getD, List.getElem?_replicate]; split <;> rfl, HR0.out, HB0.out⟩
  case round =>
    obtain ⟨k, out, hk, rfl, hol, hv, hz, hrow, hbw⟩ := hrel
    have HV := Lib.hid hv; have HR := Lib.hid hrow; have BW := Lib.hid hbw; have HOL := Lib.hid hol; have HZ := Lib.hid hz
    have hBs := hbw.size
    clear hv hrow hbw hol hz HR0 HB0
    obtain ⟨wo, rfl⟩ : ∃ wo : World, wo = wr := ⟨_, rfl⟩
    by_cases hlt : k < X.length
    · obtain ⟨ba, oa, rfl, hca⟩ := HA.out.at_ k hlt
      have hca' := (BW.out.cell (World.block_lt_of_cell? w _ hca)).trans hca
      have hxk : X[k] < 4294967296 := HA.out.lt _ (List.getElem_mem hlt)
      clear hca
      obtain ⟨xk, hxe⟩ : ∃ n, n = X[k] := ⟨_, rfl⟩
      rw [← hxe] at hca' hxk
      have HXE := Lib.hid hxe
      clear hxe
      go_wp2_with fail
      go_loopw [9, 35] (fun c i wr => ∃ (j : Nat) (o2 : List Nat) (cr : Nat), j ≤ Y.length ∧ i = .int .i64 j ∧ c = .int .u64 cr ∧ cr < 4294967296 ∧ o2.length = X.length + Y.length ∧ val o2 + cr * B32 ^ (k + j) = val (X.take k) * val Y + xk * val (Y.take j) * B32 ^ k ∧ (∀ t, k + Y.length ≤ t → o2.getD t 0 = 0) ∧ RowU wr w.heap.size (X.length + Y.length) o2 ∧ Below w.heap.size w wr) (fun _ i _ => Y.length - (intOf i).toNat)
      case atStart => exact ⟨0, out, 0, Nat.zero_le _, rfl, rfl, by omega, HOL.out, by simp [HV.out, val], HZ.out, HR.out, BW.out⟩
      case round =>
        obtain ⟨j, o2, cr, hj, rfl, rfl, hcr, hol2, hv2, hz2, hrow2, hbw2⟩ := hrel
        have HV2 := Lib.hid hv2; have HR2 := Lib.hid hrow2; have BW2 := Lib.hid hbw2; have HOL2 := Lib.hid hol2; have HZ2 := Lib.hid hz2
        have hBs2 := hbw2.size
        have hgl := hrow2.ltg
        clear hv2 hrow2 hbw2 hol2 hz2
        by_cases hjl : j < Y.length
        · obtain ⟨bb, ob, rfl, hcb⟩ := HB.out.at_ j hjl
          have hcb' := (BW2.out.cell (World.block_lt_of_cell? w _ hcb)).trans hcb
          have hyj : Y[j] < 4294967296 := HB.out.lt _ (List.getElem_mem hjl)
          have hkj : k + j < o2.length := by rw [HOL2.out]; omega
          have hco := HR2.out.cell (k + j) hkj
          have hfo := HR2.out.frozen (k + j)
          have hok : o2[k + j] < 4294967296 := HR2.out.lt _ (List.getElem_mem hkj)
          clear hcb
          obtain ⟨y', hy'⟩ : ∃ y' : Nat, y' = (cr + (xk * Y[j] + o2[k + j])) % B32 := ⟨_, rfl⟩
          obtain ⟨c2, hc2⟩ : ∃ c2 : Nat, c2 = (cr + (xk * Y[j] + o2[k + j])) / B32 := ⟨_, rfl⟩
          have hst := mul_step (p := xk * Y[j]) hkj HV2.out
          rw [← hy', ← hc2] at hst
          have HS : Hid (val (o2.set (k + j) y') + c2 * B32 ^ (k + (j + 1)) = val (X.take k) * val Y + xk * val (Y.take (j + 1)) * B32 ^ k) := by
            show val (o2.set (k + j) y') + c2 * B32 ^ (k + (j + 1)) = val (X.take k) * val Y + xk * val (Y.take (j + 1)) * B32 ^ k
            rw [← Nat.add_assoc, hst, val_take_snoc hjl, Nat.mul_add, Nat.add_mul, ← Nat.add_assoc, Nat.pow_add]
            congr 1
            ac_rfl
          have hprod : xk * Y[j] ≤ 18446744065119617025 := Nat.le_trans (Nat.mul_le_mul (show xk ≤ 4294967295 by omega) (show Y[j] ≤ 4294967295 by omega)) (by decide)
          obtain ⟨pr, hpr⟩ : ∃ pr : Nat, pr = xk * Y[j] := ⟨_, rfl⟩
          rw [← hpr] at hy' hc2 hprod
          have epr : (xk : Int) * (Y[j] : Int) = (pr : Int) := by rw [hpr]; simp
          have ey : ((cr : Int) + (pr + o2[k + j])) % 4294967296 = (y' : Int) := by rw [hy', B32]; omega
          have ec : ((cr : Int) + (pr + o2[k + j])) / 4294967296 = (c2 : Int) := by rw [hc2, B32]; omega
          have hyl : y' < B32 := by rw [hy']; exact Nat.mod_lt _ (by decide)
          have hc2l : c2 < 4294967296 := by rw [hc2, B32]; omega
          have Hyl := Lib.hid hyl; have Hc2l := Lib.hid hc2l
          have HR3 := Lib.hid (HR2.out.set (k + j) y' hkj hyl)
          have HZ3 : Hid (∀ t, k + Y.length ≤ t → (o2.set (k + j) y').getD t 0 = 0) := by
            intro t ht
            have := HZ2.out t ht
            simp only [List.getD] at this ⊢
            rw [List.getElem?_set_ne (by omega)]; exact this
          have HOL3 : Hid ((o2.set (k + j) y').length = X.length + Y.length) := by show (o2.set (k + j) y').length = _; simp [HOL2.out]
          clear hy' hc2 hyl hc2l hst hpr
          generalize Y[j] = yj at *
          generalize o2[k + j] = oo at *
          clear hkj
          go_wp2_with fail
          go_roundw
          case rel => exact ⟨j + 1, _, c2, by omega, by go_num, rfl, Hc2l.out, HOL3.out, HS.out, HZ3.out, HR3.out, BW2.out.setCell (Nat.le_refl _) _⟩
          case measure => simp [intOf]; omega
        · obtain rfl : j = Y.length := by omega
          have hkj : k + Y.length < o2.length := by rw [HOL2.out]; omega
          have hco := HR2.out.cell (k + Y.length) hkj
          have hfo := HR2.out.frozen (k + Y.length)
          have ey : ((cr : Int)) % 4294967296 = (cr : Int) := by omega
          have h0 : o2[k + Y.length] = 0 := by have := HZ2.out (k + Y.length) (Nat.le_refl _); simpa [List.getD, hkj] using this
          have hvs := val_set o2 (k + Y.length) cr hkj
          have HS : Hid (val (o2.set (k + Y.length) cr) = val (X.take (k + 1)) * val Y) := by
            show val (o2.set (k + Y.length) cr) = _
            rw [h0, Nat.zero_mul, Nat.add_zero, HV2.out, List.take_length] at hvs
            rw [hvs, val_take_snoc hlt, ← HXE.out, Nat.add_mul]
            congr 1
            ac_rfl
          have HR3 := Lib.hid (HR2.out.set (k + Y.length) cr hkj hcr)
          have HZ3 : Hid (∀ t, k + 1 + Y.length ≤ t → (o2.set (k + Y.length) cr).getD t 0 = 0) := by
            intro t ht
            have := HZ2.out t (by omega)
            simp only [List.getD] at this ⊢
            rw [List.getElem?_set_ne (by omega)]; exact this
          have HOL3 : Hid ((o2.set (k + Y.length) cr).length = X.length + Y.length) := by show (o2.set (k + Y.length) cr).length = _; simp [HOL2.out]
          clear hvs h0
          generalize o2[k + Y.length] = oo at *
          clear hkj
          go_wp2_with fail
          go_roundw
          case rel => exact ⟨k + 1, _, by omega, by go_num, HOL3.out, HS.out, HZ3.out, HR3.out, BW2.out.setCell (Nat.le_refl _) _⟩
          case measure => simp [intOf]; omega
    · obtain rfl : k = X.length := by omega
      have hlen := HOL.out
      have hvo : val out = x * y := by rw [HV.out, List.take_length, vx.out, vy.out]
      have htr : trimL out = limbs (x * y) := by rw [trimL_limbs _ HR.out.lt, hvo]
      have HT := Lib.hid (told_any (some ⟨w.heap.size, 0, none⟩) (X.length + Y.length) out wo HR.out.lies (by rw [htr]; exact HF.out))
      have HLf : Hid (Lies wo (some ⟨w.heap.size, 0, none⟩) (limbs (x * y)).length (limbs (x * y))) := by
        have h1 := (HR.out.lies.take (trimL out).length)
        rw [← trimL_prefix] at h1
        rw [← htr]; exact h1.clip
      rw [htr, hlen] at HT
      clear hlen hvo htr
      go_wp2_with fail
      refine HT.out.mono ?_
      rintro e w2 ⟨rfl, rfl⟩
      go_wp2_with fail
      go_ret2
      exact ⟨_, rfl, ⟨_, _, rfl, HLf.out⟩, BW.out⟩
end Go.Proofs.YtkaelmbgfcehhaaDoor
end

section
/- math/bits.Sub32, Div32; package nat: Bits, less, small. -/
namespace Go.Proofs.YtkaelmbgfcehhaaDoor
open Go.RowKit
set_option linter.unusedVariables false

theorem shr31_or (a b : Nat) : (a ||| b) / 2147483648 = (a / 2147483648) ||| (b / 2147483648) := by
  have := Nat.shiftRight_or_distrib (a := a) (b := b) (i := 31); simpa [Nat.shiftRight_eq_div_pow] using this
theorem shr31_and (a b : Nat) : (a &&& b) / 2147483648 = (a / 2147483648) &&& (b / 2147483648) := by
  have := Nat.shiftRight_and_distrib (a := a) (b := b) (i := 31); simpa [Nat.shiftRight_eq_div_pow] using this
theorem shr31_xor (a b : Nat) : (a ^^^ b) / 2147483648 = (a / 2147483648) ^^^ (b / 2147483648) := by
  have := Nat.shiftRight_xor_distrib (a := a) (b := b) (i := 31); simpa [Nat.shiftRight_eq_div_pow] using this

/-- what is borrowed -/
def borN (x y b : Nat) : Nat := if x < y + b then 1 else 0

theorem bor_bits (x y b d : Nat) (hx : x < 4294967296) (hy : y < 4294967296) (hb : b ≤ 1) (hd : d = (x + 8589934592 - y - b) % 4294967296) :
    (((4294967295 ^^^ x) &&& y) ||| ((4294967295 ^^^ (x ^^^ y)) &&& d)) / 2147483648 = borN x y b := by
  rw [shr31_or, shr31_and, shr31_and, shr31_xor, shr31_xor, shr31_xor]
  have h1 : x / 2147483648 = 0 ∨ x / 2147483648 = 1 := by omega
  have h2 : y / 2147483648 = 0 ∨ y / 2147483648 = 1 := by omega
  have hdl : d < 4294967296 := by omega
  have h3 : d / 2147483648 = 0 ∨ d / 2147483648 = 1 := by omega
  unfold borN
  rw [show 4294967295 / 2147483648 = 1 from rfl]
  rcases h1 with h1 | h1 <;> rcases h2 with h2 | h2 <;> rcases h3 with h3 | h3 <;> rw [h1, h2, h3] <;> split <;> first | rfl | (exfalso; omega)

theorem sub32_bits (x y b : Nat) (hx : x < 4294967296) (hy : y < 4294967296) (hb : b ≤ 1) :
    (bits .or .u32 (bits .and .u32 (bits .xor .u32 IntKind.u32.max (x : Int)) (y : Int)) (bits .and .u32 (bits .xor .u32 IntKind.u32.max (bits .xor .u32 (x : Int) (y : Int))) (((x : Int) - y - b) % 4294967296))) / 2147483648 = (borN x y b : Int) := by
  obtain ⟨d, hd⟩ : ∃ d, d = (x + 8589934592 - y - b) % 4294967296 := ⟨_, rfl⟩
  have e1 : ((x : Int) - y - b) % 4294967296 = (d : Int) := by omega
  have hdl : d < 4294967296 := by omega
  have hm : IntKind.u32.max = ((4294967295 : Nat) : Int) := by decide
  have l1 : x ^^^ y < 4294967296 := Nat.xor_lt_two_pow (n := 32) hx hy
  have l2 : 4294967295 ^^^ x < 4294967296 := Nat.xor_lt_two_pow (n := 32) (by decide) hx
  have l3 : 4294967295 ^^^ (x ^^^ y) < 4294967296 := Nat.xor_lt_two_pow (n := 32) (by decide) l1
  have l4 : (4294967295 ^^^ x) &&& y < 4294967296 := Nat.lt_of_le_of_lt Nat.and_le_right hy
  have l5 : (4294967295 ^^^ (x ^^^ y)) &&& d < 4294967296 := Nat.lt_of_le_of_lt Nat.and_le_right hdl
  rw [e1, hm, u32_xor_nat _ _ (by decide) hx, u32_and_nat _ _ l2 hy, u32_xor_nat _ _ hx hy, u32_xor_nat _ _ (by decide) l1, u32_and_nat _ _ l3 hdl, u32_or_nat _ _ l4 l5]
  have := bor_bits x y b d hx hy hb hd
  rw [← this]
  simp

theorem Sub32_any (x y b : Nat) (hx : x < 4294967296) (hy : y < 4294967296) (hb : b ≤ 1) (w : World) :
    Calls Tryd.prog 102 #[.int .u32 x, .int .u32 y, .int .u32 b] w fun e w' =>
      e = .returned (.tuple #[.int .u32 ((x + 8589934592 - y - b) % 4294967296 : Nat), .int .u32 (borN x y b : Nat)]) ∧ w = w' := by
  have hbits := Lib.hid (sub32_bits x y b hx hy hb)
  have hd : Hid (((x : Int) - y - b) % 4294967296 = (((x + 8589934592 - y - b) % 4294967296 : Nat) : Int)) := by
    show ((x : Int) - y - b) % 4294967296 = (((x + 8589934592 - y - b) % 4294967296 : Nat) : Int); omega
  go_enter Tryd.func102, Tryd.ntmps102
  go_wp2_with fail
  all_goals
    refine bodyPost_ret (v := .tuple #[.int .u32 ((x + 8589934592 - y - b) % 4294967296 : Nat), .int .u32 (borN x y b : Nat)]) ?_ rfl ⟨rfl, rfl⟩
    rw [← hbits.out, ← hd.out]
    simp [results, Tryd.results102, go_sem]

theorem Div32_any (hi lo y : Nat) (h1 : hi < y) (h2 : lo < 4294967296) (h3 : y < 4294967296) (w : World) :
    Calls Tryd.prog 101 #[.int .u32 hi, .int .u32 lo, .int .u32 y] w fun e w' =>
      e = .returned (.tuple #[.int .u32 ((hi * 4294967296 + lo) / y : Nat), .int .u32 ((hi * 4294967296 + lo) % y : Nat)]) ∧ Below w.heap.size w w' := by
  have e1 : ((y : Int) != 0) = true := by simp; omega
  have e2 : decide (y ≤ hi) = false := by simp; omega
  have e3 : decide ((y : Int) ≤ (hi : Int)) = false := by simp; omega
  obtain ⟨N, hN⟩ : ∃ N, N = hi * 4294967296 + lo := ⟨_, rfl⟩
  rw [← hN]
  have eo : bits .or .u64 ((hi : Int) * 4294967296) (lo : Int) = (N : Int) := by
    have := u64_or_nat (hi * 4294967296) lo (by omega) (by omega)
    rw [nat_join 32 _ _ (by omega) (by omega), ← hN] at this
    rw [← this]; simp
  have hNl : N < y * 4294967296 := by
    have : (hi + 1) * 4294967296 ≤ y * 4294967296 := Nat.mul_le_mul_right _ h1
    omega
  have hql : N / y < 4294967296 := Nat.div_lt_of_lt_mul hNl
  have hrl : N % y < 4294967296 := Nat.lt_trans (Nat.mod_lt _ (by omega)) h3
  obtain ⟨q, hq⟩ : ∃ q, q = N / y := ⟨_, rfl⟩
  obtain ⟨r, hr⟩ : ∃ r, r = N % y := ⟨_, rfl⟩
  rw [← hq, ← hr]
  have eq1 : ((N : Int) / (y : Int)) = (q : Int) := by rw [hq]; simp
  have eq2 : ((N : Int) % (y : Int)) = (r : Int) := by rw [hr]; simp
  have hqi : (q : Int) < 4294967296 := by omega
  have hri : (r : Int) < 4294967296 := by omega
  have hyp : (1 : Int) ≤ (y : Int) := by omega
  clear hN hq hr hNl hql hrl
  go_enter Tryd.func101, Tryd.ntmps101
  go_wp2_with fail
  go_quiet (fail)
  go_wp2_with fail
  go_ret2
  exact ⟨rfl, (Below.refl _ _).drewN _⟩

/-- how many bits a number has -/
def nbits (n : Nat) : Nat := if n = 0 then 0 else n.log2 + 1
theorem nbits_le {n k : Nat} : nbits n ≤ k ↔ n < 2 ^ k := by
  unfold nbits
  split
  · rename_i h; subst h; simp [Nat.pow_pos]
  · rename_i h; rw [← Nat.log2_lt h]; omega
theorem nbits_eq {n k : Nat} (h1 : n < 2 ^ k) (h2 : k = 0 ∨ 2 ^ (k - 1) ≤ n) : nbits n = k := by
  have a := nbits_le.2 h1
  rcases h2 with h2 | h2
  · omega
  · have : ¬ nbits n ≤ k - 1 := fun hh => absurd (nbits_le.1 hh) (by omega)
    omega
theorem bitLenAux_eq : ∀ (f x : Nat), x < 2 ^ f → Lib.bitLenAux f x = nbits x
  | 0, x, h => by have : x = 0 := by simpa using h
                  subst this; rfl
  | f + 1, x, h => by
    unfold Lib.bitLenAux
    split
    · rename_i h0; subst h0; rfl
    · rename_i h0
      rw [bitLenAux_eq f (x / 2) (by rw [Nat.pow_succ] at h; omega)]
      by_cases h1 : x / 2 = 0
      · have : x = 1 := by omega
        subst this; rfl
      · symm
        apply nbits_eq
        · have := (nbits_le (n := x / 2) (k := nbits (x / 2))).1 (Nat.le_refl _)
          rw [Nat.pow_add]; omega
        · right
          have hh : ¬ x / 2 < 2 ^ (nbits (x / 2) - 1) := fun hh => by
            have := nbits_le.2 hh
            have hp : 0 < nbits (x / 2) := by
              rcases Nat.eq_zero_or_pos (nbits (x / 2)) with h | h
              · exact absurd (nbits_le (k := 0)|>.1 (Nat.le_of_eq h)) (by simp; omega)
              · exact h
            omega
          have hp : 0 < nbits (x / 2) := by
            rcases Nat.eq_zero_or_pos (nbits (x / 2)) with h | h
            · exact absurd (nbits_le (k := 0)|>.1 (Nat.le_of_eq h)) (by simp; omega)
            · exact h
          obtain ⟨m, hm⟩ : ∃ m, nbits (x / 2) = m + 1 := ⟨nbits (x / 2) - 1, by omega⟩
          rw [hm] at hh ⊢
          simp only [Nat.add_sub_cancel] at hh
          rw [show 1 + (m + 1) - 1 = m + 1 by omega, Nat.pow_succ]; omega
theorem nbits_top {L : List Nat} {t : Nat} (hL : ∀ x ∈ L, x < B32) (ht : t ≠ 0) : nbits (val (L ++ [t])) = 32 * L.length + nbits t := by
  have hv : val (L ++ [t]) = val L + B32 ^ L.length * t := by rw [val_append]; simp [val]
  have hb := val_lt L hL
  have hB : B32 ^ L.length = 2 ^ (32 * L.length) := by rw [Nat.pow_mul]
  rw [hB] at hb hv
  have h1 := (nbits_le (n := t) (k := nbits t)).1 (Nat.le_refl _)
  have hp : 0 < nbits t := by unfold nbits; rw [if_neg ht]; omega
  have h2 : 2 ^ (nbits t - 1) ≤ t := by
    rcases Nat.lt_or_ge t (2 ^ (nbits t - 1)) with h | h
    · have := nbits_le.2 h; omega
    · exact h
  apply nbits_eq
  · rw [hv, Nat.pow_add]
    have : 2 ^ (32 * L.length) * (t + 1) ≤ 2 ^ (32 * L.length) * 2 ^ nbits t := Nat.mul_le_mul_left _ h1
    rw [Nat.mul_add] at this; omega
  · right
    rw [hv, show 32 * L.length + nbits t - 1 = 32 * L.length + (nbits t - 1) by omega, Nat.pow_add]
    have := Nat.mul_le_mul_left (2 ^ (32 * L.length)) h2
    omega

set_option maxRecDepth 100000 in
theorem Bits_any (a : Option Addr) (cap : Nat) (n : Nat) (w : World) (h : Lies w a cap (limbs n)) (hl : (limbs n).length ≤ 256) :
    Calls Tryd.prog 81 #[.slice a (limbs n).length cap] w fun e w' => e = .returned (.int .i64 (nbits n : Nat)) ∧ w = w' := by
  by_cases hn : n = 0
  · have e : (limbs n).length = 0 := by rw [hn, limbs_zero]; rfl
    rw [e, hn]
    clear e h hl hn
    go_enter Tryd.func81, Tryd.ntmps81
    go_wp2
    go_ret
    exact ⟨rfl, rfl⟩
  · have hne : limbs n ≠ [] := fun e => hn (limbs_eq_nil.1 e)
    have hlast := limbs_last hne
    have hpos : 0 < (limbs n).length := List.length_pos_iff.2 hne
    have hlle := h.le
    obtain ⟨b, off, rfl, hc⟩ := h.at_ ((limbs n).length - 1) (by omega)
    rw [← List.getLast_eq_getElem hne] at hc
    have hlt : (limbs n).getLast hne < 4294967296 := limbs_lt n _ (List.getLast_mem hne)
    have hnb : nbits n = 32 * ((limbs n).length - 1) + nbits ((limbs n).getLast hne) := by
      have e := List.dropLast_concat_getLast hne
      have := nbits_top (L := (limbs n).dropLast) (t := (limbs n).getLast hne) (fun x hx => limbs_lt n x (List.dropLast_subset _ hx)) hlast
      rw [e, val_limbs, List.length_dropLast] at this
      exact this
    have hbl : Lib.bitLen ((limbs n).getLast hne) = nbits ((limbs n).getLast hne) := bitLenAux_eq 64 _ (by omega)
    have hnb32 : nbits ((limbs n).getLast hne) ≤ 32 := nbits_le.2 hlt
    generalize (limbs n).getLast hne = x at *
    generalize (limbs n).length = k at *
    have hk : ((k : Int) == 0) = false := by simp; omega
    obtain ⟨j, rfl⟩ : ∃ j, k = j + 1 := ⟨k - 1, by omega⟩
    have hc' : w.cell? ⟨b, off + j, none⟩ = some (.int .u32 x) := by simpa using hc
    have HNB := Lib.hid hnb
    have HBL := Lib.hid hbl
    clear hc h hlast hnb hbl
    generalize nbits x = nb at *
    go_enter Tryd.func81, Tryd.ntmps81
    go_wp2_with fail
    refine (Tryd.bits_Len32 (x : Int) _ (by omega) (by omega)).mono ?_
    rintro e w1 ⟨rfl, hw1⟩
    subst hw1
    rw [Int.toNat_natCast, HBL.out]
    go_wp2_with fail
    go_ret
    refine ⟨?_, rfl⟩
    rw [HNB.out]
    simp

theorem sub_digit (x y b : Nat) (hx : x < 4294967296) (hy : y < 4294967296) (hb : b ≤ 1) : (x + 8589934592 - y - b) % 4294967296 + y + b = x + borN x y b * 4294967296 := by
  unfold borN; split <;> omega

theorem less_step {A A' Y : List Nat} {k br d y : Nat} (hk : k < A.length) (hl : A'.length = A.length) (hyv : val (Y.take (k + 1)) = val (Y.take k) + y * B32 ^ k) (bo : Nat)
    (hd : d + y + br = A[k] + bo * B32) (hv : val (A'.take k) + val (Y.take k) = val (A.take k) + br * B32 ^ k) :
    val ((A'.set k d).take (k + 1)) + val (Y.take (k + 1)) = val (A.take (k + 1)) + bo * B32 ^ (k + 1) := by
  rw [val_take_snoc (Y := A'.set k d) (by simp; omega), val_take_snoc hk, hyv, List.take_set_of_le (Nat.le_refl k)]
  simp only [List.getElem_set_self, Nat.pow_succ]
  have e : (d + y + br) * B32 ^ k = (A[k] + bo * B32) * B32 ^ k := by rw [hd]
  simp only [Nat.add_mul] at e
  rw [show bo * (B32 ^ k * B32) = bo * B32 * B32 ^ k by ac_rfl]
  omega

set_option maxRecDepth 100000 in
set_option maxHeartbeats 2000000 in
theorem less_any (g cap : Nat) (A : List Nat) (b : Option Addr) (cb : Nat) (Y : List Nat) (w : World) (ha : RowU w g cap A) (hb : Lies w b cb Y) (hne : ∀ x, b = some x → x.block ≠ g)
    (hle : Y.length ≤ A.length) (hvle : val Y ≤ val A) (hsz : A.length ≤ 1000) :
    Calls Tryd.prog 96 #[.slice (some ⟨g, 0, none⟩) A.length cap, .slice b Y.length cb] w fun e w' => e = .returned (.tuple #[]) ∧ (∃ A', A'.length = A.length ∧ val A' = val A - val Y ∧ RowU w' g cap A') ∧ Apart [g] w w' := by
  have h1 := ha.le; have h2 := hb.le
  have HA := Lib.hid ha; have HB := Lib.hid hb; have HNE := Lib.hid hne
  have HVLE := Lib.hid hvle
  clear ha hb hne hvle
  go_enter Tryd.func96, Tryd.ntmps96
  go_wp2_with fail
  go_loopw [4, 9] (fun c i wr => ∃ (k : Nat) (A' : List Nat) (br : Nat), k ≤ A.length ∧ i = .int .i64 k ∧ c = .int .u32 br ∧ br ≤ 1 ∧ A'.length = A.length ∧ val (A'.take k) + val (Y.take k) = val (A.take k) + br * B32 ^ k ∧ A'.drop k = A.drop k ∧ RowU wr g cap A' ∧ Apart [g] w wr) (fun _ i _ => A.length - (intOf i).toNat)
  case atStart => exact ⟨0, A, 0, Nat.zero_le _, rfl, rfl, by omega, rfl, by simp [val], rfl, HA.out, Apart.refl _ _⟩
  case round =>
    obtain ⟨k, A', br, hk, rfl, rfl, hbr, hal, hv, hd, hrow, hap⟩ := hrel
    have HV := Lib.hid hv; have HR := Lib.hid hrow; have AP := Lib.hid hap; have HAL := Lib.hid hal; have HD := Lib.hid hd
    have hgl := hrow.ltg
    clear hv hrow hap hal hd
    by_cases hlt : k < A.length
    · have hkA : k < A'.length := by rw [HAL.out]; exact hlt
      have hca := HR.out.cell k hkA
      have hfa := HR.out.frozen k
      have hxl : A'[k] < 4294967296 := HR.out.lt _ (List.getElem_mem hkA)
      have hAA : A'[k] = A[k] := by
        have h1 := List.drop_eq_getElem_cons hkA
        have h2 := List.drop_eq_getElem_cons hlt
        rw [HD.out, h2] at h1; exact (List.cons.inj h1).1.symm
      by_cases hq : k < Y.length
      · obtain ⟨bb, ob, rfl, hcb⟩ := HB.out.at_ k hq
        have hbg : bb ≠ g := HNE.out _ rfl
        have hcb' : wr.cell? ⟨bb, ob + k, none⟩ = some (.int .u32 (Y[k] : Nat)) := (World.cell?_of_block (AP.out.block bb (World.block_lt_of_cell? w _ hcb) (by simpa using hbg))).trans hcb
        have hyl : Y[k] < 4294967296 := HB.out.lt _ (List.getElem_mem hq)
        clear hcb
        have HS := Lib.hid (less_step (d := (A'[k] + 8589934592 - Y[k] - br) % 4294967296) hlt HAL.out (val_take_snoc hq) (borN A'[k] Y[k] br) (by rw [← hAA]; exact sub_digit _ _ _ hxl hyl hbr) HV.out)
        have hdl : (A'[k] + 8589934592 - Y[k] - br) % 4294967296 < B32 := Nat.mod_lt _ (by decide)
        have hbl : borN A'[k] Y[k] br ≤ 1 := by unfold borN; split <;> omega
        have HSUB := Lib.hid (Sub32_any A'[k] Y[k] br hxl hyl hbr)
        have HR3 := Lib.hid (HR.out.set k _ hkA hdl)
        have HD3 : Hid ((A'.set k ((A'[k] + 8589934592 - Y[k] - br) % 4294967296)).drop (k + 1) = A.drop (k + 1)) := by
          show (A'.set k _).drop (k + 1) = _
          rw [List.drop_set_of_lt (by omega)]
          have := congrArg (List.drop 1) HD.out
          simpa [List.drop_drop] using this
        have HBL := Lib.hid hbl
        clear hdl hAA hbl
        generalize (A'[k] + 8589934592 - Y[k] - br) % 4294967296 = dd at *
        generalize borN A'[k] Y[k] br = bo at *
        generalize A'[k] = xk at *
        generalize Y[k] = yk at *
        go_wp2_with fail
        refine (HSUB.out _).mono ?_
        rintro e w1 ⟨rfl, rfl⟩
        go_wp2_with fail
        go_roundw
        case rel => exact ⟨k + 1, _, bo, by omega, by go_num, rfl, HBL.out, by simp [HAL.out], HS.out, HD3.out, HR3.out, AP.out.setCell _ (by simp) _⟩
        case measure => simp [intOf]; omega
      · have hyv : val (Y.take (k + 1)) = val (Y.take k) + 0 * B32 ^ k := by
          rw [List.take_of_length_le (by omega), List.take_of_length_le (by omega)]; simp
        have HS := Lib.hid (less_step (d := (A'[k] + 8589934592 - 0 - br) % 4294967296) hlt HAL.out hyv (borN A'[k] 0 br) (by rw [← hAA]; exact sub_digit _ _ _ hxl (by decide) hbr) HV.out)
        have hdl : (A'[k] + 8589934592 - 0 - br) % 4294967296 < B32 := Nat.mod_lt _ (by decide)
        have hbl : borN A'[k] 0 br ≤ 1 := by unfold borN; split <;> omega
        have HSUB := Lib.hid (Sub32_any A'[k] 0 br hxl (by decide) hbr)
        have HR3 := Lib.hid (HR.out.set k _ hkA hdl)
        have HD3 : Hid ((A'.set k ((A'[k] + 8589934592 - 0 - br) % 4294967296)).drop (k + 1) = A.drop (k + 1)) := by
          show (A'.set k _).drop (k + 1) = _
          rw [List.drop_set_of_lt (by omega)]
          have := congrArg (List.drop 1) HD.out
          simpa [List.drop_drop] using this
        have HBL := Lib.hid hbl
        clear hdl hAA hbl hyv
        generalize (A'[k] + 8589934592 - 0 - br) % 4294967296 = dd at *
        generalize borN A'[k] 0 br = bo at *
        generalize A'[k] = xk at *
        go_wp2_with fail
        refine (HSUB.out _).mono ?_
        rintro e w1 ⟨rfl, rfl⟩
        go_wp2_with fail
        go_roundw
        case rel => exact ⟨k + 1, _, bo, by omega, by go_num, rfl, HBL.out, by simp [HAL.out], HS.out, HD3.out, HR3.out, AP.out.setCell _ (by simp) _⟩
        case measure => simp [intOf]; omega
    · obtain rfl : k = A.length := by omega
      have hres : val A' = val A - val Y := by
        have h1 := HV.out
        rw [List.take_length, List.take_of_length_le (Nat.le_of_eq HAL.out), List.take_of_length_le hle] at h1
        have h2 := val_lt A' HR.out.lt
        rw [HAL.out] at h2
        have h3 := HVLE.out
        have h4 : br = 0 := by
          rcases Nat.lt_or_ge br 1 with h | h
          · omega
          · have : br = 1 := by omega
            subst this; omega
        subst h4; omega
      have HRES := Lib.hid hres
      clear hres
      go_wp2_with fail
      go_end0
      exact ⟨rfl, ⟨A', HAL.out, HRES.out, HR.out⟩, AP.out⟩
end Go.Proofs.YtkaelmbgfcehhaaDoor
end

section
/- Package nat: small (division by one limb). -/
namespace Go.Proofs.YtkaelmbgfcehhaaDoor
open Go.RowKit
set_option linter.unusedVariables false

theorem small_digit (a H d : Nat) (hd : 0 < d) : (a + B32 * H) / d = (H % d * B32 + a) / d + B32 * (H / d) ∧ (a + B32 * H) % d = (H % d * B32 + a) % d := by
  have e : a + B32 * H = (H % d * B32 + a) + d * (B32 * (H / d)) := by
    conv => lhs; rw [← Nat.div_add_mod H d]
    rw [Nat.mul_add]
    rw [show B32 * (d * (H / d)) = d * (B32 * (H / d)) by ac_rfl, Nat.mul_comm B32 (H % d)]
    omega
  rw [e, Nat.add_mul_div_left _ _ hd, Nat.add_mul_mod_self_left]
  exact ⟨rfl, rfl⟩

theorem drop_set_head {A : List Nat} {k y : Nat} (h : k < A.length) : (A.set k y).drop k = y :: A.drop (k + 1) := by
  rw [List.drop_eq_getElem_cons (by simpa using h)]
  simp [List.drop_set_of_lt]

set_option maxRecDepth 100000 in
set_option maxHeartbeats 2000000 in
theorem small_any (g cap : Nat) (A : List Nat) (d : Nat) (w : World) (ha : RowU w g cap A) (hd : 0 < d) (hdl : d < 4294967296) (hsz : A.length ≤ 1000000) :
    Calls Tryd.prog 94 #[.slice (some ⟨g, 0, none⟩) A.length cap, .int .u32 d] w fun e w' => e = .returned (.int .u32 (val A % d : Nat)) ∧ (∃ A', A'.length = A.length ∧ val A' = val A / d ∧ RowU w' g cap A') ∧ Apart [g] w w' := by
  have h1 := ha.le
  have HA := Lib.hid ha
  clear ha
  go_enter Tryd.func94, Tryd.ntmps94
  go_wp2_with fail
  go_loopw [5, 6] (fun l i wr => ∃ (k : Nat) (A' : List Nat) (lf : Nat), k ≤ A.length ∧ i = .int .i64 ((k : Int) - 1) ∧ l = .int .u32 lf ∧ lf = val (A.drop k) % d ∧ A'.length = A.length ∧ val (A'.drop k) = val (A.drop k) / d ∧ A'.take k = A.take k ∧ RowU wr g cap A' ∧ Apart [g] w wr) (fun _ i _ => (intOf i + 1).toNat)
  case atStart => exact ⟨A.length, A, 0, Nat.le_refl _, rfl, rfl, by simp [val], rfl, by simp [val], rfl, HA.out, Apart.refl _ _⟩
  case round =>
    obtain ⟨k, A', lf, hk, rfl, rfl, hlf, hal, hv, ht, hrow, hap⟩ := hrel
    have HV := Lib.hid hv; have HR := Lib.hid hrow; have AP := Lib.hid hap; have HAL := Lib.hid hal; have HT := Lib.hid ht; have HLF := Lib.hid hlf
    have hgl := hrow.ltg
    have hlfd : lf < d := by rw [hlf]; exact Nat.mod_lt _ hd
    clear hv hrow hap hal ht hlf
    cases k with
    | zero =>
      go_wp2_with fail
      go_ret
      exact ⟨by rw [show val A % d = lf by rw [HLF.out]; rfl]; rfl, ⟨A', HAL.out, by simpa using HV.out, HR.out⟩, AP.out⟩
    | succ k =>
      have hkA : k < A'.length := by rw [HAL.out]; omega
      have hkA2 : k < A.length := by omega
      have hca := HR.out.cell k hkA
      have hAA : A'[k] = A[k] := by
        have h1 : (A'.take (k + 1))[k]? = (A.take (k + 1))[k]? := by rw [HT.out]
        simpa [hkA, hkA2] using h1
      have hxl : A'[k] < 4294967296 := HR.out.lt _ (List.getElem_mem hkA)
      have hdg := small_digit A[k] (val (A.drop (k + 1))) d hd
      rw [← HLF.out, ← hAA] at hdg
      have hvd : val (A.drop k) = A'[k] + B32 * val (A.drop (k + 1)) := by rw [List.drop_eq_getElem_cons hkA2, val, hAA]
      obtain ⟨q, hq⟩ : ∃ q, q = (lf * 4294967296 + A'[k]) / d := ⟨_, rfl⟩
      obtain ⟨r, hr⟩ : ∃ r, r = (lf * 4294967296 + A'[k]) % d := ⟨_, rfl⟩
      have hql : q < B32 := by
        rw [hq]; apply Nat.div_lt_of_lt_mul
        have : (lf + 1) * 4294967296 ≤ d * 4294967296 := Nat.mul_le_mul_right _ hlfd
        show lf * 4294967296 + A'[k] < d * 4294967296
        omega
      have HDIV := Lib.hid (Div32_any lf A'[k] d hlfd hxl hdl)
      rw [← hq, ← hr] at HDIV
      have HR3 := fun (w' : World) (hw : w'.heap[g]? = wr.heap[g]?) => (HR.out.keep hw).set k q hkA hql
      have HR3' := Lib.hid HR3
      have HV3 : Hid (val ((A'.set k q).drop k) = val (A.drop k) / d) := by
        show val ((A'.set k q).drop k) = val (A.drop k) / d
        rw [drop_set_head hkA, val, HV.out, hvd, hdg.1, hq]
      have HL3 : Hid (r = val (A.drop k) % d) := by show r = _; rw [hvd, hdg.2, hr]
      have HT3 : Hid ((A'.set k q).take k = A.take k) := by
        show (A'.set k q).take k = A.take k
        rw [List.take_set_of_le (Nat.le_refl k)]
        have := congrArg (List.take k) HT.out
        simpa [List.take_take] using this
      clear hAA hdg hvd hq hr hql HR3
      generalize A'[k] = xk at *
      go_wp2_with fail
      refine (HDIV.out _).mono ?_
      rintro e w1 ⟨rfl, hb⟩
      have hcw : w1.cell? ⟨g, k, none⟩ = some (.int .u32 xk) := (hb.cell hgl).trans hca
      have hfw : w1.frozen? ⟨g, k, none⟩ = false := (hb.frozen hgl).trans (HR.out.frozen k)
      have hgl1 : g < w1.heap.size := Nat.lt_of_lt_of_le hgl hb.size
      have HRW := Lib.hid (HR3'.out w1 (hb.block g hgl))
      have AP1 := Lib.hid (AP.out.trans (Apart.of_below hb [g]) (by intro x hx; exact .inl hx))
      clear hb hca
      go_wp2_with fail
      go_roundw
      case rel => exact ⟨k, _, r, by omega, rfl, rfl, HL3.out, by simp [HAL.out], HV3.out, HT3.out, HRW.out, AP1.out.setCell _ (by simp) _⟩
      case measure => simp [intOf]
theorem small_nil (d : Nat) (w : World) : Calls Tryd.prog 94 #[.slice none 0 0, .int .u32 d] w fun e w' => e = .returned (.int .u32 0) ∧ w = w' := by
  go_enter Tryd.func94, Tryd.ntmps94
  go_wp2_with fail
  refine wp_loop_rounds 1 ?_
  rw [rounds_succ]
  go_wp2_with fail
  go_ret
  exact ⟨rfl, rfl⟩
end Go.Proofs.YtkaelmbgfcehhaaDoor
end
