/- A loop over a map: what has been met, and the sum over it (plain lists). Steps of the loop as laws at the operation. -/
import Derived.Test.YtflbhifdololfaaGreatDoorM1
namespace Go.Proofs.YtflbhifdololfaaGreatDoor
open Go.RowKit
set_option linter.unusedVariables false

def sumSeen (f : MapEntry → Int) (es : Array MapEntry) (seen : Array Nat) : Int := ((es.toList.filter fun e => seen.contains e.born).map f).sum
def sumAll (f : MapEntry → Int) (es : Array MapEntry) : Int := (es.toList.map f).sum

theorem sumSeen_nil (f : MapEntry → Int) (es : Array MapEntry) : sumSeen f es #[] = 0 := by
  have : (es.toList.filter fun e => (#[] : Array Nat).contains e.born) = [] := by
    rw [List.filter_eq_nil_iff]; simp
  simp only [sumSeen, this]; rfl

theorem left_mem {es : Array MapEntry} {seen : Array Nat} {e : MapEntry} (h : e ∈ (leftOf' es seen).toList) : e ∈ es.toList ∧ seen.contains e.born = false := by
  simp [leftOf'] at h
  exact ⟨by simpa using h.1, by simpa using h.2⟩

theorem contains_push (seen : Array Nat) (b x : Nat) : (seen.push b).contains x = (seen.contains x || x == b) := by
  rw [Bool.eq_iff_iff]; simp

theorem sum_push_list (f : MapEntry → Int) (e : MapEntry) (g : Nat → Bool) : ∀ (l : List MapEntry), (l.map (·.born)).Nodup → e ∈ l → g e.born = false →
    ((l.filter fun x => g x.born || x.born == e.born).map f).sum = ((l.filter fun x => g x.born).map f).sum + f e
  | [], _, h, _ => by simp at h
  | x :: l, hn, hm, hs => by
    simp only [List.map_cons, List.nodup_cons] at hn
    rcases List.mem_cons.1 hm with rfl | hm'
    · have hrest : (l.filter fun x => g x.born || x.born == e.born) = (l.filter fun x => g x.born) := by
        apply List.filter_congr
        intro y hy
        have hne : (y.born == e.born) = false := beq_eq_false_iff_ne.2 fun h => hn.1 (by rw [← h]; exact List.mem_map_of_mem hy)
        rw [hne, Bool.or_false]
      rw [List.filter_cons, List.filter_cons, hrest, hs]
      simp; omega
    · have ih := sum_push_list f e g l hn.2 hm' hs
      have hne : (x.born == e.born) = false := beq_eq_false_iff_ne.2 fun h => hn.1 (by rw [h]; exact List.mem_map_of_mem hm')
      rw [List.filter_cons, List.filter_cons, hne, Bool.or_false]
      cases g x.born
      · simpa using ih
      · simp only [if_true, List.map_cons, List.sum_cons, ih]; omega

theorem sumSeen_push {f : MapEntry → Int} {es : Array MapEntry} {seen : Array Nat} {e : MapEntry} (hn : (es.toList.map (·.born)).Nodup) (h : e ∈ (leftOf' es seen).toList) :
    sumSeen f es (seen.push e.born) = sumSeen f es seen + f e := by
  have := sum_push_list f e (fun b => seen.contains b) es.toList hn (left_mem h).1 (left_mem h).2
  unfold sumSeen
  rw [← this]
  congr 3
  funext x
  exact contains_push _ _ _

theorem sumSeen_all {f : MapEntry → Int} {es : Array MapEntry} {seen : Array Nat} (h : leftOf' es seen = #[]) : sumSeen f es seen = sumAll f es := by
  unfold sumSeen sumAll
  rw [List.filter_eq_self.2]
  intro e he
  have := (Array.filter_eq_empty_iff.1 h) e (by simpa using he)
  simpa using this

theorem sum_le_list {f : MapEntry → Int} (g : MapEntry → Bool) : ∀ (l : List MapEntry), (∀ e ∈ l, 0 ≤ f e) → 0 ≤ ((l.filter g).map f).sum ∧ ((l.filter g).map f).sum ≤ (l.map f).sum
  | [], _ => by simp
  | x :: l, h0 => by
    have h1 := h0 x (by simp)
    have ih := sum_le_list g l (fun e he => h0 e (by simp [he]))
    rw [List.filter_cons]
    cases g x
    · simp only [Bool.false_eq_true, if_false, List.map_cons, List.sum_cons]; omega
    · simp only [if_true, List.map_cons, List.sum_cons]; omega

theorem sumSeen_le {f : MapEntry → Int} {es : Array MapEntry} (seen : Array Nat) (h0 : ∀ e ∈ es.toList, 0 ≤ f e) : 0 ≤ sumSeen f es seen ∧ sumSeen f es seen ≤ sumAll f es :=
  sum_le_list _ _ h0

theorem left_lt_list (e : MapEntry) (g : Nat → Bool) : ∀ (l : List MapEntry), e ∈ l → g e.born = false →
    (l.filter fun x => !(g x.born || x.born == e.born)).length < (l.filter fun x => !g x.born).length
  | [], h, _ => by simp at h
  | x :: l, hm, hs => by
    have hle : ∀ l : List MapEntry, (l.filter fun x => !(g x.born || x.born == e.born)).length ≤ (l.filter fun x => !g x.born).length := by
      intro l
      induction l with
      | nil => exact Nat.le_refl _
      | cons y l ih =>
        rw [List.filter_cons, List.filter_cons]
        cases g y.born <;> cases (y.born == e.born)
        · exact Nat.succ_le_succ ih
        · exact Nat.le_succ_of_le ih
        · exact ih
        · exact ih
    rw [List.filter_cons, List.filter_cons]
    rcases List.mem_cons.1 hm with rfl | hm'
    · rw [hs, beq_self_eq_true]
      exact Nat.lt_succ_of_le (hle l)
    · have ih := left_lt_list e g l hm' hs
      cases g x.born <;> cases (x.born == e.born)
      · exact Nat.succ_lt_succ ih
      · exact Nat.lt_succ_of_lt ih
      · exact ih
      · exact ih

theorem left_lt {es : Array MapEntry} {seen : Array Nat} {e : MapEntry} (h : e ∈ (leftOf' es seen).toList) : (leftOf' es (seen.push e.born)).size < (leftOf' es seen).size := by
  have := left_lt_list e (fun b => seen.contains b) es.toList (left_mem h).1 (left_mem h).2
  unfold leftOf'
  have h2 : ∀ q : MapEntry → Bool, (es.filter q).size = (es.toList.filter q).length := fun q => by rw [← Array.length_toList, Array.toList_filter]
  rw [h2, h2]
  have e1 : (fun x : MapEntry => !(seen.push e.born).contains x.born) = fun x => !(seen.contains x.born || x.born == e.born) := by
    funext x; rw [contains_push]
  rw [e1]; exact this

theorem find_born {e : MapEntry} : ∀ (l : List MapEntry), (l.map (·.born)).Nodup → e ∈ l → l.find? (fun x => x.born == e.born) = some e
  | [], _, h => by simp at h
  | x :: l, hn, hm => by
    simp only [List.map_cons, List.nodup_cons] at hn
    rcases List.mem_cons.1 hm with rfl | hm'
    · simp
    · have hne : x.born ≠ e.born := fun h => hn.1 (by rw [h]; exact List.mem_map_of_mem hm')
      rw [List.find?_cons, beq_eq_false_iff_ne.2 hne]
      exact find_born l hn.2 hm'

theorem find_born' {e : MapEntry} (es : Array MapEntry) (hn : (es.toList.map (·.born)).Nodup) (hm : e ∈ es.toList) : es.find? (fun x => x.born == e.born) = some e := by
  rw [← Array.find?_toList]; exact find_born _ hn hm

section
variable {P : Program} (w : World) {ops : Array Oper} {rest : List Oper} {o : Oper} {a : Act} {Q : Exit → Act → World → Prop}

theorem wpList_next_over (hg : o.guard = none) (x : Operand) (hop : o.op = Op.next x false) (r m since last : Nat) (seen : Array Nat) (es : Array MapEntry) (clock : Nat)
    (hx : a.eval x = .pointer (some ⟨r, 0, none⟩)) (hr : w.heap[r]? = some (.mapIter (some m) since seen last)) (hm : w.heap[m]? = some (.map es clock)) (hlast : ∀ e ∈ es.toList, e.born < last)
    (hleft : leftOf' es seen = #[]) (hK : wpList P ops Q rest (a.put o.dst (.tuple #[.bool false])) w) : wpList P ops Q (o :: rest) a w := by
  refine wpList_plain hg fun K' hK' => ?_
  unfold Oper.wp
  simp [execOp, hop, hx, run_next_over P w r m since last seen es clock o.type hr hm hlast hleft, Result.andThen]
  exact hK' _ _ hK

theorem wpList_next_step (hg : o.guard = none) (x : Operand) (hop : o.op = Op.next x false) (r m since last : Nat) (seen : Array Nat) (es : Array MapEntry) (clock : Nat)
    (hx : a.eval x = .pointer (some ⟨r, 0, none⟩)) (hr : w.heap[r]? = some (.mapIter (some m) since seen last)) (hm : w.heap[m]? = some (.map es clock)) (hlast : ∀ e ∈ es.toList, e.born < last) (hsince : ∀ e ∈ es.toList, e.born < since)
    (hleft : leftOf' es seen ≠ #[])
    (hK : ∀ e w1 w2, e ∈ (leftOf' es seen).toList → (w1 = w ∨ w1 = w.drew) → w2 = w1.setObj' r (.mapIter (some m) since (seen.push e.born) clock) → wpList P ops Q rest (a.put o.dst (.tuple #[.bool true, e.key, e.val])) w2) : wpList P ops Q (o :: rest) a w := by
  obtain ⟨e, w1, he, hw1, hrun⟩ := run_next_step P w r m since last seen es clock o.type hr hm hlast hsince hleft
  refine wpList_plain hg fun K' hK' => ?_
  unfold Oper.wp
  simp [execOp, hop, hx, hrun, Result.andThen]
  exact hK' _ _ (hK e w1 _ he hw1 rfl)

theorem wpList_entry (hg : o.guard = none) (x : Operand) (hop : o.op = Op.entry x) (r m since clock : Nat) (seen : Array Nat) (es : Array MapEntry) (e : MapEntry)
    (hx : a.eval x = .pointer (some ⟨r, 0, none⟩)) (hr : w.heap[r]? = some (.mapIter (some m) since (seen.push e.born) clock)) (hm : w.heap[m]? = some (.map es clock)) (he : es.find? (fun x => x.born == e.born) = some e)
    (hK : wpList P ops Q rest (a.put o.dst (.tuple #[e.key, e.val])) w) : wpList P ops Q (o :: rest) a w := by
  refine wpList_plain hg fun K' hK' => ?_
  unfold Oper.wp
  simp [execOp, hop, hx, run_entry P w r m since clock seen es e hr hm he, Result.andThen]
  exact hK' _ _ hK

theorem run_range_map (w : World) (t k e m : Nat) (ht : P.underlying t = some (.map k e)) (es : Array MapEntry) (clock : Nat) (hm : w.heap[m]? = some (.map es clock)) :
    (Instr.range t (.map (some m))).run P w = .ok (.pointer (some ⟨w.heap.size, 0, none⟩)) (w.alloc (.mapIter (some m) clock #[] clock)) := by
  simp [Instr.range, run_underlying ht, getObj, Sem.run, hm, newObj, Result.andThen]
end
end Go.Proofs.YtflbhifdololfaaGreatDoor
