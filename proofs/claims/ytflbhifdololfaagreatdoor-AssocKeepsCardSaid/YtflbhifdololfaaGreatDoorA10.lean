/- Package assoc: an array of values in memory: its entries as a list; what a look-up finds, an update, a deletion. -/
import Derived.Test.YtflbhifdololfaaGreatDoorA1
namespace Go.Proofs.YtflbhifdololfaaGreatDoor
open Go.RowKit
set_option linter.unusedVariables false

instance lawfulBytes : LawfulBEq ByteArray where
  eq_of_beq {a b} h := by
    cases a; cases b
    have h2 : (_ == _) = true := h
    congr 1
    exact eq_of_beq h2
  rfl {a} := by
    show (a.data == a.data) = true
    exact beq_self_eq_true _
/-- an element: its key, when it came, its value's kind and string, its number in the map -/
structure Ent where
  key : ByteArray
  when : Nat
  kind : Int
  str : ByteArray
  born : Nat
def Ent.val (e : Ent) : Value := .agg #[.int .i64 (e.when : Int), .int .i64 e.kind, .float .f64 0, .string e.str, .pointer none]
def Ent.me (e : Ent) : MapEntry := ⟨.string e.key, e.val, e.born⟩
def mes (M : List Ent) : Array MapEntry := (M.map Ent.me).toArray
theorem mes_list (M : List Ent) : (mes M).toList = M.map Ent.me := by simp [mes]
theorem mes_size (M : List Ent) : (mes M).size = M.length := by simp [mes]
/-- the place of a key -/
def ixE (M : List Ent) (k : ByteArray) : Option Nat := M.findIdx? fun e => e.key == k
theorem fnd_go (k : ByteArray) : ∀ (M : List Ent) (i : Nat), Instr.findNow .string (.string k) (M.map Ent.me) i = some ((ixE M k).map fun j => (i + j, ((M[j]?).map Ent.val).getD zslot)) := by
  intro M
  induction M with
  | nil => intro i; rfl
  | cons e M ih =>
    intro i
    unfold ixE
    rw [List.findIdx?_cons, List.map_cons, Instr.findNow]
    show (match some (k == e.key) with | some true => some (some (i, e.me.val)) | some false => Instr.findNow .string (.string k) (M.map Ent.me) (i + 1) | none => none) = _
    cases hk : k == e.key with
    | true =>
      have : (e.key == k) = true := by rw [beq_iff_eq] at hk ⊢; exact hk.symm
      rw [if_pos this]; rfl
    | false =>
      have : ¬ (e.key == k) = true := by rw [beq_iff_eq]; intro h; rw [h] at hk; simp at hk
      rw [if_neg this]
      show Instr.findNow .string (.string k) (M.map Ent.me) (i + 1) = _
      rw [ih (i + 1)]
      show _ = some (Option.map _ (Option.map _ (ixE M k)))
      cases ixE M k with
      | none => rfl
      | some j => simp; omega
theorem fnd_mes (k : ByteArray) (M : List Ent) : fnd k (mes M).toList = some ((ixE M k).map fun j => (j, ((M[j]?).map Ent.val).getD zslot)) := by
  unfold fnd
  rw [mes_list, fnd_go]
  simp
theorem ixE_some {M : List Ent} {k : ByteArray} {j : Nat} (h : ixE M k = some j) : ∃ e, M[j]? = some e ∧ e.key = k := by
  unfold ixE at h
  rw [List.findIdx?_eq_some_iff_getElem] at h
  obtain ⟨h1, h2, _⟩ := h
  exact ⟨M[j], List.getElem?_eq_getElem h1, by simpa using h2⟩
theorem ixE_none {M : List Ent} {k : ByteArray} : ixE M k = none ↔ ∀ e ∈ M, e.key ≠ k := by
  unfold ixE
  rw [List.findIdx?_eq_none_iff]
  simp
/-- a key that is there: the new value at its place -/
theorem run_update_old (w : World) (m : Nat) (M : List Ent) (c : Nat) (k : ByteArray) (v : Value) (j : Nat) (e : Ent)
    (hm : w.heap[m]? = some (.map (mes M) c)) (hj : ixE M k = some j) (he : M[j]? = some e) :
    (Instr.mapUpdate 125 (.map (some m)) (.string k) v).run Tryz.prog w = .ok () (w.setObj' m (.map ((mes M).modify j fun x => { x with key := .string k, val := v }) c)) := by
  have hf := fnd_mes k M
  unfold fnd at hf
  unfold Instr.mapUpdate
  have hc := run_checkKey_str false 9999 k w
  simp only [show (9999 + 1) = 10000 from rfl] at hc
  obtain ⟨e2, h1, h2⟩ := ixE_some hj
  rw [he] at h1; cases h1
  have hk : (mes M)[j]? = some e.me := by
    rw [← Array.getElem?_toList, mes_list, List.getElem?_map, he]; rfl
  have hs : ∀ W, (Instr.keyThatStays (.string k) (.string k)).run Tryz.prog W = .ok (.string k) W := by
    intro W
    unfold Instr.keyThatStays
    rw [if_pos (by simp [Instr.sameBits])]; rfl
  rw [hj] at hf
  simp [run_underlying undMap, getObj, setObj, Sem.run, hm, hc, run_underlying undStrA, Instr.findKey, hf, World.setObj', hk, Ent.me, hs, h2]
theorem wpList_upo (w : World) {ops : Array Oper} {rest : List Oper} {o : Oper} {a : Act} {Q : Exit → Act → World → Prop}
    (hg : o.guard = none) (x y z : Operand) (hop : o.op = Op.mapUpdate 125 x y z) (m : Nat) (M : List Ent) (c : Nat) (k : ByteArray) (v : Value) (j : Nat) (e : Ent)
    (hx : a.eval x = .map (some m)) (hy : a.eval y = .string k) (hz : a.eval z = v) (hm : w.heap[m]? = some (.map (mes M) c)) (hj : ixE M k = some j) (he : M[j]? = some e)
    (hK : wpList Tryz.prog ops Q rest (a.put o.dst undef) (w.setObj' m (.map ((mes M).modify j fun x => { x with key := .string k, val := v }) c))) :
    wpList Tryz.prog ops Q (o :: rest) a w := by
  refine wpList_plain hg fun K' hK' => ?_
  unfold Oper.wp
  simp [execOp, hop, hx, hy, hz, run_update_old w m M c k v j e hm hj he, Result.andThen]
  exact hK' _ _ hK
/-- the list with a value replaced -/
theorem mes_modify {M : List Ent} {j : Nat} {e : Ent} {k : ByteArray} {kind : Int} {str : ByteArray} (he : M[j]? = some e) (hk : e.key = k) :
    ((mes M).modify j fun x => { x with key := .string k, val := .agg #[.int .i64 (e.when : Int), .int .i64 kind, .float .f64 0, .string str, .pointer none] }) = mes (M.set j ⟨k, e.when, kind, str, e.born⟩) := by
  apply Array.ext'
  rw [mes_list, Array.toList_modify, mes_list]
  apply List.ext_getElem?
  intro i
  rw [List.getElem?_modify, List.getElem?_map, List.getElem?_map, List.getElem?_set]
  by_cases h : j = i
  · subst h
    have hl : j < M.length := (List.getElem?_eq_some_iff.1 he).1
    simp only [he, if_true, hl]
    rfl
  · simp only [if_neg h]
    cases M[i]? <;> rfl
theorem mes_push (M : List Ent) (k : ByteArray) (n : Nat) (kind : Int) (str : ByteArray) (c : Nat) : (mes M).push ⟨.string k, .agg #[.int .i64 (n : Int), .int .i64 kind, .float .f64 0, .string str, .pointer none], c⟩ = mes (M ++ [⟨k, n, kind, str, c⟩]) := by
  apply Array.ext'
  rw [Array.toList_push, mes_list, mes_list, List.map_append]; rfl
theorem run_delete (w : World) (m : Nat) (M : List Ent) (c : Nat) (k : ByteArray) (T : TypeId) (hm : w.heap[m]? = some (.map (mes M) c)) :
    (Builtin.delete_ #[125, 9] T #[.map (some m), .string k]).run Tryz.prog w = .ok (.tuple #[]) (w.setObj' m (.map (mes (match ixE M k with | some j => M.eraseIdx j | none => M)) c)) := by
  have hf := fnd_mes k M
  unfold fnd at hf
  have hc := run_checkKey_str (mes M).isEmpty 9999 k w
  simp only [show (9999 + 1) = 10000 from rfl] at hc
  unfold Builtin.delete_
  cases hj : ixE M k with
  | none =>
    rw [hj] at hf
    simp [run_underlying undMap, getObj, setObj, Sem.run, hm, hc, run_underlying undStrA, Instr.findKey, hf, World.setObj']
  | some j =>
    rw [hj] at hf
    have he : (mes M).eraseIdxIfInBounds j = mes (M.eraseIdx j) := by
      have hl : j < (mes M).size := by
        obtain ⟨e, h1, _⟩ := ixE_some hj
        rw [mes_size]; exact (List.getElem?_eq_some_iff.1 h1).1
      apply Array.ext'
      unfold Array.eraseIdxIfInBounds
      rw [dif_pos hl, Array.toList_eraseIdx, mes_list, mes_list, List.eraseIdx_eq_take_drop_succ, List.eraseIdx_eq_take_drop_succ, List.map_append, List.map_take, List.map_drop]
    simp [run_underlying undMap, getObj, setObj, Sem.run, hm, hc, run_underlying undStrA, Instr.findKey, hf, World.setObj', he]
theorem run_clear (w : World) (m : Nat) (es : Array MapEntry) (c : Nat) (T : TypeId) (hm : w.heap[m]? = some (.map es c)) :
    (Builtin.clear_ #[125] T #[.map (some m)]).run Tryz.prog w = .ok (.tuple #[]) (w.setObj' m (.map #[] c)) := by
  unfold Builtin.clear_
  simp [run_underlying undMap, getObj, setObj, Sem.run, hm, World.setObj']
end Go.Proofs.YtflbhifdololfaaGreatDoor
