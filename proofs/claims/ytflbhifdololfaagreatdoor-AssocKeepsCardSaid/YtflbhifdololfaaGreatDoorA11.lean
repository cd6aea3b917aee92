/- Package assoc: what Set, Delete and Clear do to the list of an array's entries. -/
import Derived.Test.YtflbhifdololfaaGreatDoorA10
import Derived.Test.YtflbhifdololfaaGreatDoorA2
namespace Go.Proofs.YtflbhifdololfaaGreatDoor
open Go.RowKit
set_option linter.unusedVariables false

/-- an array of values: its entries in the order in which their keys came -/
structure AInv (w : World) (p m : Nat) (clk : Nat) (M : List Ent) (c : Nat) : Prop where
  arr : ArrAt w p m (clk : Int) (mes M) c
  keys : (M.map (·.key)).Nodup
  whens : M.Pairwise fun a b => a.when < b.when
  last : ∀ e ∈ M, e.when ≤ clk
  borns : M.Pairwise fun a b => a.born < b.born
  bound : ∀ e ∈ M, e.born < c
  len : M.length ≤ clk
theorem AInv.new {w : World} {p m : Nat} (h : ArrAt w p m 0 #[] 0) : AInv w p m 0 [] 0 := ⟨h, .nil, .nil, (fun e he => by cases he), .nil, (fun e he => by cases he), Nat.zero_le _⟩
theorem AInv.below {w w' : World} {p m clk c : Nat} {M : List Ent} (h : AInv w p m clk M c) (hb : Below w.heap.size w w') : AInv w' p m clk M c := ⟨h.arr.below hb, h.keys, h.whens, h.last, h.borns, h.bound, h.len⟩
/-- behind Set -/
def setE (M : List Ent) (k : ByteArray) (kind : Int) (str : ByteArray) (clk c : Nat) : List Ent := match ixE M k with
  | some j => match M[j]? with
    | some e => M.set j ⟨k, e.when, kind, str, e.born⟩
    | none => M
  | none => M ++ [⟨k, clk + 1, kind, str, c⟩]
def delE (M : List Ent) (k : ByteArray) : List Ent := match ixE M k with
  | some j => M.eraseIdx j
  | none => M
theorem ixE_key {M : List Ent} {k : ByteArray} : (ixE M k).isSome = decide (k ∈ M.map (·.key)) := by
  cases h : ixE M k with
  | none =>
    have := ixE_none.1 h
    symm
    rw [Option.isSome_none, decide_eq_false_iff_not]
    intro hm
    obtain ⟨e, he, hk⟩ := List.mem_map.1 hm
    exact this e he hk
  | some j =>
    obtain ⟨e, he, hk⟩ := ixE_some h
    symm
    rw [Option.isSome_some, decide_eq_true_iff]
    exact List.mem_map.2 ⟨e, List.mem_of_getElem? he, hk⟩
theorem set_keys {M : List Ent} {k : ByteArray} {kind : Int} {str : ByteArray} {clk c : Nat} : (setE M k kind str clk c).map (·.key) = if k ∈ M.map (·.key) then M.map (·.key) else M.map (·.key) ++ [k] := by
  have hk := ixE_key (M := M) (k := k)
  unfold setE
  cases h : ixE M k with
  | none =>
    rw [h] at hk
    rw [if_neg (by simpa using hk.symm)]
    simp
  | some j =>
    rw [h] at hk
    obtain ⟨e, he, hke⟩ := ixE_some h
    rw [if_pos (by simpa using hk.symm)]
    simp only [he]
    apply List.ext_getElem?
    intro i
    rw [List.getElem?_map, List.getElem?_map, List.getElem?_set]
    by_cases hj : j = i
    · subst hj
      have hl := (List.getElem?_eq_some_iff.1 he).1
      simp only [if_true, hl, he]
      show some k = some e.key
      rw [hke]
    · rw [if_neg hj]
theorem set_field {M : List Ent} {j : Nat} {e e' : Ent} (f : Ent → Nat) (he : M[j]? = some e) (hf : f e' = f e) : (M.set j e').map f = M.map f := by
  apply List.ext_getElem?
  intro i
  rw [List.getElem?_map, List.getElem?_map, List.getElem?_set]
  by_cases hj : j = i
  · subst hj
    have hl := (List.getElem?_eq_some_iff.1 he).1
    simp only [if_true, hl, he]
    show some (f e') = some (f e)
    rw [hf]
  · rw [if_neg hj]
theorem pw_map {M : List Ent} (f : Ent → Nat) : (M.Pairwise fun a b => f a < f b) ↔ (M.map f).Pairwise (· < ·) := by rw [List.pairwise_map]
theorem AInv.set {w w' : World} {p m clk c : Nat} {M : List Ent} {k : ByteArray} {kind : Int} {str : ByteArray} {j : Nat} {e : Ent} (h : AInv w p m clk M c) (hj : ixE M k = some j) (he : M[j]? = some e)
    (ha : ArrAt w' p m (clk : Int) (mes (M.set j ⟨k, e.when, kind, str, e.born⟩)) c) : AInv w' p m clk (M.set j ⟨k, e.when, kind, str, e.born⟩) c := by
  obtain ⟨e2, h1, h2⟩ := ixE_some hj
  rw [he] at h1; cases h1
  have hkeys : (M.set j ⟨k, e.when, kind, str, e.born⟩).map (·.key) = M.map (·.key) := by
    have := set_keys (M := M) (k := k) (kind := kind) (str := str) (clk := clk) (c := c)
    unfold setE at this
    rw [hj] at this
    simp only [he] at this
    rw [this, if_pos (List.mem_map.2 ⟨e, List.mem_of_getElem? he, h2⟩)]
  have hm : ∀ x ∈ M.set j ⟨k, e.when, kind, str, e.born⟩, ∃ y ∈ M, x.when = y.when ∧ x.born = y.born := by
    intro x hx
    rcases List.mem_or_eq_of_mem_set hx with hx | rfl
    · exact ⟨x, hx, rfl, rfl⟩
    · exact ⟨e, List.mem_of_getElem? he, rfl, rfl⟩
  refine ⟨ha, by rw [hkeys]; exact h.keys, ?_, ?_, ?_, ?_, by rw [List.length_set]; exact h.len⟩
  · rw [pw_map, set_field (e' := ⟨k, e.when, kind, str, e.born⟩) Ent.when he rfl, ← pw_map]; exact h.whens
  · intro x hx
    obtain ⟨y, hy, e1, _⟩ := hm x hx
    rw [e1]; exact h.last y hy
  · rw [pw_map, set_field (e' := ⟨k, e.when, kind, str, e.born⟩) Ent.born he rfl, ← pw_map]; exact h.borns
  · intro x hx
    obtain ⟨y, hy, _, e1⟩ := hm x hx
    rw [e1]; exact h.bound y hy
theorem AInv.push {w w' : World} {p m clk c : Nat} {M : List Ent} {k : ByteArray} {kind : Int} {str : ByteArray} (h : AInv w p m clk M c) (hj : ixE M k = none)
    (ha : ArrAt w' p m ((clk + 1 : Nat) : Int) (mes (M ++ [⟨k, clk + 1, kind, str, c⟩])) (c + 1)) : AInv w' p m (clk + 1) (M ++ [⟨k, clk + 1, kind, str, c⟩]) (c + 1) := by
  refine ⟨ha, ?_, ?_, ?_, ?_, ?_, by simp; exact h.len⟩
  · rw [List.map_append, List.nodup_append]
    refine ⟨h.keys, by simp, fun a hma b hb e => ?_⟩
    simp at hb
    obtain ⟨x, hx, hk⟩ := List.mem_map.1 hma
    exact ixE_none.1 hj x hx (hk.trans (e.trans hb))
  · rw [List.pairwise_append]
    exact ⟨h.whens, List.pairwise_singleton _ _, fun a ha b hb => by simp at hb; subst hb; have := h.last a ha; show a.when < clk + 1; omega⟩
  · intro e he
    rcases List.mem_append.1 he with he | he
    · have := h.last e he; omega
    · simp at he; subst he; exact Nat.le_refl _
  · rw [List.pairwise_append]
    exact ⟨h.borns, List.pairwise_singleton _ _, fun a ha b hb => by simp at hb; subst hb; exact h.bound a ha⟩
  · intro e he
    rcases List.mem_append.1 he with he | he
    · have := h.bound e he; omega
    · simp at he; subst he; exact Nat.lt_succ_self _
theorem AInv.del {w w' : World} {p m clk c : Nat} {M : List Ent} {k : ByteArray} (h : AInv w p m clk M c) (ha : ArrAt w' p m (clk : Int) (mes (delE M k)) c) : AInv w' p m clk (delE M k) c := by
  have hs : (delE M k).Sublist M := by
    unfold delE
    split
    · exact List.eraseIdx_sublist _ _
    · exact .refl _
  exact ⟨ha, h.keys.sublist (hs.map _), h.whens.sublist hs, fun e he => h.last e (hs.subset he), h.borns.sublist hs, fun e he => h.bound e (hs.subset he), Nat.le_trans hs.length_le h.len⟩
theorem AInv.clear {w w' : World} {p m clk c : Nat} {M : List Ent} (h : AInv w p m clk M c) (ha : ArrAt w' p m (clk : Int) #[] c) : AInv w' p m clk [] c :=
  ⟨ha, .nil, .nil, (fun e he => by cases he), .nil, (fun e he => by cases he), Nat.zero_le _⟩

def kindE (M : List Ent) (k : ByteArray) : Int := if k ∈ M.map (·.key) then 1 else 0
theorem ent_slot {M : List Ent} {k : ByteArray} : ∃ x0 x1 x3, slotOf ((ixE M k).map fun j => (j, ((M[j]?).map Ent.val).getD zslot)) = .agg #[.int .i64 x0, .int .i64 x1, .float .f64 0, .string x3, .pointer none] ∧ kindOf ((ixE M k).map fun j => (j, ((M[j]?).map Ent.val).getD zslot)) none = kindE M k := by
  have hk := ixE_key (M := M) (k := k)
  cases h : ixE M k with
  | none =>
    rw [h] at hk
    refine ⟨0, 0, ⟨#[]⟩, rfl, ?_⟩
    unfold kindE
    rw [if_neg (by simpa using hk.symm)]; rfl
  | some j =>
    obtain ⟨e, he, hke⟩ := ixE_some h
    rw [h] at hk
    refine ⟨e.when, e.kind, e.str, by simp [slotOf, he, Ent.val], ?_⟩
    unfold kindE
    rw [if_pos (by simpa using hk.symm)]; rfl
theorem kindE_any {w : World} {p m clk c : Nat} {M : List Ent} (h : AInv w p m clk M c) (k : ByteArray) : Calls Tryz.prog 31 #[.pointer (some ⟨p, 0, none⟩), .string k] w fun e w' => e = .returned (.int .i64 (kindE M k)) ∧ Below w.heap.size w w' := by
  obtain ⟨x0, x1, x3, h1, h2⟩ := ent_slot (M := M) (k := k)
  rw [← h2]
  exact kind_any p m c (clk : Int) k (mes M) _ x0 x1 0 x3 none w h.arr (fnd_mes k M) h1
end Go.Proofs.YtflbhifdololfaaGreatDoor
