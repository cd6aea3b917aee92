/- A drawn region that lays one element and appends it: its world, and which operations have come up. -/
import Derived.Test.YtflbhifdololfaaGreatDoorG3
namespace Go.Proofs.YtflbhifdololfaaGreatDoor
open Go.RowKit

/-- the world of a region that lays one element and appends it -/
structure StA (V0 W : World) (D : Nat) (e : TypeId) (size : Nat) (m t : Bool) (obj : Obj) (u v : Value) (n : Nat) (xs : List Value) : Prop where
  raw : m = false → t = false ∧ W = V0.drew
  laid : m = true → t = false → W = V0.drew.alloc obj
  done : t = true → m = true ∧ (∃ g cap, v = .slice (some ⟨g, 0, none⟩) n cap) ∧ W.ownsRow D e size v n xs ∧ Below D V0 W
  ptr : m = true → u = .slice (some ⟨V0.heap.size, 0, none⟩) 1 1
theorem StA.start (V0 : World) (D : Nat) (e : TypeId) (size : Nat) (obj : Obj) (u v : Value) (n : Nat) (xs : List Value) : StA V0 V0.drew D e size false false obj u v n xs :=
  ⟨fun _ => ⟨rfl, rfl⟩, fun h => (by cases h), fun h => (by cases h), fun h => (by cases h)⟩
theorem StA.alloc {V0 W : World} {D : Nat} {e : TypeId} {size : Nat} {t : Bool} {obj : Obj} {u v : Value} {n : Nat} {xs : List Value} (h : StA V0 W D e size false t obj u v n xs) : StA V0 (W.alloc obj) D e size true t obj (.slice (some ⟨W.heap.size, 0, none⟩) 1 1) v n xs := by
  obtain ⟨rfl, rfl⟩ := h.raw rfl
  exact ⟨fun h => (by cases h), fun _ _ => rfl, fun h => (by cases h), fun _ => rfl⟩
/-- what has come up is closed -/
def Cl (D : List (List Nat)) (L : Nat → Bool) : Prop := ∀ j d, d ∈ D.getD j [] → L j = true → L d = true
theorem Cl.start (D : List (List Nat)) : Cl D (fun _ => false) := fun _ _ _ h => by cases h
theorem Cl.upd {D : List (List Nat)} {L : Nat → Bool} (h : Cl D L) (k : Nat) (hd : ∀ d ∈ D.getD k [], L d = true) : Cl D (upd L k) := by
  intro j d hm hj
  by_cases e : d = k
  · subst e; exact upd_self L d
  · rw [upd_other L e]
    by_cases e2 : j = k
    · subst e2; exact hd d hm
    · rw [upd_other L e2] at hj
      exact h j d hm hj
end Go.Proofs.YtflbhifdololfaaGreatDoor
