/- A region that draws its order, with guards, by an invariant: each operation is walked once; what a guard passes over too. -/
import Derived.Test.YtcmpdamfeoaapaaGreatDoorM7
namespace Go.Proofs.YtcmpdamfeoaapaaGreatDoor
open Go.RowKit

theorem wp_region_guarded {P : Program} {ops : Array Oper} {Q : Exit → Act → World → Prop} {id : Nat} {a : Act} {w : World} (hm : P.follows .mixedOrders = true) (hord : orderedOps ops = true)
    (I : Act → World → (Nat → Bool) → Act → World → Prop) (h0 : I a w (fun _ => false) a w.drew)
    (hstep : AllOps (fun i o => ∀ (L : Nat → Bool) (a' : Act) (W : World), I a w L a' W → L i = false → (∀ j ∈ depsOf o, L j = true) → ∀ K : Act → World → Prop, (∀ a'' W', I a w (upd L i) a'' W' → K a'' W') →
      if Region.wanted o (yielded ops a'.tmps) = true then Oper.wp P o a' W K Q else K (a'.put o.dst undef) W) ops.toList 0)
    (hdone : ∀ (L : Nat → Bool) (a' : Act) (W : World), (∀ i, i < ops.size → L i = true) → I a w L a' W → Q .normal a' W) : (Code.region id ops true).wp P Q a w := by
  refine wp_region_inv hm hord (I a w) h0 ?_ hdone
  intro L a' W i o ho hI hL hd
  have ho' : ops.toList[i]? = some o := by simpa using ho
  have h := AllOps.get _ 0 i o hstep ho'
  rw [Nat.zero_add] at h
  have hdd : ∀ j ∈ depsOf o, L j = true := by
    intro j hj
    obtain ⟨e, he, rfl⟩ := List.mem_map.1 hj
    obtain ⟨he1, he2⟩ := List.mem_filter.1 he
    exact hd e (by simpa using he1) he2
  have h1 := h L a' W hI hL hdd (I a w (upd L i)) (fun _ _ h => h)
  unfold wpOp
  rw [ho]
  show if Region.wanted o (yielded ops a'.tmps) then _ else _
  by_cases hw : Region.wanted o (yielded ops a'.tmps) = true
  · rw [if_pos hw] at h1 ⊢
    exact .inl h1
  · rw [if_neg hw] at h1 ⊢
    exact h1
/-- u with the value of operation k -/
def withVal (u : Nat → Value) (k : Nat) (v : Value) : Nat → Value := fun i => if i = k then v else u i
theorem withVal_next {L : Nat → Bool} {u vals : Nat → Value} (E : Hid (∀ i, L i = true → u i = vals i)) (k : Nat) (v : Value) (hv : vals k = v) : Hid (∀ i, upd L k i = true → withVal u k v i = vals i) := by
  intro i hi
  unfold withVal
  by_cases h : i = k
  · rw [if_pos h, h, hv]
  · rw [if_neg h]
    rw [upd_other _ h] at hi
    exact E.out i hi
theorem withVal_same {L : Nat → Bool} {u vals : Nat → Value} (E : Hid (∀ i, L i = true → u i = vals i)) (k : Nat) (v : Value) (hv : vals k = v) : Hid (∀ i, L i = true → withVal u k v i = vals i) := by
  intro i hi
  unfold withVal
  by_cases h : i = k
  · rw [if_pos h, h, hv]
  · rw [if_neg h]
    exact E.out i hi
theorem ite_skip {c A B : Prop} [Decidable c] (hc : ¬ c) (h : B) : if c then A else B := by
  rw [if_neg hc]
  exact h
theorem ite_take {c A B : Prop} [Decidable c] (hc : c) (h : A) : if c then A else B := by
  rw [if_pos hc]
  exact h
/-- the i-th of a list of values -/
def valAt (l : List Value) (i : Nat) : Value := (l[i]?).getD undef
end Go.Proofs.YtcmpdamfeoaapaaGreatDoor
