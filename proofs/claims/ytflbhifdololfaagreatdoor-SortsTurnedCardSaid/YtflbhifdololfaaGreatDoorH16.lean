/- thresherlaw07.SortsTurned, walked. -/
import Derived.Test.YtflbhifdololfaaGreatDoorH14
namespace Go.Proofs.YtflbhifdololfaaGreatDoor
open Go.RowKit
set_option linter.unusedVariables false

/-- entries with unlike keys -/
def Unlike (L : List En) : Prop := ∀ (i j : Nat) (x y : En), i < j → L[i]? = some x → L[j]? = some y → x.key ≠ y.key
theorem turned7 {cmp : En → En → Int} {L : List En} {n : Nat} (hO : CmpOrd cmp L) (hn : n = L.length) (hne : ∀ x ∈ L, ∀ y ∈ L, x.key ≠ y.key → cmp x y ≠ 0) (hU : Unlike L) :
    H.order (ltL cmp true L) n = (H.order (ltL cmp false L) n).reverse := by
  obtain ⟨h1, h2⟩ := H.order_ok (ord_of (fl := false) hO hn)
  refine order_is hO hn ((List.reverse_perm _).trans h1) ?_
  rw [List.pairwise_reverse]
  have hnd : (H.order (ltL cmp false L) n).Nodup := h1.nodup_iff.2 List.nodup_range
  refine (h2.and hnd).imp_of_mem ?_
  rintro i j hi hj ⟨hle, hij⟩
  have hin := List.mem_range.1 (h1.mem_iff.1 hi)
  have hjn := List.mem_range.1 (h1.mem_iff.1 hj)
  obtain ⟨x, hx⟩ : ∃ e, L[i]? = some e := ⟨_, List.getElem?_eq_getElem (by omega)⟩
  obtain ⟨y, hy⟩ : ∃ e, L[j]? = some e := ⟨_, List.getElem?_eq_getElem (by omega)⟩
  have mx := List.mem_of_getElem? hx
  have my := List.mem_of_getElem? hy
  rw [le_iff hO hx hy] at hle
  rw [le_iff hO hy hx]
  simp only [Bool.false_eq_true, if_false] at hle
  simp only [if_true]
  have ha := hO.anti x mx y my
  have hk : x.key ≠ y.key := by
    rcases Nat.lt_or_ge i j with h | h
    · exact hU i j x y h hx hy
    · exact (hU j i y x (by omega) hy hx).symm
  have hz := hne x mx y my hk
  exact ⟨by omega, fun h => by omega⟩
theorem cmpB_zero : ∀ a b : List UInt8, Lib.compareBytes a b = 0 → a = b := by
  intro a b h
  rcases cmpB_le a b (by omega) with h1 | h1
  · exfalso
    have h2 := cmpB_anti a b
    rcases cmpB_le b a (by omega) with h3 | h3
    · exact absurd (List.lt_trans h1 h3) (List.lt_irrefl _)
    · subst h3; exact absurd h1 (List.lt_irrefl _)
  · exact h1
theorem keys_ne (x y : En) (h : x.key ≠ y.key) : cKeys x y ≠ 0 := by
  intro h0
  have := cmpB_zero _ _ h0
  apply h
  cases hx : x.key; cases hy : y.key
  rw [hx, hy] at this
  simpa using this
theorem nums_ne (x y : En) (h : x.key ≠ y.key) : cNums x y ≠ 0 := by
  unfold cNums
  split
  · exact keys_ne x y h
  · assumption
end Go.Proofs.YtflbhifdololfaaGreatDoor
