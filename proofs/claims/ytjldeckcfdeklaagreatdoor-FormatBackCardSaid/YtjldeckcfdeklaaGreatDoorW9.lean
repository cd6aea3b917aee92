/- FormatBack by the verb G: plain: what general strikes, and capitals. -/
import Derived.Test.YtjldeckcfdeklaaGreatDoorW8
namespace Go.Proofs.YtjldeckcfdeklaaGreatDoor
open Go.RowKit
set_option linter.unusedVariables false

theorem dw_app_all {p : UInt8 → Bool} : ∀ (l r : List UInt8), (∀ c ∈ l, p c = true) → (l ++ r).dropWhile p = r.dropWhile p
  | [], r, _ => rfl
  | c :: l, r, h => by
    rw [List.cons_append, List.dropWhile_cons, if_pos (h c List.mem_cons_self)]
    exact dw_app_all l r fun x hx => h x (List.mem_cons_of_mem _ hx)
theorem dw_app_some {p : UInt8 → Bool} : ∀ (l r : List UInt8), l.dropWhile p ≠ [] → (l ++ r).dropWhile p = l.dropWhile p ++ r
  | [], r, h => absurd rfl h
  | c :: l, r, h => by
    rw [List.cons_append, List.dropWhile_cons, List.dropWhile_cons]
    rw [List.dropWhile_cons] at h
    split
    · rename_i hc
      rw [if_pos hc] at h
      exact dw_app_some l r h
    · rfl
/-- digits without noughts behind, and how many those were -/
theorem trim_split (D : List UInt8) : ∃ j, D = Lib.trimRightB D 48 ++ List.replicate j 48 := by
  have h := List.takeWhile_append_dropWhile (p := fun c : UInt8 => c == 48) (l := D.reverse)
  obtain ⟨T, hT⟩ : ∃ T, T = D.reverse.takeWhile fun c => c == 48 := ⟨_, rfl⟩
  have hz : T = List.replicate T.length 48 := by
    refine List.eq_replicate_iff.2 ⟨rfl, fun c hc => ?_⟩
    rw [hT] at hc
    have := tw_all _ _ _ hc
    simpa using this
  rw [← hT] at h
  have h2 := congrArg List.reverse h
  rw [List.reverse_append, List.reverse_reverse] at h2
  have h3 := congrArg List.reverse hz
  rw [List.reverse_replicate] at h3
  refine ⟨T.length, ?_⟩
  rw [← h3]
  exact h2.symm
/-- what general strikes of digits, a point and digits -/
theorem trim_text (D1 D2 : List UInt8) (h1 : Digits D1) (h2 : Digits D2) (hne : 0 < D1.length) :
    ∃ D j, D2 = D ++ List.replicate j 48 ∧ Lib.trimSuffix (Lib.trimRightB (D1 ++ 46 :: D2) 48) [46] = (if D = [] then D1 else D1 ++ 46 :: D) := by
  obtain ⟨j, hj⟩ := trim_split D2
  refine ⟨Lib.trimRightB D2 48, j, hj, ?_⟩
  have hrev : (D1 ++ 46 :: D2).reverse = D2.reverse ++ 46 :: D1.reverse := by simp
  by_cases hz : Lib.trimRightB D2 48 = []
  · rw [if_pos hz]
    have hall : ∀ c ∈ D2.reverse, (c == (48 : UInt8)) = true := by
      intro c hc
      rw [hz, List.nil_append] at hj
      rw [hj, List.reverse_replicate] at hc
      rw [List.eq_of_mem_replicate hc]
      rfl
    have e : Lib.trimRightB (D1 ++ 46 :: D2) 48 = D1 ++ [46] := by
      unfold Lib.trimRightB
      rw [hrev, dw_app_all _ _ hall, List.dropWhile_cons, if_neg (by decide)]
      simp
    rw [e]
    unfold Lib.trimSuffix
    rw [if_pos (by unfold Lib.hasSuffix; simp [List.isSuffixOf])]
    simp
  · rw [if_neg hz]
    have hd : D2.reverse.dropWhile (fun c => c == 48) ≠ [] := fun h => hz (by unfold Lib.trimRightB; rw [h]; rfl)
    have e : Lib.trimRightB (D1 ++ 46 :: D2) 48 = D1 ++ 46 :: Lib.trimRightB D2 48 := by
      unfold Lib.trimRightB
      rw [hrev, dw_app_some _ _ hd]
      simp
    rw [e]
    unfold Lib.trimSuffix
    rw [if_neg]
    intro hs
    have h3 : [46] <:+ D1 ++ 46 :: Lib.trimRightB D2 48 := List.isSuffixOf_iff_suffix.1 hs
    obtain ⟨pre, hp⟩ := h3
    have h4 := congrArg List.getLast? hp
    rw [List.getLast?_append, List.getLast?_append] at h4
    obtain ⟨c, hc⟩ : ∃ c, (Lib.trimRightB D2 48).getLast? = some c := by
      cases hg : (Lib.trimRightB D2 48).getLast? with
      | none => exact absurd (List.getLast?_eq_none_iff.1 hg) hz
      | some c => exact ⟨c, rfl⟩
    have hcm : c ∈ D2 := by
      rw [hj]
      exact List.mem_append_left _ (List.mem_of_getLast? hc)
    have hcd := h2 c hcm
    rw [show (46 :: Lib.trimRightB D2 48) = [46] ++ Lib.trimRightB D2 48 from rfl, List.getLast?_append, hc] at h4
    simp at h4
    rw [← h4] at hcd
    revert hcd
    decide
theorem upper_app (l r : List UInt8) : Lib.toUpperA (l ++ r) = Lib.toUpperA l ++ Lib.toUpperA r := by unfold Lib.toUpperA; rw [List.map_append]
theorem upper_rep (n : Nat) (c : UInt8) (h : Lib.upperB c = c) : Lib.toUpperA (List.replicate n c) = List.replicate n c := by unfold Lib.toUpperA; rw [List.map_replicate, h]
theorem upper_digits {l : List UInt8} (h : Digits l) : Lib.toUpperA l = l := by
  unfold Lib.toUpperA
  refine (List.map_congr_left (g := id) fun c hc => ?_).trans (List.map_id l)
  have h1 := h c hc
  have h2 : ∀ n, n < 58 → 48 ≤ n → Lib.upperB (UInt8.ofNat n) = UInt8.ofNat n := by decide
  have h3 := h2 c.toNat (by omega) h1.1
  rw [UInt8.ofNat_toNat] at h3
  exact h3
theorem upper_sign (p b m : Bool) : Lib.toUpperA (signL p b m) = signL p b m := by
  unfold signL
  cases m <;> cases p <;> cases b <;> decide
theorem upper_len (l : List UInt8) : (Lib.toUpperA l).length = l.length := by unfold Lib.toUpperA; rw [List.length_map]
theorem upper_pad (m z : Bool) (wd : Int) (p b n : Bool) (s : List UInt8) : Lib.toUpperA (padL m z wd (signL p b n) s) = padL m z wd (signL p b n) (Lib.toUpperA s) := by
  unfold padL
  rw [upper_len]
  cases m
  · cases z
    · rw [if_neg (by decide), if_neg (by decide), if_neg (by decide), if_neg (by decide), upper_app, upper_app, upper_sign, upper_rep _ _ (by decide)]
    · rw [if_neg (by decide), if_pos rfl, if_neg (by decide), if_pos rfl, upper_app, upper_app, upper_sign, upper_rep _ _ (by decide)]
  · rw [if_pos rfl, if_pos rfl, upper_app, upper_app, upper_sign, upper_rep _ _ (by decide)]
end Go.Proofs.YtjldeckcfdeklaaGreatDoor
