/- FormatBack by the verb G: the value of what is left: plain. -/
import Derived.Test.YtjldeckcfdeklaaGreatDoorW9
namespace Go.Proofs.YtjldeckcfdeklaaGreatDoor
open Go.RowKit
set_option linter.unusedVariables false

theorem digVal_back (l : List UInt8) (j : Nat) : digVal (l ++ List.replicate j 48) = digVal l * 10 ^ j := by
  induction j with
  | zero => simp
  | succ j ih =>
    rw [List.replicate_succ', ← List.append_assoc, digVal_snoc, ih, Nat.pow_succ]
    have : (48 : UInt8).toNat - 48 = 0 := by decide
    rw [this, Nat.mul_comm 10, Nat.mul_assoc, Nat.add_zero]
/-- digits, noughts struck, are read as the float -/
theorem read_struck {b : Nat} {i j : Nat} {M D2 D : List UInt8} {X : Int} (hf : fin b = true) (hM : Digits (M ++ D)) (hj : D2 = D ++ List.replicate j 48)
    (hv : (mant b = 0 ∧ ∀ c ∈ M ++ D2, c = 48) ∨ (10 ^ 16 ≤ scaledN b ((D2.length : Int) - X) ∧ digVal (M ++ D2) = scaledN b ((D2.length : Int) - X)))
    (h2 : D2.length ≤ 20) (hX1 : -325 ≤ X) (hX2 : (M.length : Int) + X ≤ 310) (hMl : M.length ≤ 60) (hX3 : X ≤ 309) :
    readN (List.replicate i 48 ++ (M ++ D)) (X - D.length) = absF b := by
  have hlen : D2.length = D.length + j := by rw [hj]; simp
  rcases hv with ⟨hm, hz⟩ | ⟨hN, hv⟩
  · have e : List.replicate i 48 ++ (M ++ D) = List.replicate (i + (M ++ D).length) 48 := by
      rw [← List.replicate_append_replicate]
      congr 1
      refine List.eq_replicate_iff.2 ⟨rfl, fun c hc => hz c ?_⟩
      rcases List.mem_append.1 hc with h | h
      · exact List.mem_append_left _ h
      · rw [hj]; exact List.mem_append_right _ (List.mem_append_left _ h)
    rw [e]
    unfold readN
    rw [bare_all, if_pos rfl]
    exact (mant_zero (abs_fin hf) (by rw [abs_mant]; exact hm)).symm
  · rw [hj, ← List.append_assoc, digVal_back] at hv
    rw [← hj] at hv
    have hvz : digVal (List.replicate i 48 ++ (M ++ D)) * 10 ^ j = scaledN (absF b) ((D2.length : Int) - X) := by rw [digVal_zeros, abs_scaled]; exact hv
    obtain ⟨B, hB⟩ : ∃ B, B = bare (List.replicate i 48 ++ (M ++ D)) := ⟨_, rfl⟩
    have hBe : B = bare (M ++ D) := by rw [hB, bare_zeros]
    have hBl : B.length ≤ M.length + D.length := by
      rw [hBe]
      have : (bare (M ++ D)).length ≤ (M ++ D).length := (List.dropWhile_sublist _).length_le
      simpa using this
    have hBd : Digits B := fun c hc => hM c (by rw [hBe] at hc; exact (List.dropWhile_sublist _).subset hc)
    have hBv : digVal B = digVal (M ++ D) := by rw [hBe, digVal_bare]
    have hlt := digVal_lt hBd
    have hBj : 17 ≤ B.length + j := by
      rcases Nat.lt_or_ge (B.length + j) 17 with h | h
      · exfalso
        have h3 : digVal (M ++ D) * 10 ^ j < 10 ^ B.length * 10 ^ j := Nat.mul_lt_mul_of_pos_right (by rw [← hBv]; exact hlt) (Nat.pow_pos (by decide))
        rw [← Nat.pow_add] at h3
        have h4 : 10 ^ (B.length + j) ≤ 10 ^ 16 := Nat.pow_le_pow_right (by decide) (by omega)
        omega
      · exact h
    rw [abs_scaled] at hvz
    have h := read_value (a := absF b) (k := (D2.length : Int) - X) (D := List.replicate i 48 ++ (M ++ D)) (j := j) (abs_fin hf) (by rw [abs_scaled]; exact hN) (by rw [abs_scaled]; exact hvz) (by rw [← hB]; omega) (by omega) (by omega) (by rw [← hB]; omega) (by rw [← hB]; omega)
    rw [show (j : Int) - ((D2.length : Int) - X) = X - D.length by omega] at h
    exact h
theorem zeros_cat {i : Nat} {M : List UInt8} (h : Digits M) : Digits (List.replicate i 48 ++ M) := fun c hc => by
  rcases List.mem_append.1 hc with hc | hc
  · rw [List.eq_of_mem_replicate hc]; decide
  · exact h c hc
theorem head_cat {M t : List UInt8} (hM : Digits M) (h0 : 0 < M.length) : ∃ c r, M ++ t = c :: r ∧ 48 ≤ c.toNat ∧ c.toNat ≤ 57 := by
  cases M with
  | nil => simp at h0
  | cons c r => exact ⟨c, r ++ t, rfl, hM c List.mem_cons_self⟩
section
variable (m p bl z : Bool) (wc : Int) {b : Nat} (hb : b < 18446744073709551616) (hf : fin b = true) {M D2 tl : List UInt8} {X : Int} (hM : Digits M) (h0 : 0 < M.length) (hD2 : Digits D2)
  (htl : ∀ jj, NoDig (tl ++ List.replicate jj 32) ∧ (∀ r, tl ++ List.replicate jj 32 ≠ 46 :: r) ∧ ∃ nT, expL (tl ++ List.replicate jj 32) = (X, nT))
  (hv : (mant b = 0 ∧ ∀ c ∈ M ++ D2, c = 48) ∨ (10 ^ 16 ≤ scaledN b ((D2.length : Int) - X) ∧ digVal (M ++ D2) = scaledN b ((D2.length : Int) - X)))
  (h2 : D2.length ≤ 20) (hX1 : -325 ≤ X) (hX2 : (M.length : Int) + X ≤ 310) (hMl : M.length ≤ 60) (hX3 : X ≤ 309)
include hb hf hM h0 hD2 htl hv h2 hX1 hX2 hMl hX3
theorem rd_pt {D : List UInt8} {j : Nat} (hj : D2 = D ++ List.replicate j 48) : prefB (padL m z wc (signL p bl (decide (9223372036854775808 ≤ b))) (M ++ 46 :: (D ++ tl))) = b ∧ 0 < prefN (padL m z wc (signL p bl (decide (9223372036854775808 ≤ b))) (M ++ 46 :: (D ++ tl))) := by
  have hD : Digits D := fun c hc => hD2 c (by rw [hj]; exact List.mem_append_left _ hc)
  have hMD : Digits (M ++ D) := fun c hc => (List.mem_append.1 hc).elim (hM c) (hD c)
  have h := pad_pref m p bl z (decide (9223372036854775808 ≤ b)) wc (M ++ 46 :: (D ++ tl)) (M ++ D) (X - D.length) (absF b) (head_cat hM h0) (fun i jj => ?_) (fun i => read_struck hf hMD hj hv h2 hX1 hX2 hMl hX3)
  · rw [abs_back hb] at h
    exact h
  · obtain ⟨t1, t2, nT, t3⟩ := htl jj
    have e0 : List.replicate i 48 ++ (M ++ 46 :: (D ++ tl) ++ List.replicate jj 32) = List.replicate i 48 ++ M ++ 46 :: (D ++ (tl ++ List.replicate jj 32)) := by simp [List.append_assoc]
    rw [e0]
    have hm := mant_point (D1 := List.replicate i 48 ++ M) (D2 := D) (t := tl ++ List.replicate jj 32) (zeros_cat hM) hD (by simp; omega) t1
    unfold numeralL
    rw [hm]
    have hne : List.replicate i 48 ++ M ++ D ≠ [] := by
      intro h
      have := congrArg List.length h
      simp only [List.length_append, List.length_nil, List.length_replicate] at this
      omega
    rw [if_neg hne]
    refine ⟨(List.replicate i 48 ++ M).length + 1 + D.length + nT, by omega, ?_⟩
    dsimp only
    rw [drop_point, t3]
    simp [List.append_assoc]
    omega
omit hD2 in
theorem rd_np {j : Nat} (hj : D2 = List.replicate j 48) : prefB (padL m z wc (signL p bl (decide (9223372036854775808 ≤ b))) (M ++ tl)) = b ∧ 0 < prefN (padL m z wc (signL p bl (decide (9223372036854775808 ≤ b))) (M ++ tl)) := by
  have h := pad_pref m p bl z (decide (9223372036854775808 ≤ b)) wc (M ++ tl) (M ++ []) (X - ([] : List UInt8).length) (absF b) (head_cat hM h0) (fun i jj => ?_) (fun i => read_struck hf (by rw [List.append_nil]; exact hM) (by rw [hj]; rfl) hv h2 hX1 hX2 hMl hX3)
  · rw [abs_back hb] at h
    exact h
  · obtain ⟨t1, t2, nT, t3⟩ := htl jj
    have e0 : List.replicate i 48 ++ (M ++ tl ++ List.replicate jj 32) = List.replicate i 48 ++ M ++ (tl ++ List.replicate jj 32) := by simp [List.append_assoc]
    rw [e0]
    have hm := mant_whole (D1 := List.replicate i 48 ++ M) (t := tl ++ List.replicate jj 32) (zeros_cat hM) t1 t2
    unfold numeralL
    rw [hm]
    have hne : List.replicate i 48 ++ M ≠ [] := by
      intro h
      have := congrArg List.length h
      simp only [List.length_append, List.length_nil, List.length_replicate] at this
      omega
    rw [if_neg hne]
    refine ⟨(List.replicate i 48 ++ M).length + nT, by rw [List.length_append]; omega, ?_⟩
    dsimp only
    rw [List.drop_left, t3]
    simp
theorem rd_any (al : Bool) : prefB (padL m z wc (signL p bl (decide (9223372036854775808 ≤ b))) ((if al = true then M ++ 46 :: D2 else Lib.trimSuffix (Lib.trimRightB (M ++ 46 :: D2) 48) [46]) ++ tl)) = b ∧ 0 < prefN (padL m z wc (signL p bl (decide (9223372036854775808 ≤ b))) ((if al = true then M ++ 46 :: D2 else Lib.trimSuffix (Lib.trimRightB (M ++ 46 :: D2) 48) [46]) ++ tl)) := by
  cases al
  · obtain ⟨D, j, hj, he⟩ := trim_text M D2 hM hD2 h0
    rw [if_neg (by decide), he]
    by_cases hD : D = []
    · rw [if_pos hD]
      subst hD
      exact rd_np m p bl z wc hb hf hM h0 htl hv h2 hX1 hX2 hMl hX3 hj
    · rw [if_neg hD, show M ++ 46 :: D ++ tl = M ++ 46 :: (D ++ tl) by simp]
      exact rd_pt m p bl z wc hb hf hM h0 hD2 htl hv h2 hX1 hX2 hMl hX3 hj
  · rw [if_pos rfl, show M ++ 46 :: D2 ++ tl = M ++ 46 :: (D2 ++ tl) by simp]
    exact rd_pt m p bl z wc hb hf hM h0 hD2 htl hv h2 hX1 hX2 hMl hX3 (D := D2) (j := 0) (by simp)
end
end Go.Proofs.YtjldeckcfdeklaaGreatDoor
