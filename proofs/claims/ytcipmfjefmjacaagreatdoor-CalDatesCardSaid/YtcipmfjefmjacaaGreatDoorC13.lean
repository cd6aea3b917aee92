/- Plain: six words with blanks between; the texts of numbers. -/
import Derived.Test.YtcipmfjefmjacaaGreatDoorC12
import Derived.Lib.MapLaws
import Derived.Lib.TrimAscii
namespace Go.Proofs.YtcipmfjefmjacaaGreatDoor
open Go.RowKit
set_option linter.unusedVariables false

theorem mapD_plain : ∀ l : List UInt8, (∀ c ∈ l, c.toNat < 128 ∧ 13 < c.toNat) → Lib.mapD blankF l = l
  | [], _ => rfl
  | c :: r, h => by
    have hc := h c (List.mem_cons_self ..)
    have hd := Lib.decodeL_ascii c r hc.1
    have hf : blankF (Lib.decodeL (c :: r)).1 = (Lib.decodeL (c :: r)).1 := by
      rw [hd]
      unfold blankF
      rw [if_neg]
      simp only
      omega
    rw [Lib.mapD_same blankF (c :: r) (by simp) hf (by rw [hd]; simp only; omega), hd]
    simp only [List.take_succ_cons, List.take_zero, List.drop_succ_cons, List.drop_zero, List.singleton_append]
    rw [mapD_plain r fun x hx => h x (List.mem_cons_of_mem _ hx)]
theorem fieldsGo_word : ∀ (w cur rest : List UInt8), (∀ c ∈ w, Lib.isSp c = false) → Lib.fieldsGo cur (w ++ rest) = Lib.fieldsGo (cur ++ w) rest
  | [], cur, rest, _ => by simp
  | c :: w, cur, rest, h => by
    rw [List.cons_append, Lib.fieldsGo_more cur c (w ++ rest) (h c (List.mem_cons_self ..)), fieldsGo_word w (cur ++ [c]) rest fun x hx => h x (List.mem_cons_of_mem _ hx)]
    simp
theorem digit_sp {c : UInt8} (h : 48 ≤ c.toNat ∧ c.toNat ≤ 57) : Lib.isSp c = false := by
  unfold Lib.isSp
  have h9 : c ≠ 9 := by rintro rfl; have := h.1; revert this; decide
  have h10 : c ≠ 10 := by rintro rfl; have := h.1; revert this; decide
  have h11 : c ≠ 11 := by rintro rfl; have := h.1; revert this; decide
  have h12 : c ≠ 12 := by rintro rfl; have := h.1; revert this; decide
  have h13 : c ≠ 13 := by rintro rfl; have := h.1; revert this; decide
  have h32 : c ≠ 32 := by rintro rfl; have := h.1; revert this; decide
  simp [h9, h10, h11, h12, h13, h32]
theorem fieldsGo_step {w rest : List UInt8} (h : Digits w) (hne : w ≠ []) : Lib.fieldsGo [] (w ++ 32 :: rest) = w :: Lib.fieldsGo [] rest := by
  rw [fieldsGo_word w [] _ fun c hc => digit_sp (h c hc), List.nil_append, Lib.fieldsGo_end w 32 rest (by decide) hne]
theorem fieldsGo_last {w : List UInt8} (h : Digits w) (hne : w ≠ []) : Lib.fieldsGo [] w = [w] := by
  have h2 := fieldsGo_word w [] [] fun c hc => digit_sp (h c hc)
  rw [List.append_nil, List.nil_append] at h2
  rw [h2]
  cases w with
  | nil => exact absurd rfl hne
  | cons _ _ => rfl
/-- six words, with blanks between -/
def sixL (w0 w1 w2 w3 w4 w5 : List UInt8) : List UInt8 := w0 ++ 32 :: (w1 ++ 32 :: (w2 ++ 32 :: (w3 ++ 32 :: (w4 ++ 32 :: w5))))
theorem fields_six {w0 w1 w2 w3 w4 w5 : List UInt8} (h0 : Digits w0 ∧ w0 ≠ []) (h1 : Digits w1 ∧ w1 ≠ []) (h2 : Digits w2 ∧ w2 ≠ []) (h3 : Digits w3 ∧ w3 ≠ []) (h4 : Digits w4 ∧ w4 ≠ []) (h5 : Digits w5 ∧ w5 ≠ []) :
    Lib.fields (sixL w0 w1 w2 w3 w4 w5) = [w0, w1, w2, w3, w4, w5] := by
  unfold Lib.fields sixL
  rw [fieldsGo_step h0.1 h0.2, fieldsGo_step h1.1 h1.2, fieldsGo_step h2.1 h2.2, fieldsGo_step h3.1 h3.2, fieldsGo_step h4.1 h4.2, fieldsGo_last h5.1 h5.2]
theorem six_plain {w0 w1 w2 w3 w4 w5 : List UInt8} (h0 : Digits w0) (h1 : Digits w1) (h2 : Digits w2) (h3 : Digits w3) (h4 : Digits w4) (h5 : Digits w5) : ∀ c ∈ sixL w0 w1 w2 w3 w4 w5, c.toNat < 128 ∧ 13 < c.toNat := by
  intro c hc
  unfold sixL at hc
  simp only [List.mem_append, List.mem_cons] at hc
  have hd : (48 ≤ c.toNat ∧ c.toNat ≤ 57) ∨ c = 32 := by
    rcases hc with h | h | h | h | h | h | h | h | h | h | h
    · exact .inl (h0 c h)
    · exact .inr h
    · exact .inl (h1 c h)
    · exact .inr h
    · exact .inl (h2 c h)
    · exact .inr h
    · exact .inl (h3 c h)
    · exact .inr h
    · exact .inl (h4 c h)
    · exact .inr h
    · exact .inl (h5 c h)
  rcases hd with h | h
  · omega
  · rw [h]; decide

theorem digVal_end (l : List UInt8) (c : UInt8) : digVal (l ++ [c]) = 10 * digVal l + (c.toNat - 48) := by
  unfold digVal; rw [List.foldl_append]; rfl
theorem dec_facts (k : Nat) : ∀ u : Nat, u < 10 ^ (k + 1) → Digits (Lib.decDigits u) ∧ Lib.decDigits u ≠ [] ∧ (Lib.decDigits u).length ≤ k + 1 ∧ digVal (Lib.decDigits u) = u := by
  induction k with
  | zero =>
    intro u hu
    have hu2 : u < 10 := by simpa using hu
    rw [Lib.decDigits, dif_pos hu2]
    have hn : (UInt8.ofNat (48 + u)).toNat = 48 + u := by rw [UInt8.toNat_ofNat', Nat.mod_eq_of_lt (by omega)]
    refine ⟨?_, by simp, by simp, ?_⟩
    · intro c hc
      rw [List.mem_singleton.1 hc, hn]; omega
    · unfold digVal; simp only [List.foldl_cons, List.foldl_nil]; rw [hn]; omega
  | succ k ih =>
    intro u hu
    by_cases hu2 : u < 10
    · rw [Lib.decDigits, dif_pos hu2]
      have hn : (UInt8.ofNat (48 + u)).toNat = 48 + u := by rw [UInt8.toNat_ofNat', Nat.mod_eq_of_lt (by omega)]
      refine ⟨?_, by simp, by simp, ?_⟩
      · intro c hc
        rw [List.mem_singleton.1 hc, hn]; omega
      · unfold digVal; simp only [List.foldl_cons, List.foldl_nil]; rw [hn]; omega
    · rw [Lib.decDigits, dif_neg hu2]
      obtain ⟨h1, h2, h3, h4⟩ := ih (u / 10) (by rw [Nat.pow_succ] at hu; omega)
      have hn : (UInt8.ofNat (48 + u % 10)).toNat = 48 + u % 10 := by rw [UInt8.toNat_ofNat', Nat.mod_eq_of_lt (by omega)]
      refine ⟨?_, by simp, by simp; omega, ?_⟩
      · intro c hc
        rcases List.mem_append.1 hc with h | h
        · exact h1 c h
        · rw [List.mem_singleton.1 h, hn]; omega
      · rw [digVal_end, h4, hn]; omega
theorem itoa_facts {y : Int} (h1 : 0 ≤ y) (h2 : y < 10000) : Digits (Lib.itoa y) ∧ Lib.itoa y ≠ [] ∧ (Lib.itoa y).length ≤ 4 ∧ digVal (Lib.itoa y) = y.toNat := by
  have e : Lib.itoa y = Lib.decDigits y.toNat := by unfold Lib.itoa; rw [if_neg (by omega)]
  rw [e]
  exact dec_facts 3 y.toNat (by show _ < 10000; omega)
theorem itoa_small {n : Int} (h1 : 0 ≤ n) (h2 : n ≤ 999) : (Lib.itoa n).length ≤ 100 := by
  have := (itoa_facts h1 (by omega)).2.2.1
  omega
theorem wide_facts {n : Int} (h1 : 0 ≤ n) (h2 : n < 100) : Digits (wideL n 2 [48]) ∧ wideL n 2 [48] ≠ [] ∧ (wideL n 2 [48]).length ≤ 4 ∧ digVal (wideL n 2 [48]) = n.toNat := by
  have hall : ((List.range 100).all fun k => ((wideL (k : Int) 2 [48]).all fun c => decide (48 ≤ c.toNat ∧ c.toNat ≤ 57)) && !(wideL (k : Int) 2 [48]).isEmpty && decide ((wideL (k : Int) 2 [48]).length ≤ 4) && (digVal (wideL (k : Int) 2 [48]) == k)) = true := by kernel_rfl
  have h := List.all_eq_true.1 hall n.toNat (List.mem_range.2 (by omega))
  rw [show ((n.toNat : Nat) : Int) = n by omega] at h
  simp only [Bool.and_eq_true, decide_eq_true_eq, beq_iff_eq, Bool.not_eq_true', List.isEmpty_eq_false_iff] at h
  exact ⟨digits_of h.1.1.1, h.1.1.2, h.1.2, h.2⟩
end Go.Proofs.YtcipmfjefmjacaaGreatDoor
