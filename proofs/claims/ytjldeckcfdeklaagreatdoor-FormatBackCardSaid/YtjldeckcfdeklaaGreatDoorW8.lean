/- FormatBack by the verb e: what is written is read back: plain. -/
import Derived.Test.YtjldeckcfdeklaaGreatDoorW7
namespace Go.Proofs.YtjldeckcfdeklaaGreatDoor
open Go.RowKit
set_option linter.unusedVariables false

/-- a float without its sign -/
def absF (b : Nat) : Nat := b % 9223372036854775808
theorem abs_mant (b : Nat) : mant (absF b) = mant b := by
  unfold absF mant
  rw [Nat.mod_mod, Nat.mod_mod_of_dvd b (⟨2048, by decide⟩ : 4503599627370496 ∣ 9223372036854775808)]
theorem abs_expo (b : Nat) : expo (absF b) = expo b := by
  unfold absF expo
  rw [Nat.mod_mod]
theorem abs_scaled (b : Nat) (k : Int) : scaledN (absF b) k = scaledN b k := by
  unfold scaledN
  rw [abs_mant, abs_expo]
theorem abs_fin {b : Nat} (h : fin b = true) : absF b < 9218868437227405312 := fin_mod.1 h
theorem abs_back {b : Nat} (hb : b < 18446744073709551616) : (if decide (9223372036854775808 ≤ b) = true then absF b + 9223372036854775808 else absF b) = b := by
  unfold absF
  split
  · rename_i h
    have := of_decide_eq_true h
    omega
  · rename_i h
    have : ¬ 9223372036854775808 ≤ b := fun h2 => h (decide_eq_true h2)
    omega
theorem digVal_zeros (i : Nat) (D : List UInt8) : digVal (List.replicate i 48 ++ D) = digVal D := by
  rw [← digVal_bare, ← digVal_bare D, bare_zeros]
/-- where the first of seventeen digits stands -/
theorem sci_at {b : Nat} (hb : b < 18446744073709551616) (hf : fin b = true) (hm : mant b ≠ 0) : 10 ^ 16 ≤ scaledN b ((16 : Int) - sciE b 16) ∧ Canon (sciD b 16) (scaledN b ((16 : Int) - sciE b 16)) := by
  refine Calls.fact (Sci_loop b 16 default hb hf (by decide) (Nat.pos_of_ne_zero hm)) fun _ _ h => ?_
  obtain ⟨s, x, _, hc, _, hsa, _, _, _⟩ := h
  have e1 : sciE b 16 = x := by unfold sciE; rw [if_neg hm, sciX_eq hsa]
  have e2 : sciD b 16 = s.data.toList := by unfold sciD; rw [if_neg hm, sciX_eq hsa, dl_eq hc]
  rw [e1, e2]
  exact ⟨hsa.ge, hc⟩
/-- the power's digits -/
def expE (n : Nat) : List UInt8 := (if n < 10 then [48] else []) ++ Lib.itoa (n : Int)
theorem expE_tab : ((List.range 326).all fun n => ((expE n).all fun c => decide (48 ≤ c.toNat) && decide (c.toNat ≤ 57)) && (powN (expE n) == n) && decide (0 < (expE n).length)) = true := by kernel_rfl
theorem expE_ok {n : Nat} (h : n ≤ 325) : Digits (expE n) ∧ powN (expE n) = n ∧ 0 < (expE n).length := by
  have h1 := List.all_eq_true.1 expE_tab n (List.mem_range.2 (by omega))
  simp only [Bool.and_eq_true, decide_eq_true_eq, beq_iff_eq] at h1
  refine ⟨fun c hc => ?_, h1.1.2, h1.2⟩
  have h2 := List.all_eq_true.1 h1.1.1 c hc
  simpa using h2
theorem ext_list5 (s : ByteArray) (i j : Nat) : (s.extract i j).data.toList = (s.data.toList.take j).drop i := by
  rw [show (s.extract i j).data = s.data.extract i j from ByteArray.data_extract]
  simp only [Array.toList_extract, List.extract_eq_take_drop]
  rw [List.drop_take]
theorem app_list (s t : ByteArray) : (s ++ t).data.toList = s.data.toList ++ t.data.toList := by
  rw [ByteArray.data_append, Array.toList_append]
/-- the text that sci writes -/
theorem sci_text {b p : Nat} (alt : Bool) (hp : 0 < p) (hok : SciOk b p) : ∃ d0 D2, sciD b p = d0 :: D2 ∧ D2.length = p ∧ (sciO b p alt).data.toList = d0 :: 46 :: (D2 ++ 101 :: (if sciE b p < 0 then 45 else 43) :: (expE (sciE b p).natAbs)) := by
  have hl := hok.len
  obtain ⟨d0, D2, hD⟩ : ∃ d0 D2, sciD b p = d0 :: D2 := by
    cases h : sciD b p with
    | nil => rw [h] at hl; simp at hl
    | cons d r => exact ⟨d, r, rfl⟩
  rw [hD] at hl
  refine ⟨d0, D2, hD, by simpa using hl, ?_⟩
  have hs : (⟨(sciD b p).toArray⟩ : ByteArray).size = D2.length + 1 := by rw [hD]; simp [ByteArray.size]
  have hor : 0 < p ∨ alt = true := .inl hp
  unfold sciO expE
  dsimp only
  rw [hs]
  by_cases h1 : sciE b p < 0
  · by_cases h2 : (sciE b p).natAbs < 10
    · simp only [if_pos hor, if_pos h1, if_pos h2]
      simp [app_list, ext_list5, hD]
    · simp only [if_pos hor, if_pos h1, if_neg h2]
      simp [app_list, ext_list5, hD]
  · by_cases h2 : (sciE b p).natAbs < 10
    · simp only [if_pos hor, if_neg h1, if_pos h2]
      simp [app_list, ext_list5, hD]
    · simp only [if_pos hor, if_neg h1, if_neg h2]
      simp [app_list, ext_list5, hD]
/-- what is padded is read as what is within -/
theorem pad_pref (m p bl z neg : Bool) (wc : Int) (C D : List UInt8) (e : Int) (V : Nat) (hc : ∃ c r, C = c :: r ∧ 48 ≤ c.toNat ∧ c.toNat ≤ 57)
    (HC : ∀ i j, ∃ n, n ≠ 0 ∧ numeralL (List.replicate i 48 ++ (C ++ List.replicate j 32)) = (List.replicate i 48 ++ D, e, n)) (HV : ∀ i, readN (List.replicate i 48 ++ D) e = V) :
    prefB (padL m z wc (signL p bl neg) C) = (if neg = true then V + 9223372036854775808 else V) ∧ 0 < prefN (padL m z wc (signL p bl neg) C) := by
  have core : ∀ k i j, prefB (List.replicate k 32 ++ ((if neg = true then [45] else if p = true then [43] else []) ++ (List.replicate i 48 ++ (C ++ List.replicate j 32)))) = (if neg = true then V + 9223372036854775808 else V) ∧ 0 < prefN (List.replicate k 32 ++ ((if neg = true then [45] else if p = true then [43] else []) ++ (List.replicate i 48 ++ (C ++ List.replicate j 32)))) := by
    intro k i j
    obtain ⟨n, hn, hE⟩ := HC i j
    obtain ⟨c, r, hr, hcd⟩ : ∃ c r, List.replicate i 48 ++ (C ++ List.replicate j 32) = c :: r ∧ 48 ≤ c.toNat ∧ c.toNat ≤ 57 := by
      obtain ⟨c, r, hC, h1, h2⟩ := hc
      cases i with
      | zero => exact ⟨c, r ++ List.replicate j 32, by rw [hC]; rfl, h1, h2⟩
      | succ i => exact ⟨48, List.replicate i 48 ++ (C ++ List.replicate j 32), by rw [List.replicate_succ]; rfl, by decide, by decide⟩
    rw [hr] at hE ⊢
    have h := pref_of k neg p c r hcd (by rw [hE]; exact hn)
    rw [hE] at h
    rw [HV] at h
    exact h
  have hs : ∃ i0, signL p bl neg = List.replicate i0 32 ++ (if neg = true then [45] else if p = true then [43] else []) := by
    unfold signL
    cases neg <;> cases p <;> cases bl
    · exact ⟨0, rfl⟩
    · exact ⟨1, rfl⟩
    all_goals exact ⟨0, rfl⟩
  obtain ⟨i0, hi0⟩ := hs
  have e1 : ∀ (i j : Nat), signL p bl neg ++ (List.replicate i 48 ++ (C ++ List.replicate j 32)) = List.replicate i0 32 ++ ((if neg = true then [45] else if p = true then [43] else []) ++ (List.replicate i 48 ++ (C ++ List.replicate j 32))) := by
    intro i j
    rw [hi0, List.append_assoc]
  unfold padL
  generalize (wc - ((signL p bl neg).length : Int) - (C.length : Int)).toNat = K
  cases m
  · cases z
    · have h := core (K + i0) 0 0
      have e2 : List.replicate K 32 ++ signL p bl neg ++ C = List.replicate (K + i0) 32 ++ ((if neg = true then [45] else if p = true then [43] else []) ++ (List.replicate 0 48 ++ (C ++ List.replicate 0 32))) := by
        rw [hi0, ← List.replicate_append_replicate]
        simp only [List.replicate_zero, List.nil_append, List.append_nil, List.append_assoc]
      rw [if_neg (by decide), if_neg (by decide), e2]
      exact h
    · have h := core i0 K 0
      have e2 : signL p bl neg ++ List.replicate K 48 ++ C = signL p bl neg ++ (List.replicate K 48 ++ (C ++ List.replicate 0 32)) := by simp [List.append_assoc]
      rw [if_neg (by decide), if_pos rfl, e2, e1]
      exact h
  · have h := core i0 0 K
    have e2 : signL p bl neg ++ C ++ List.replicate K 32 = signL p bl neg ++ (List.replicate 0 48 ++ (C ++ List.replicate K 32)) := by simp [List.append_assoc]
    rw [if_pos rfl, e2, e1]
    exact h
theorem drop_point (A D T : List UInt8) : (A ++ 46 :: (D ++ T)).drop (A.length + 1 + D.length) = T := by
  have e : A ++ 46 :: (D ++ T) = (A ++ 46 :: D) ++ T := by simp [List.append_assoc]
  rw [e, show A.length + 1 + D.length = (A ++ 46 :: D).length by simp; omega, List.drop_left]
/-- the law by the verb e, seventeen digits -/
theorem back_e (m p bl al z : Bool) (wc : Int) {b : Nat} (hb : b < 18446744073709551616) (hf : fin b = true) :
    prefB (floatO m p bl al z wc 16 101 b).data.toList = b ∧ 0 < prefN (floatO m p bl al z wc 16 101 b).data.toList := by
  have hok := sci_ok b 16 hb hf (by decide)
  obtain ⟨d0, D2, hD, hl, hT⟩ := sci_text al (by decide : 0 < 16) hok
  have hFO : (floatO m p bl al z wc 16 101 b).data.toList = padL m z wc (signL p bl (decide (9223372036854775808 ≤ b))) (d0 :: 46 :: (D2 ++ 101 :: (if sciE b 16 < 0 then 45 else 43) :: (expE (sciE b 16).natAbs))) := by
    rw [← hT]
    rfl
  rw [hFO]
  have hdig := hok.dig
  rw [hD] at hdig
  have h1 := hok.lo
  have h2 := hok.hi
  obtain ⟨x1, x2, x3⟩ := expE_ok (n := (sciE b 16).natAbs) (by omega)
  have hd0 : Digits [d0] := fun c hc => hdig c (by rw [List.mem_singleton] at hc; subst hc; exact List.mem_cons_self)
  have hD2 : Digits D2 := fun c hc => hdig c (List.mem_cons_of_mem _ hc)
  have hpow : powL (expE (sciE b 16).natAbs) ((if sciE b 16 < 0 then (45 : UInt8) else 43) == 45) = sciE b 16 := by
    unfold powL
    rw [x2]
    by_cases h : sciE b 16 < 0
    · rw [if_pos h, if_pos (by decide)]; omega
    · rw [if_neg h, if_neg (by decide)]; omega
  have hz : ∀ i : Nat, Digits (List.replicate i 48 ++ [d0]) := fun i c hc => by
    rcases List.mem_append.1 hc with hc | hc
    · rw [List.eq_of_mem_replicate hc]; decide
    · exact hd0 c hc
  have hV : ∀ i, readN (List.replicate i 48 ++ (d0 :: D2)) (sciE b 16 - 16) = absF b := by
    intro i
    by_cases hm : mant b = 0
    · have e1 : d0 :: D2 = List.replicate 17 48 := by rw [← hD]; unfold sciD; rw [if_pos hm]
      rw [e1, List.replicate_append_replicate]
      unfold readN
      rw [bare_all, if_pos rfl]
      exact (mant_zero (abs_fin hf) (by rw [abs_mant]; exact hm)).symm
    · obtain ⟨s1, s2⟩ := sci_at hb hf hm
      have hv : digVal (List.replicate i 48 ++ (d0 :: D2)) * 10 ^ 0 = scaledN (absF b) ((16 : Int) - sciE b 16) := by
        rw [digVal_zeros, ← hD, s2.val, abs_scaled]
        simp
      have hbl : (bare (List.replicate i 48 ++ (d0 :: D2))).length ≤ 17 ∧ 17 ≤ (bare (List.replicate i 48 ++ (d0 :: D2))).length := by
        rw [bare_zeros, ← hD, bare_pos_text s2 (Nat.lt_of_lt_of_le (Nat.pow_pos (by decide)) s1), hD]
        simp [hl]
      have h := read_value (a := absF b) (k := (16 : Int) - sciE b 16) (D := List.replicate i 48 ++ (d0 :: D2)) (j := 0) (abs_fin hf) (by rw [abs_scaled]; exact s1) hv (by omega) (by omega) (by omega) (by omega) (by omega)
      rw [show ((0 : Nat) : Int) - ((16 : Int) - sciE b 16) = sciE b 16 - 16 by omega] at h
      exact h
  have h := pad_pref m p bl z (decide (9223372036854775808 ≤ b)) wc (d0 :: 46 :: (D2 ++ 101 :: (if sciE b 16 < 0 then 45 else 43) :: (expE (sciE b 16).natAbs))) (d0 :: D2) (sciE b 16 - 16) (absF b) ⟨d0, _, rfl, hd0 d0 List.mem_cons_self⟩ ?_ hV
  · rw [abs_back hb] at h
    exact h
  · intro i j
    have hN : NoDig (List.replicate j 32) := fun c r e => by
      cases j with
      | zero => cases e
      | succ j => rw [List.replicate_succ] at e; injection e with e1 _; subst e1; decide
    have hs : (if sciE b 16 < 0 then (45 : UInt8) else 43) = 43 ∨ (if sciE b 16 < 0 then (45 : UInt8) else 43) = 45 := by split; exact .inr rfl; exact .inl rfl
    have hm := mant_point (D1 := List.replicate i 48 ++ [d0]) (D2 := D2) (t := 101 :: (if sciE b 16 < 0 then 45 else 43) :: (expE (sciE b 16).natAbs ++ List.replicate j 32)) (hz i) hD2 (by simp) (noDig_cons (.inr (by decide)))
    have he := exp_some (ec := 101) (s := (if sciE b 16 < 0 then 45 else 43)) (E := expE (sciE b 16).natAbs) (t := List.replicate j 32) (.inl rfl) hs x1 x3 hN
    have e0 : List.replicate i 48 ++ (d0 :: 46 :: (D2 ++ 101 :: (if sciE b 16 < 0 then 45 else 43) :: (expE (sciE b 16).natAbs)) ++ List.replicate j 32) = List.replicate i 48 ++ [d0] ++ 46 :: (D2 ++ 101 :: (if sciE b 16 < 0 then 45 else 43) :: (expE (sciE b 16).natAbs ++ List.replicate j 32)) := by simp [List.append_assoc]
    rw [e0]
    unfold numeralL
    rw [hm]
    have hne : List.replicate i 48 ++ [d0] ++ D2 ≠ [] := by simp
    rw [if_neg hne]
    have hdrop : (List.replicate i 48 ++ [d0] ++ 46 :: (D2 ++ 101 :: (if sciE b 16 < 0 then 45 else 43) :: (expE (sciE b 16).natAbs ++ List.replicate j 32))).drop ((List.replicate i 48 ++ [d0]).length + 1 + D2.length) = 101 :: (if sciE b 16 < 0 then 45 else 43) :: (expE (sciE b 16).natAbs ++ List.replicate j 32) := by
      exact drop_point _ _ _
    refine ⟨(List.replicate i 48 ++ [d0]).length + 1 + D2.length + (2 + (expE (sciE b 16).natAbs).length), by simp, ?_⟩
    dsimp only
    rw [hdrop, he, hpow, hl]
    simp [List.append_assoc]
    omega
end Go.Proofs.YtjldeckcfdeklaaGreatDoor
