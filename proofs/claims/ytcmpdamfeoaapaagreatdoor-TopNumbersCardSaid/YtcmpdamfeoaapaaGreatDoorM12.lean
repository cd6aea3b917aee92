/- Several texts in one (W8, W9, W10, W11). -/
import Derived.Test.YtcmpdamfeoaapaaGreatDoorM11
section
/- FormatBack by the verb e: what is written is read back: plain. -/
namespace Go.Proofs.YtcmpdamfeoaapaaGreatDoor
open Go.RowKit
set_option linter.unusedVariables false

/-- a float without its sign -/
def absF (b : Nat) : Nat := b % 9223372036854775808
theorem abs_mant (b : Nat) : mant (absF b) = mant b := by
  unfold absF mant
  rw [Nat.mod_mod, Nat.mod_mod_of_dvd b (⟨2048, by decide⟩ : 4503599627370496 ∣ 9223372036854775808)]
theorem abs_expo (b : Nat) : expo (absF b) = expo b := by
  unfold absF expo
  rw [Nat.mod_mod]
theorem abs_scaled (b : Nat) (k : Int) : scaledN (absF b) k = scaledN b k := by
  unfold scaledN
  rw [abs_mant, abs_expo]
theorem abs_fin {b : Nat} (h : fin b = true) : absF b < 9218868437227405312 := fin_mod.1 h
theorem abs_back {b : Nat} (hb : b < 18446744073709551616) : (if decide (9223372036854775808 ≤ b) = true then absF b + 9223372036854775808 else absF b) = b := by
  unfold absF
  split
  · rename_i h
    have := of_decide_eq_true h
    omega
  · rename_i h
    have : ¬ 9223372036854775808 ≤ b := fun h2 => h (decide_eq_true h2)
    omega
theorem digVal_zeros (i : Nat) (D : List UInt8) : digVal (List.replicate i 48 ++ D) = digVal D := by
  rw [← digVal_bare, ← digVal_bare D, bare_zeros]
/-- where the first of seventeen digits stands -/
theorem sci_at {b : Nat} (hb : b < 18446744073709551616) (hf : fin b = true) (hm : mant b ≠ 0) : 10 ^ 16 ≤ scaledN b ((16 : Int) - sciE b 16) ∧ Canon (sciD b 16) (scaledN b ((16 : Int) - sciE b 16)) := by
  refine Calls.fact (Sci_loop b 16 default hb hf (by decide) (Nat.pos_of_ne_zero hm)) fun _ _ h => ?_
  obtain ⟨s, x, _, hc, _, hsa, _, _, _⟩ := h
  have e1 : sciE b 16 = x := by unfold sciE; rw [if_neg hm, sciX_eq hsa]
  have e2 : sciD b 16 = s.data.toList := by unfold sciD; rw [if_neg hm, sciX_eq hsa, dl_eq hc]
  rw [e1, e2]
  exact ⟨hsa.ge, hc⟩
/-- the power's digits -/
def expE (n : Nat) : List UInt8 := (if n < 10 then [48] else []) ++ Lib.itoa (n : Int)
theorem expE_tab : ((List.range 326).all fun n => ((expE n).all fun c => decide (48 ≤ c.toNat) && decide (c.toNat ≤ 57)) && (powN (expE n) == n) && decide (0 < (expE n).length)) = true := by kernel_rfl
theorem expE_ok {n : Nat} (h : n ≤ 325) : Digits (expE n) ∧ powN (expE n) = n ∧ 0 < (expE n).length := by
  have h1 := List.all_eq_true.1 expE_tab n (List.mem_range.2 (by omega))
  simp only [Bool.and_eq_true, decide_eq_true_eq, beq_iff_eq] at h1
  refine ⟨fun c hc => ?_, h1.1.2, h1.2⟩
  have h2 := List.all_eq_true.1 h1.1.1 c hc
  simpa using h2
theorem ext_list5 (s : ByteArray) (i j : Nat) : (s.extract i j).data.toList = (s.data.toList.take j).drop i := by
  rw [show (s.extract i j).data = s.data.extract i j from ByteArray.data_extract]
  simp only [Array.toList_extract, List.extract_eq_take_drop]
  rw [List.drop_take]
theorem app_list (s t : ByteArray) : (s ++ t).data.toList = s.data.toList ++ t.data.toList := by
  rw [ByteArray.data_append, Array.toList_append]
/-- the text that sci writes -/
theorem sci_text {b p : Nat} (alt : Bool) (hp : 0 < p) (hok : SciOk b p) : ∃ d0 D2, sciD b p = d0 :: D2 ∧ D2.length = p ∧ (sciO b p alt).data.toList = d0 :: 46 :: (D2 ++ 101 :: (if sciE b p < 0 then 45 else 43) :: (expE (sciE b p).natAbs)) := by
  have hl := hok.len
  obtain ⟨d0, D2, hD⟩ : ∃ d0 D2, sciD b p = d0 :: D2 := by
    cases h : sciD b p with
    | nil => rw [h] at hl; simp at hl
    | cons d r => exact ⟨d, r, rfl⟩
  rw [hD] at hl
  refine ⟨d0, D2, hD, by simpa using hl, ?_⟩
  have hs : (⟨(sciD b p).toArray⟩ : ByteArray).size = D2.length + 1 := by rw [hD]; simp [ByteArray.size]
  have hor : 0 < p ∨ alt = true := .inl hp
  unfold sciO expE
  dsimp only
  rw [hs]
  by_cases h1 : sciE b p < 0
  · by_cases h2 : (sciE b p).natAbs < 10
    · simp only [if_pos hor, if_pos h1, if_pos h2]
      simp [app_list, ext_list5, hD]
    · simp only [if_pos hor, if_pos h1, if_neg h2]
      simp [app_list, ext_list5, hD]
  · by_cases h2 : (sciE b p).natAbs < 10
    · simp only [if_pos hor, if_neg h1, if_pos h2]
      simp [app_list, ext_list5, hD]
    · simp only [if_pos hor, if_neg h1, if_neg h2]
      simp [app_list, ext_list5, hD]
/-- what is padded is read as what is within -/
theorem pad_pref (m p bl z neg : Bool) (wc : Int) (C D : List UInt8) (e : Int) (V : Nat) (hc : ∃ c r, C = c :: r ∧ 48 ≤ c.toNat ∧ c.toNat ≤ 57)
    (HC : ∀ i j, ∃ n, n ≠ 0 ∧ numeralL (List.replicate i 48 ++ (C ++ List.replicate j 32)) = (List.replicate i 48 ++ D, e, n)) (HV : ∀ i, readN (List.replicate i 48 ++ D) e = V) :
    prefB (padL m z wc (signL p bl neg) C) = (if neg = true then V + 9223372036854775808 else V) ∧ 0 < prefN (padL m z wc (signL p bl neg) C) := by
  have core : ∀ k i j, prefB (List.replicate k 32 ++ ((if neg = true then [45] else if p = true then [43] else []) ++ (List.replicate i 48 ++ (C ++ List.replicate j 32)))) = (if neg = true then V + 9223372036854775808 else V) ∧ 0 < prefN (List.replicate k 32 ++ ((if neg = true then [45] else if p = true then [43] else []) ++ (List.replicate i 48 ++ (C ++ List.replicate j 32)))) := by
    intro k i j
    obtain ⟨n, hn, hE⟩ := HC i j
    obtain ⟨c, r, hr, hcd⟩ : ∃ c r, List.replicate i 48 ++ (C ++ List.replicate j 32) = c :: r ∧ 48 ≤ c.toNat ∧ c.toNat ≤ 57 := by
      obtain ⟨c, r, hC, h1, h2⟩ := hc
      cases i with
      | zero => exact ⟨c, r ++ List.replicate j 32, by rw [hC]; rfl, h1, h2⟩
      | succ i => exact ⟨48, List.replicate i 48 ++ (C ++ List.replicate j 32), by rw [List.replicate_succ]; rfl, by decide, by decide⟩
    rw [hr] at hE ⊢
    have h := pref_of k neg p c r hcd (by rw [hE]; exact hn)
    rw [hE] at h
    rw [HV] at h
    exact h
  have hs : ∃ i0, signL p bl neg = List.replicate i0 32 ++ (if neg = true then [45] else if p = true then [43] else []) := by
    unfold signL
    cases neg <;> cases p <;> cases bl
    · exact ⟨0, rfl⟩
    · exact ⟨1, rfl⟩
    all_goals exact ⟨0, rfl⟩
  obtain ⟨i0, hi0⟩ := hs
  have e1 : ∀ (i j : Nat), signL p bl neg ++ (List.replicate i 48 ++ (C ++ List.replicate j 32)) = List.replicate i0 32 ++ ((if neg = true then [45] else if p = true then [43] else []) ++ (List.replicate i 48 ++ (C ++ List.replicate j 32))) := by
    intro i j
    rw [hi0, List.append_assoc]
  unfold padL
  generalize (wc - ((signL p bl neg).length : Int) - (C.length : Int)).toNat = K
  cases m
  · cases z
    · have h := core (K + i0) 0 0
      have e2 : List.replicate K 32 ++ signL p bl neg ++ C = List.replicate (K + i0) 32 ++ ((if neg = true then [45] else if p = true then [43] else []) ++ (List.replicate 0 48 ++ (C ++ List.replicate 0 32))) := by
        rw [hi0, ← List.replicate_append_replicate]
        simp only [List.replicate_zero, List.nil_append, List.append_nil, List.append_assoc]
      rw [if_neg (by decide), if_neg (by decide), e2]
      exact h
    · have h := core i0 K 0
      have e2 : signL p bl neg ++ List.replicate K 48 ++ C = signL p bl neg ++ (List.replicate K 48 ++ (C ++ List.replicate 0 32)) := by simp [List.append_assoc]
      rw [if_neg (by decide), if_pos rfl, e2, e1]
      exact h
  · have h := core i0 0 K
    have e2 : signL p bl neg ++ C ++ List.replicate K 32 = signL p bl neg ++ (List.replicate 0 48 ++ (C ++ List.replicate K 32)) := by simp [List.append_assoc]
    rw [if_pos rfl, e2, e1]
    exact h
theorem drop_point (A D T : List UInt8) : (A ++ 46 :: (D ++ T)).drop (A.length + 1 + D.length) = T := by
  have e : A ++ 46 :: (D ++ T) = (A ++ 46 :: D) ++ T := by simp [List.append_assoc]
  rw [e, show A.length + 1 + D.length = (A ++ 46 :: D).length by simp; omega, List.drop_left]
/-- the law by the verb e, seventeen digits -/
theorem back_e (m p bl al z : Bool) (wc : Int) {b : Nat} (hb : b < 18446744073709551616) (hf : fin b = true) :
    prefB (floatO m p bl al z wc 16 101 b).data.toList = b ∧ 0 < prefN (floatO m p bl al z wc 16 101 b).data.toList := by
  have hok := sci_ok b 16 hb hf (by decide)
  obtain ⟨d0, D2, hD, hl, hT⟩ := sci_text al (by decide : 0 < 16) hok
  have hFO : (floatO m p bl al z wc 16 101 b).data.toList = padL m z wc (signL p bl (decide (9223372036854775808 ≤ b))) (d0 :: 46 :: (D2 ++ 101 :: (if sciE b 16 < 0 then 45 else 43) :: (expE (sciE b 16).natAbs))) := by
    rw [← hT]
    rfl
  rw [hFO]
  have hdig := hok.dig
  rw [hD] at hdig
  have h1 := hok.lo
  have h2 := hok.hi
  obtain ⟨x1, x2, x3⟩ := expE_ok (n := (sciE b 16).natAbs) (by omega)
  have hd0 : Digits [d0] := fun c hc => hdig c (by rw [List.mem_singleton] at hc; subst hc; exact List.mem_cons_self)
  have hD2 : Digits D2 := fun c hc => hdig c (List.mem_cons_of_mem _ hc)
  have hpow : powL (expE (sciE b 16).natAbs) ((if sciE b 16 < 0 then (45 : UInt8) else 43) == 45) = sciE b 16 := by
    unfold powL
    rw [x2]
    by_cases h : sciE b 16 < 0
    · rw [if_pos h, if_pos (by decide)]; omega
    · rw [if_neg h, if_neg (by decide)]; omega
  have hz : ∀ i : Nat, Digits (List.replicate i 48 ++ [d0]) := fun i c hc => by
    rcases List.mem_append.1 hc with hc | hc
    · rw [List.eq_of_mem_replicate hc]; decide
    · exact hd0 c hc
  have hV : ∀ i, readN (List.replicate i 48 ++ (d0 :: D2)) (sciE b 16 - 16) = absF b := by
    intro i
    by_cases hm : mant b = 0
    · have e1 : d0 :: D2 = List.replicate 17 48 := by rw [← hD]; unfold sciD; rw [if_pos hm]
      rw [e1, List.replicate_append_replicate]
      unfold readN
      rw [bare_all, if_pos rfl]
      exact (mant_zero (abs_fin hf) (by rw [abs_mant]; exact hm)).symm
    · obtain ⟨s1, s2⟩ := sci_at hb hf hm
      have hv : digVal (List.replicate i 48 ++ (d0 :: D2)) * 10 ^ 0 = scaledN (absF b) ((16 : Int) - sciE b 16) := by
        rw [digVal_zeros, ← hD, s2.val, abs_scaled]
        simp
      have hbl : (bare (List.replicate i 48 ++ (d0 :: D2))).length ≤ 17 ∧ 17 ≤ (bare (List.replicate i 48 ++ (d0 :: D2))).length := by
        rw [bare_zeros, ← hD, bare_pos_text s2 (Nat.lt_of_lt_of_le (Nat.pow_pos (by decide)) s1), hD]
        simp [hl]
      have h := read_value (a := absF b) (k := (16 : Int) - sciE b 16) (D := List.replicate i 48 ++ (d0 :: D2)) (j := 0) (abs_fin hf) (by rw [abs_scaled]; exact s1) hv (by omega) (by omega) (by omega) (by omega) (by omega)
      rw [show ((0 : Nat) : Int) - ((16 : Int) - sciE b 16) = sciE b 16 - 16 by omega] at h
      exact h
  have h := pad_pref m p bl z (decide (9223372036854775808 ≤ b)) wc (d0 :: 46 :: (D2 ++ 101 :: (if sciE b 16 < 0 then 45 else 43) :: (expE (sciE b 16).natAbs))) (d0 :: D2) (sciE b 16 - 16) (absF b) ⟨d0, _, rfl, hd0 d0 List.mem_cons_self⟩ ?_ hV
  · rw [abs_back hb] at h
    exact h
  · intro i j
    have hN : NoDig (List.replicate j 32) := fun c r e => by
      cases j with
      | zero => cases e
      | succ j => rw [List.replicate_succ] at e; injection e with e1 _; subst e1; decide
    have hs : (if sciE b 16 < 0 then (45 : UInt8) else 43) = 43 ∨ (if sciE b 16 < 0 then (45 : UInt8) else 43) = 45 := by split; exact .inr rfl; exact .inl rfl
    have hm := mant_point (D1 := List.replicate i 48 ++ [d0]) (D2 := D2) (t := 101 :: (if sciE b 16 < 0 then 45 else 43) :: (expE (sciE b 16).natAbs ++ List.replicate j 32)) (hz i) hD2 (by simp) (noDig_cons (.inr (by decide)))
    have he := exp_some (ec := 101) (s := (if sciE b 16 < 0 then 45 else 43)) (E := expE (sciE b 16).natAbs) (t := List.replicate j 32) (.inl rfl) hs x1 x3 hN
    have e0 : List.replicate i 48 ++ (d0 :: 46 :: (D2 ++ 101 :: (if sciE b 16 < 0 then 45 else 43) :: (expE (sciE b 16).natAbs)) ++ List.replicate j 32) = List.replicate i 48 ++ [d0] ++ 46 :: (D2 ++ 101 :: (if sciE b 16 < 0 then 45 else 43) :: (expE (sciE b 16).natAbs ++ List.replicate j 32)) := by simp [List.append_assoc]
    rw [e0]
    unfold numeralL
    rw [hm]
    have hne : List.replicate i 48 ++ [d0] ++ D2 ≠ [] := by simp
    rw [if_neg hne]
    have hdrop : (List.replicate i 48 ++ [d0] ++ 46 :: (D2 ++ 101 :: (if sciE b 16 < 0 then 45 else 43) :: (expE (sciE b 16).natAbs ++ List.replicate j 32))).drop ((List.replicate i 48 ++ [d0]).length + 1 + D2.length) = 101 :: (if sciE b 16 < 0 then 45 else 43) :: (expE (sciE b 16).natAbs ++ List.replicate j 32) := by
      exact drop_point _ _ _
    refine ⟨(List.replicate i 48 ++ [d0]).length + 1 + D2.length + (2 + (expE (sciE b 16).natAbs).length), by simp, ?_⟩
    dsimp only
    rw [hdrop, he, hpow, hl]
    simp [List.append_assoc]
    omega
end Go.Proofs.YtcmpdamfeoaapaaGreatDoor
end

section
/- FormatBack by the verb G: plain: what general strikes, and capitals. -/
namespace Go.Proofs.YtcmpdamfeoaapaaGreatDoor
open Go.RowKit
set_option linter.unusedVariables false

theorem dw_app_all {p : UInt8 → Bool} : ∀ (l r : List UInt8), (∀ c ∈ l, p c = true) → (l ++ r).dropWhile p = r.dropWhile p
  | [], r, _ => rfl
  | c :: l, r, h => by
    rw [List.cons_append, List.dropWhile_cons, if_pos (h c List.mem_cons_self)]
    exact dw_app_all l r fun x hx => h x (List.mem_cons_of_mem _ hx)
theorem dw_app_some {p : UInt8 → Bool} : ∀ (l r : List UInt8), l.dropWhile p ≠ [] → (l ++ r).dropWhile p = l.dropWhile p ++ r
  | [], r, h => absurd rfl h
  | c :: l, r, h => by
    rw [List.cons_append, List.dropWhile_cons, List.dropWhile_cons]
    rw [List.dropWhile_cons] at h
    split
    · rename_i hc
      rw [if_pos hc] at h
      exact dw_app_some l r h
    · rfl
/-- digits without noughts behind, and how many those were -/
theorem trim_split (D : List UInt8) : ∃ j, D = Lib.trimRightB D 48 ++ List.replicate j 48 := by
  have h := List.takeWhile_append_dropWhile (p := fun c : UInt8 => c == 48) (l := D.reverse)
  obtain ⟨T, hT⟩ : ∃ T, T = D.reverse.takeWhile fun c => c == 48 := ⟨_, rfl⟩
  have hz : T = List.replicate T.length 48 := by
    refine List.eq_replicate_iff.2 ⟨rfl, fun c hc => ?_⟩
    rw [hT] at hc
    have := tw_all _ _ _ hc
    simpa using this
  rw [← hT] at h
  have h2 := congrArg List.reverse h
  rw [List.reverse_append, List.reverse_reverse] at h2
  have h3 := congrArg List.reverse hz
  rw [List.reverse_replicate] at h3
  refine ⟨T.length, ?_⟩
  rw [← h3]
  exact h2.symm
/-- what general strikes of digits, a point and digits -/
theorem trim_text (D1 D2 : List UInt8) (h1 : Digits D1) (h2 : Digits D2) (hne : 0 < D1.length) :
    ∃ D j, D2 = D ++ List.replicate j 48 ∧ Lib.trimSuffix (Lib.trimRightB (D1 ++ 46 :: D2) 48) [46] = (if D = [] then D1 else D1 ++ 46 :: D) := by
  obtain ⟨j, hj⟩ := trim_split D2
  refine ⟨Lib.trimRightB D2 48, j, hj, ?_⟩
  have hrev : (D1 ++ 46 :: D2).reverse = D2.reverse ++ 46 :: D1.reverse := by simp
  by_cases hz : Lib.trimRightB D2 48 = []
  · rw [if_pos hz]
    have hall : ∀ c ∈ D2.reverse, (c == (48 : UInt8)) = true := by
      intro c hc
      rw [hz, List.nil_append] at hj
      rw [hj, List.reverse_replicate] at hc
      rw [List.eq_of_mem_replicate hc]
      rfl
    have e : Lib.trimRightB (D1 ++ 46 :: D2) 48 = D1 ++ [46] := by
      unfold Lib.trimRightB
      rw [hrev, dw_app_all _ _ hall, List.dropWhile_cons, if_neg (by decide)]
      simp
    rw [e]
    unfold Lib.trimSuffix
    rw [if_pos (by unfold Lib.hasSuffix; simp [List.isSuffixOf])]
    simp
  · rw [if_neg hz]
    have hd : D2.reverse.dropWhile (fun c => c == 48) ≠ [] := fun h => hz (by unfold Lib.trimRightB; rw [h]; rfl)
    have e : Lib.trimRightB (D1 ++ 46 :: D2) 48 = D1 ++ 46 :: Lib.trimRightB D2 48 := by
      unfold Lib.trimRightB
      rw [hrev, dw_app_some _ _ hd]
      simp
    rw [e]
    unfold Lib.trimSuffix
    rw [if_neg]
    intro hs
    have h3 : [46] <:+ D1 ++ 46 :: Lib.trimRightB D2 48 := List.isSuffixOf_iff_suffix.1 hs
    obtain ⟨pre, hp⟩ := h3
    have h4 := congrArg List.getLast? hp
    rw [List.getLast?_append, List.getLast?_append] at h4
    obtain ⟨c, hc⟩ : ∃ c, (Lib.trimRightB D2 48).getLast? = some c := by
      cases hg : (Lib.trimRightB D2 48).getLast? with
      | none => exact absurd (List.getLast?_eq_none_iff.1 hg) hz
      | some c => exact ⟨c, rfl⟩
    have hcm : c ∈ D2 := by
      rw [hj]
      exact List.mem_append_left _ (List.mem_of_getLast? hc)
    have hcd := h2 c hcm
    rw [show (46 :: Lib.trimRightB D2 48) = [46] ++ Lib.trimRightB D2 48 from rfl, List.getLast?_append, hc] at h4
    simp at h4
    rw [← h4] at hcd
    revert hcd
    decide
theorem upper_app (l r : List UInt8) : Lib.toUpperA (l ++ r) = Lib.toUpperA l ++ Lib.toUpperA r := by unfold Lib.toUpperA; rw [List.map_append]
theorem upper_rep (n : Nat) (c : UInt8) (h : Lib.upperB c = c) : Lib.toUpperA (List.replicate n c) = List.replicate n c := by unfold Lib.toUpperA; rw [List.map_replicate, h]
theorem upper_digits {l : List UInt8} (h : Digits l) : Lib.toUpperA l = l := by
  unfold Lib.toUpperA
  refine (List.map_congr_left (g := id) fun c hc => ?_).trans (List.map_id l)
  have h1 := h c hc
  have h2 : ∀ n, n < 58 → 48 ≤ n → Lib.upperB (UInt8.ofNat n) = UInt8.ofNat n := by decide
  have h3 := h2 c.toNat (by omega) h1.1
  rw [UInt8.ofNat_toNat] at h3
  exact h3
theorem upper_sign (p b m : Bool) : Lib.toUpperA (signL p b m) = signL p b m := by
  unfold signL
  cases m <;> cases p <;> cases b <;> decide
theorem upper_len (l : List UInt8) : (Lib.toUpperA l).length = l.length := by unfold Lib.toUpperA; rw [List.length_map]
theorem upper_pad (m z : Bool) (wd : Int) (p b n : Bool) (s : List UInt8) : Lib.toUpperA (padL m z wd (signL p b n) s) = padL m z wd (signL p b n) (Lib.toUpperA s) := by
  unfold padL
  rw [upper_len]
  cases m
  · cases z
    · rw [if_neg (by decide), if_neg (by decide), if_neg (by decide), if_neg (by decide), upper_app, upper_app, upper_sign, upper_rep _ _ (by decide)]
    · rw [if_neg (by decide), if_pos rfl, if_neg (by decide), if_pos rfl, upper_app, upper_app, upper_sign, upper_rep _ _ (by decide)]
  · rw [if_pos rfl, if_pos rfl, upper_app, upper_app, upper_sign, upper_rep _ _ (by decide)]
end Go.Proofs.YtcmpdamfeoaapaaGreatDoor
end

section
/- FormatBack by the verb G: the value of what is left: plain. -/
namespace Go.Proofs.YtcmpdamfeoaapaaGreatDoor
open Go.RowKit
set_option linter.unusedVariables false

theorem digVal_back (l : List UInt8) (j : Nat) : digVal (l ++ List.replicate j 48) = digVal l * 10 ^ j := by
  induction j with
  | zero => simp
  | succ j ih =>
    rw [List.replicate_succ', ← List.append_assoc, digVal_snoc, ih, Nat.pow_succ]
    have : (48 : UInt8).toNat - 48 = 0 := by decide
    rw [this, Nat.mul_comm 10, Nat.mul_assoc, Nat.add_zero]
/-- digits, noughts struck, are read as the float -/
theorem read_struck {b : Nat} {i j : Nat} {M D2 D : List UInt8} {X : Int} (hf : fin b = true) (hM : Digits (M ++ D)) (hj : D2 = D ++ List.replicate j 48)
    (hv : (mant b = 0 ∧ ∀ c ∈ M ++ D2, c = 48) ∨ (10 ^ 16 ≤ scaledN b ((D2.length : Int) - X) ∧ digVal (M ++ D2) = scaledN b ((D2.length : Int) - X)))
    (h2 : D2.length ≤ 20) (hX1 : -325 ≤ X) (hX2 : (M.length : Int) + X ≤ 310) (hMl : M.length ≤ 60) (hX3 : X ≤ 309) :
    readN (List.replicate i 48 ++ (M ++ D)) (X - D.length) = absF b := by
  have hlen : D2.length = D.length + j := by rw [hj]; simp
  rcases hv with ⟨hm, hz⟩ | ⟨hN, hv⟩
  · have e : List.replicate i 48 ++ (M ++ D) = List.replicate (i + (M ++ D).length) 48 := by
      rw [← List.replicate_append_replicate]
      congr 1
      refine List.eq_replicate_iff.2 ⟨rfl, fun c hc => hz c ?_⟩
      rcases List.mem_append.1 hc with h | h
      · exact List.mem_append_left _ h
      · rw [hj]; exact List.mem_append_right _ (List.mem_append_left _ h)
    rw [e]
    unfold readN
    rw [bare_all, if_pos rfl]
    exact (mant_zero (abs_fin hf) (by rw [abs_mant]; exact hm)).symm
  · rw [hj, ← List.append_assoc, digVal_back] at hv
    rw [← hj] at hv
    have hvz : digVal (List.replicate i 48 ++ (M ++ D)) * 10 ^ j = scaledN (absF b) ((D2.length : Int) - X) := by rw [digVal_zeros, abs_scaled]; exact hv
    obtain ⟨B, hB⟩ : ∃ B, B = bare (List.replicate i 48 ++ (M ++ D)) := ⟨_, rfl⟩
    have hBe : B = bare (M ++ D) := by rw [hB, bare_zeros]
    have hBl : B.length ≤ M.length + D.length := by
      rw [hBe]
      have : (bare (M ++ D)).length ≤ (M ++ D).length := (List.dropWhile_sublist _).length_le
      simpa using this
    have hBd : Digits B := fun c hc => hM c (by rw [hBe] at hc; exact (List.dropWhile_sublist _).subset hc)
    have hBv : digVal B = digVal (M ++ D) := by rw [hBe, digVal_bare]
    have hlt := digVal_lt hBd
    have hBj : 17 ≤ B.length + j := by
      rcases Nat.lt_or_ge (B.length + j) 17 with h | h
      · exfalso
        have h3 : digVal (M ++ D) * 10 ^ j < 10 ^ B.length * 10 ^ j := Nat.mul_lt_mul_of_pos_right (by rw [← hBv]; exact hlt) (Nat.pow_pos (by decide))
        rw [← Nat.pow_add] at h3
        have h4 : 10 ^ (B.length + j) ≤ 10 ^ 16 := Nat.pow_le_pow_right (by decide) (by omega)
        omega
      · exact h
    rw [abs_scaled] at hvz
    have h := read_value (a := absF b) (k := (D2.length : Int) - X) (D := List.replicate i 48 ++ (M ++ D)) (j := j) (abs_fin hf) (by rw [abs_scaled]; exact hN) (by rw [abs_scaled]; exact hvz) (by rw [← hB]; omega) (by omega) (by omega) (by rw [← hB]; omega) (by rw [← hB]; omega)
    rw [show (j : Int) - ((D2.length : Int) - X) = X - D.length by omega] at h
    exact h
theorem zeros_cat {i : Nat} {M : List UInt8} (h : Digits M) : Digits (List.replicate i 48 ++ M) := fun c hc => by
  rcases List.mem_append.1 hc with hc | hc
  · rw [List.eq_of_mem_replicate hc]; decide
  · exact h c hc
theorem head_cat {M t : List UInt8} (hM : Digits M) (h0 : 0 < M.length) : ∃ c r, M ++ t = c :: r ∧ 48 ≤ c.toNat ∧ c.toNat ≤ 57 := by
  cases M with
  | nil => simp at h0
  | cons c r => exact ⟨c, r ++ t, rfl, hM c List.mem_cons_self⟩
section
variable (m p bl z : Bool) (wc : Int) {b : Nat} (hb : b < 18446744073709551616) (hf : fin b = true) {M D2 tl : List UInt8} {X : Int} (hM : Digits M) (h0 : 0 < M.length) (hD2 : Digits D2)
  (htl : ∀ jj, NoDig (tl ++ List.replicate jj 32) ∧ (∀ r, tl ++ List.replicate jj 32 ≠ 46 :: r) ∧ ∃ nT, expL (tl ++ List.replicate jj 32) = (X, nT))
  (hv : (mant b = 0 ∧ ∀ c ∈ M ++ D2, c = 48) ∨ (10 ^ 16 ≤ scaledN b ((D2.length : Int) - X) ∧ digVal (M ++ D2) = scaledN b ((D2.length : Int) - X)))
  (h2 : D2.length ≤ 20) (hX1 : -325 ≤ X) (hX2 : (M.length : Int) + X ≤ 310) (hMl : M.length ≤ 60) (hX3 : X ≤ 309)
include hb hf hM h0 hD2 htl hv h2 hX1 hX2 hMl hX3
theorem rd_pt {D : List UInt8} {j : Nat} (hj : D2 = D ++ List.replicate j 48) : prefB (padL m z wc (signL p bl (decide (9223372036854775808 ≤ b))) (M ++ 46 :: (D ++ tl))) = b ∧ 0 < prefN (padL m z wc (signL p bl (decide (9223372036854775808 ≤ b))) (M ++ 46 :: (D ++ tl))) := by
  have hD : Digits D := fun c hc => hD2 c (by rw [hj]; exact List.mem_append_left _ hc)
  have hMD : Digits (M ++ D) := fun c hc => (List.mem_append.1 hc).elim (hM c) (hD c)
  have h := pad_pref m p bl z (decide (9223372036854775808 ≤ b)) wc (M ++ 46 :: (D ++ tl)) (M ++ D) (X - D.length) (absF b) (head_cat hM h0) (fun i jj => ?_) (fun i => read_struck hf hMD hj hv h2 hX1 hX2 hMl hX3)
  · rw [abs_back hb] at h
    exact h
  · obtain ⟨t1, t2, nT, t3⟩ := htl jj
    have e0 : List.replicate i 48 ++ (M ++ 46 :: (D ++ tl) ++ List.replicate jj 32) = List.replicate i 48 ++ M ++ 46 :: (D ++ (tl ++ List.replicate jj 32)) := by simp [List.append_assoc]
    rw [e0]
    have hm := mant_point (D1 := List.replicate i 48 ++ M) (D2 := D) (t := tl ++ List.replicate jj 32) (zeros_cat hM) hD (by simp; omega) t1
    unfold numeralL
    rw [hm]
    have hne : List.replicate i 48 ++ M ++ D ≠ [] := by
      intro h
      have := congrArg List.length h
      simp only [List.length_append, List.length_nil, List.length_replicate] at this
      omega
    rw [if_neg hne]
    refine ⟨(List.replicate i 48 ++ M).length + 1 + D.length + nT, by omega, ?_⟩
    dsimp only
    rw [drop_point, t3]
    simp [List.append_assoc]
    omega
omit hD2 in
theorem rd_np {j : Nat} (hj : D2 = List.replicate j 48) : prefB (padL m z wc (signL p bl (decide (9223372036854775808 ≤ b))) (M ++ tl)) = b ∧ 0 < prefN (padL m z wc (signL p bl (decide (9223372036854775808 ≤ b))) (M ++ tl)) := by
  have h := pad_pref m p bl z (decide (9223372036854775808 ≤ b)) wc (M ++ tl) (M ++ []) (X - ([] : List UInt8).length) (absF b) (head_cat hM h0) (fun i jj => ?_) (fun i => read_struck hf (by rw [List.append_nil]; exact hM) (by rw [hj]; rfl) hv h2 hX1 hX2 hMl hX3)
  · rw [abs_back hb] at h
    exact h
  · obtain ⟨t1, t2, nT, t3⟩ := htl jj
    have e0 : List.replicate i 48 ++ (M ++ tl ++ List.replicate jj 32) = List.replicate i 48 ++ M ++ (tl ++ List.replicate jj 32) := by simp [List.append_assoc]
    rw [e0]
    have hm := mant_whole (D1 := List.replicate i 48 ++ M) (t := tl ++ List.replicate jj 32) (zeros_cat hM) t1 t2
    unfold numeralL
    rw [hm]
    have hne : List.replicate i 48 ++ M ≠ [] := by
      intro h
      have := congrArg List.length h
      simp only [List.length_append, List.length_nil, List.length_replicate] at this
      omega
    rw [if_neg hne]
    refine ⟨(List.replicate i 48 ++ M).length + nT, by rw [List.length_append]; omega, ?_⟩
    dsimp only
    rw [List.drop_left, t3]
    simp
theorem rd_any (al : Bool) : prefB (padL m z wc (signL p bl (decide (9223372036854775808 ≤ b))) ((if al = true then M ++ 46 :: D2 else Lib.trimSuffix (Lib.trimRightB (M ++ 46 :: D2) 48) [46]) ++ tl)) = b ∧ 0 < prefN (padL m z wc (signL p bl (decide (9223372036854775808 ≤ b))) ((if al = true then M ++ 46 :: D2 else Lib.trimSuffix (Lib.trimRightB (M ++ 46 :: D2) 48) [46]) ++ tl)) := by
  cases al
  · obtain ⟨D, j, hj, he⟩ := trim_text M D2 hM hD2 h0
    rw [if_neg (by decide), he]
    by_cases hD : D = []
    · rw [if_pos hD]
      subst hD
      exact rd_np m p bl z wc hb hf hM h0 htl hv h2 hX1 hX2 hMl hX3 hj
    · rw [if_neg hD, show M ++ 46 :: D ++ tl = M ++ 46 :: (D ++ tl) by simp]
      exact rd_pt m p bl z wc hb hf hM h0 hD2 htl hv h2 hX1 hX2 hMl hX3 hj
  · rw [if_pos rfl, show M ++ 46 :: D2 ++ tl = M ++ 46 :: (D2 ++ tl) by simp]
    exact rd_pt m p bl z wc hb hf hM h0 hD2 htl hv h2 hX1 hX2 hMl hX3 (D := D2) (j := 0) (by simp)
end
end Go.Proofs.YtcmpdamfeoaapaaGreatDoor
end

section
/- FormatBack: what is written by G with seventeen digits is read back: plain. -/
namespace Go.Proofs.YtcmpdamfeoaapaaGreatDoor
open Go.RowKit
set_option linter.unusedVariables false

theorem index_at (A B : List UInt8) (c : UInt8) (h : c ∉ A) : Lib.indexByte (A ++ c :: B) c = (A.length : Int) := by
  obtain ⟨o, ho, hol⟩ := ix_of_mem (l := A ++ c :: B) (c := c) (by simp)
  have h1 := Lib.indexByte_some ho
  rw [ho]
  have ha : ¬ o < A.length := fun hlt => by
    have h2 := h1.1
    rw [List.getElem?_append_left hlt] at h2
    exact h (List.mem_of_getElem? h2)
  have hb : ¬ A.length < o := fun hlt => by
    have h2 := h1.2 A.length hlt
    rw [List.getElem?_append_right (Nat.le_refl _)] at h2
    simp at h2
  omega
theorem upper_point {M D : List UInt8} (hM : Digits M) (hD : Digits D) : Lib.toUpperA (M ++ 46 :: D) = M ++ 46 :: D := by
  rw [show M ++ 46 :: D = M ++ ([46] ++ D) by simp, upper_app, upper_app, upper_digits hM, upper_digits hD]
  rfl
theorem upper_trim {M D2 : List UInt8} (al : Bool) (hM : Digits M) (hD2 : Digits D2) (h0 : 0 < M.length) : Lib.toUpperA (if al = true then M ++ 46 :: D2 else Lib.trimSuffix (Lib.trimRightB (M ++ 46 :: D2) 48) [46]) = (if al = true then M ++ 46 :: D2 else Lib.trimSuffix (Lib.trimRightB (M ++ 46 :: D2) 48) [46]) := by
  cases al
  · obtain ⟨D, j, hj, he⟩ := trim_text M D2 hM hD2 h0
    rw [if_neg (by decide), he]
    split
    · exact upper_digits hM
    · exact upper_point hM fun c hc => hD2 c (by rw [hj]; exact List.mem_append_left _ hc)
  · rw [if_pos rfl]
    exact upper_point hM hD2
/-- what general writes, as a text of digits, a point, digits and a power -/
theorem gen_list {b : Nat} (al : Bool) {M D2 tl : List UInt8} (hH : (genH b 16).data.toList = M ++ 46 :: D2) (hT : (genT b 16).data.toList = tl) :
    (genO b 16 al).data.toList = (if al = true then M ++ 46 :: D2 else Lib.trimSuffix (Lib.trimRightB (M ++ 46 :: D2) 48) [46]) ++ tl := by
  unfold genO
  rw [app_list, hT]
  congr 1
  cases al
  · rw [if_neg (by decide), if_neg (by decide), ← hH]
    rfl
  · rw [if_pos rfl, if_pos rfl, hH]
theorem up_list (m p bl al z : Bool) (wc : Int) (b : Nat) : (floatO m p bl al z wc 17 71 b).data.toList = padL m z wc (signL p bl (decide (9223372036854775808 ≤ b))) (Lib.toUpperA (genO b 16 al).data.toList) := by
  rw [← upper_pad]
  rfl
theorem back_G_sci (m p bl al z : Bool) (wc : Int) {b : Nat} (hb : b < 18446744073709551616) (hf : fin b = true) (hB : genB b 16 = true) :
    prefB (floatO m p bl al z wc 17 71 b).data.toList = b ∧ 0 < prefN (floatO m p bl al z wc 17 71 b).data.toList := by
  have hok := sci_ok b 16 hb hf (by decide)
  obtain ⟨d0, D2, hD, hl, hT⟩ := sci_text true (by decide : 0 < 16) hok
  have hdig := hok.dig
  rw [hD] at hdig
  have h1 := hok.lo
  have h2 := hok.hi
  obtain ⟨x1, x2, x3⟩ := expE_ok (n := (sciE b 16).natAbs) (by omega)
  have hd0 : Digits [d0] := fun c hc => hdig c (by rw [List.mem_singleton] at hc; subst hc; exact List.mem_cons_self)
  have hD2 : Digits D2 := fun c hc => hdig c (List.mem_cons_of_mem _ hc)
  have hpow : powL (expE (sciE b 16).natAbs) ((if sciE b 16 < 0 then (45 : UInt8) else 43) == 45) = sciE b 16 := by
    unfold powL
    rw [x2]
    by_cases h : sciE b 16 < 0
    · rw [if_pos h, if_pos (by decide)]; omega
    · rw [if_neg h, if_neg (by decide)]; omega
  have hs : (if sciE b 16 < 0 then (45 : UInt8) else 43) = 43 ∨ (if sciE b 16 < 0 then (45 : UInt8) else 43) = 45 := by split; exact .inr rfl; exact .inl rfl
  generalize (if sciE b 16 < 0 then (45 : UInt8) else 43) = s at *
  have hX : (genX b 16).data.toList = (d0 :: 46 :: D2) ++ 101 :: (s :: expE (sciE b 16).natAbs) := by
    show (sciO b 16 true).data.toList = _
    rw [hT]
    simp
  have hI : genI b 16 = 18 := by
    unfold genI
    rw [hX, index_at]
    · simp [hl]
    · intro hc
      rcases List.mem_cons.1 hc with h | hc
      · have := hdig d0 List.mem_cons_self; rw [← h] at this; revert this; decide
      · rcases List.mem_cons.1 hc with h | hc
        · revert h; decide
        · have := hD2 _ hc; revert this; decide
  have hH : (genH b 16).data.toList = [d0] ++ 46 :: D2 := by
    unfold genH
    rw [if_pos hB, hI, ext_list5, hX]
    simp [hl]
  have hTl : (genT b 16).data.toList = 101 :: s :: expE (sciE b 16).natAbs := by
    unfold genT
    rw [if_pos hB, hI, ext_list5, sz_list, List.take_length, hX]
    simp [hl]
  rw [up_list, gen_list al hH hTl, upper_app, upper_trim al hd0 hD2 (by simp)]
  have hu : Lib.toUpperA (101 :: s :: expE (sciE b 16).natAbs) = 69 :: s :: expE (sciE b 16).natAbs := by
    rw [show (101 : UInt8) :: s :: expE (sciE b 16).natAbs = [101] ++ ([s] ++ expE (sciE b 16).natAbs) by simp, upper_app, upper_app, upper_digits x1]
    rcases hs with rfl | rfl <;> rfl
  rw [hu]
  refine rd_any m p bl z wc hb hf (X := sciE b 16) hd0 (by simp) hD2 (fun jj => ?_) ?_ (by omega) (by omega) (by simp; omega) (by simp) (by omega) al
  · have hN : NoDig (List.replicate jj 32) := fun c r e => by
      cases jj with
      | zero => cases e
      | succ j => rw [List.replicate_succ] at e; injection e with e1 _; subst e1; decide
    refine ⟨noDig_cons (.inr (by decide)), fun r h => by injection h with h _; revert h; decide, 2 + (expE (sciE b 16).natAbs).length, ?_⟩
    · show expL (69 :: s :: (expE (sciE b 16).natAbs ++ List.replicate jj 32)) = _
      rw [exp_some (.inr rfl) hs x1 x3 hN, hpow]
  · rw [hl]
    by_cases hm : mant b = 0
    · refine .inl ⟨hm, fun c hc => ?_⟩
      have e1 : d0 :: D2 = List.replicate 17 48 := by rw [← hD]; unfold sciD; rw [if_pos hm]
      have hc' : c ∈ d0 :: D2 := hc
      rw [e1] at hc'
      exact List.eq_of_mem_replicate hc'
    · obtain ⟨s1, s2⟩ := sci_at hb hf hm
      refine .inr ⟨s1, ?_⟩
      show digVal (d0 :: D2) = _
      rw [← hD, s2.val]
      rfl
theorem back_G_fix (m p bl al z : Bool) (wc : Int) {b : Nat} (hb : b < 18446744073709551616) (hf : fin b = true) (hB : genB b 16 = false) :
    prefB (floatO m p bl al z wc 17 71 b).data.toList = b ∧ 0 < prefN (floatO m p bl al z wc 17 71 b).data.toList := by
  have hx : -4 ≤ sciE b 16 ∧ sciE b 16 ≤ 16 := by
    unfold genB at hB
    rw [Bool.or_eq_false_iff, decide_eq_false_iff_not, decide_eq_false_iff_not] at hB
    omega
  obtain ⟨k, hk⟩ : ∃ k : Nat, k = ((16 : Int) - sciE b 16).toNat := ⟨_, rfl⟩
  have hkI : (k : Int) = (16 : Int) - sciE b 16 := by omega
  have hk20 : k ≤ 20 := by omega
  obtain ⟨l, hc, hl4, hF⟩ := fix_ok b k hb hf (by omega)
  have hlen : l.length ≤ 17 := by
    by_cases hm : mant b = 0
    · have h0 := scaled_zero (b := b) (k : Int) hm
      rw [h0] at hc
      have := canon_unique hc (canon_mk (l := [48]) (by decide) (by simp) (by decide) (.inl rfl))
      rw [this]; decide
    · obtain ⟨s1, s2⟩ := sci_at hb hf hm
      rw [← hkI] at s2
      have h3 := canon_unique hc s2
      have := (sci_ok b 16 hb hf (by decide)).len
      rw [h3, this]
      exact Nat.le_refl _
  have hld := hc.dig
  have hl0 : 0 < l.length := List.length_pos_iff.2 hc.ne
  obtain ⟨q, hq⟩ : ∃ q, q = if l.length ≤ k then List.replicate (k + 1 - l.length) 48 ++ l else l := ⟨_, rfl⟩
  have hqd : Digits q := by
    rw [hq]
    split
    · exact zeros_cat hld
    · exact hld
  have hql : k + 1 ≤ q.length ∧ q.length ≤ 40 := by
    rw [hq]
    split
    · simp; omega
    · omega
  have hqv : digVal q = scaledN b k := by
    rw [hq]
    split
    · rw [digVal_zeros, hc.val]
    · exact hc.val
  have hM : Digits (q.take (q.length - k)) := fun c h => hqd c (List.mem_of_mem_take h)
  have hD : Digits (q.drop (q.length - k)) := fun c h => hqd c (List.mem_of_mem_drop h)
  have hMl : (q.take (q.length - k)).length = q.length - k := by rw [List.length_take]; omega
  have hDl : (q.drop (q.length - k)).length = k := by rw [List.length_drop]; omega
  have hGF : (genF b 16).data.toList = if 0 < k then q.take (q.length - k) ++ 46 :: q.drop (q.length - k) else q := by
    unfold genF
    show fixT b (((16 : Nat) : Int) - sciE b 16).toNat = _
    rw [show (((16 : Nat) : Int) - sciE b 16).toNat = k from hk.symm, hF, hq]
    rfl
  have hH : (genH b 16).data.toList = q.take (q.length - k) ++ 46 :: q.drop (q.length - k) := by
    unfold genH
    rw [if_neg (by rw [hB]; decide)]
    by_cases hk0 : 0 < k
    · rw [if_pos hk0] at hGF
      have hi : 0 ≤ Lib.indexByte (genF b 16).data.toList 46 := by
        obtain ⟨o, ho, _⟩ := ix_of_mem (l := (genF b 16).data.toList) (c := 46) (by rw [hGF]; simp)
        rw [ho]; omega
      rw [if_pos hi, hGF]
    · rw [if_neg hk0] at hGF
      have hi : ¬ 0 ≤ Lib.indexByte (genF b 16).data.toList 46 := by
        intro h
        obtain ⟨o, ho⟩ : ∃ o : Nat, Lib.indexByte (genF b 16).data.toList 46 = (o : Int) := ⟨_, (Int.toNat_of_nonneg h).symm⟩
        have h1 := (Lib.indexByte_some ho).1
        rw [hGF] at h1
        have h2 := hqd 46 (List.mem_of_getElem? h1)
        revert h2; decide
      have hk1 : k = 0 := by omega
      rw [if_neg hi, app_list, hGF, hk1]
      simp
  have hT : (genT b 16).data.toList = [] := by
    unfold genT
    rw [if_neg (by rw [hB]; decide)]
  rw [up_list, gen_list al hH hT, List.append_nil, upper_trim al hM hD (by omega)]
  have h := rd_any m p bl z wc hb hf (M := q.take (q.length - k)) (D2 := q.drop (q.length - k)) (tl := []) (X := 0) hM (by omega) hD (fun jj => ?_) ?_ (by omega) (by omega) (by omega) (by omega) (by omega) al
  · rw [List.append_nil] at h
    exact h
  · rw [List.nil_append]
    refine ⟨fun c r e => ?_, fun r e => ?_, 0, ?_⟩
    · cases jj with
      | zero => cases e
      | succ j => rw [List.replicate_succ] at e; injection e with e1 _; subst e1; decide
    · cases jj with
      | zero => cases e
      | succ j => rw [List.replicate_succ] at e; injection e with e1 _; revert e1; decide
    · refine exp_none fun c r e => ?_
      cases jj with
      | zero => cases e
      | succ j => rw [List.replicate_succ] at e; injection e with e1 _; subst e1; decide
  · rw [List.take_append_drop, hDl]
    by_cases hm : mant b = 0
    · refine .inl ⟨hm, ?_⟩
      have h0 := scaled_zero (b := b) (k : Int) hm
      rw [h0] at hc
      have h48 := canon_unique hc (canon_mk (l := [48]) (by decide) (by simp) (by decide) (.inl rfl))
      intro c hcm
      rw [hq, h48] at hcm
      split at hcm
      · rcases List.mem_append.1 hcm with h | h
        · exact List.eq_of_mem_replicate h
        · simpa using h
      · simpa using hcm
    · obtain ⟨s1, s2⟩ := sci_at hb hf hm
      rw [← hkI] at s1
      refine .inr ⟨by rw [Int.sub_zero]; exact s1, by rw [Int.sub_zero]; exact hqv⟩
theorem back_read (m p bl al z : Bool) (wc : Int) {b : Nat} (hb : b < 18446744073709551616) (hf : fin b = true) :
    (prefB (floatO m p bl al z wc 16 101 b).data.toList = b ∧ 0 < prefN (floatO m p bl al z wc 16 101 b).data.toList) ∧ prefB (floatO m p bl al z wc 17 71 b).data.toList = b ∧ 0 < prefN (floatO m p bl al z wc 17 71 b).data.toList := by
  refine ⟨back_e m p bl al z wc hb hf, ?_⟩
  cases hB : genB b 16
  · exact back_G_fix m p bl al z wc hb hf hB
  · exact back_G_sci m p bl al z wc hb hf hB
end Go.Proofs.YtcmpdamfeoaapaaGreatDoor
end
