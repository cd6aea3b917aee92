/- FormatBack: what is written by G with seventeen digits is read back: plain. -/
import Derived.Test.YtjldeckcfdeklaaGreatDoorW10
namespace Go.Proofs.YtjldeckcfdeklaaGreatDoor
open Go.RowKit
set_option linter.unusedVariables false

theorem index_at (A B : List UInt8) (c : UInt8) (h : c ∉ A) : Lib.indexByte (A ++ c :: B) c = (A.length : Int) := by
  obtain ⟨o, ho, hol⟩ := ix_of_mem (l := A ++ c :: B) (c := c) (by simp)
  have h1 := Lib.indexByte_some ho
  rw [ho]
  have ha : ¬ o < A.length := fun hlt => by
    have h2 := h1.1
    rw [List.getElem?_append_left hlt] at h2
    exact h (List.mem_of_getElem? h2)
  have hb : ¬ A.length < o := fun hlt => by
    have h2 := h1.2 A.length hlt
    rw [List.getElem?_append_right (Nat.le_refl _)] at h2
    simp at h2
  omega
theorem upper_point {M D : List UInt8} (hM : Digits M) (hD : Digits D) : Lib.toUpperA (M ++ 46 :: D) = M ++ 46 :: D := by
  rw [show M ++ 46 :: D = M ++ ([46] ++ D) by simp, upper_app, upper_app, upper_digits hM, upper_digits hD]
  rfl
theorem upper_trim {M D2 : List UInt8} (al : Bool) (hM : Digits M) (hD2 : Digits D2) (h0 : 0 < M.length) : Lib.toUpperA (if al = true then M ++ 46 :: D2 else Lib.trimSuffix (Lib.trimRightB (M ++ 46 :: D2) 48) [46]) = (if al = true then M ++ 46 :: D2 else Lib.trimSuffix (Lib.trimRightB (M ++ 46 :: D2) 48) [46]) := by
  cases al
  · obtain ⟨D, j, hj, he⟩ := trim_text M D2 hM hD2 h0
    rw [if_neg (by decide), he]
    split
    · exact upper_digits hM
    · exact upper_point hM fun c hc => hD2 c (by rw [hj]; exact List.mem_append_left _ hc)
  · rw [if_pos rfl]
    exact upper_point hM hD2
/-- what general writes, as a text of digits, a point, digits and a power -/
theorem gen_list {b : Nat} (al : Bool) {M D2 tl : List UInt8} (hH : (genH b 16).data.toList = M ++ 46 :: D2) (hT : (genT b 16).data.toList = tl) :
    (genO b 16 al).data.toList = (if al = true then M ++ 46 :: D2 else Lib.trimSuffix (Lib.trimRightB (M ++ 46 :: D2) 48) [46]) ++ tl := by
  unfold genO
  rw [app_list, hT]
  congr 1
  cases al
  · rw [if_neg (by decide), if_neg (by decide), ← hH]
    rfl
  · rw [if_pos rfl, if_pos rfl, hH]
theorem up_list (m p bl al z : Bool) (wc : Int) (b : Nat) : (floatO m p bl al z wc 17 71 b).data.toList = padL m z wc (signL p bl (decide (9223372036854775808 ≤ b))) (Lib.toUpperA (genO b 16 al).data.toList) := by
  rw [← upper_pad]
  rfl
theorem back_G_sci (m p bl al z : Bool) (wc : Int) {b : Nat} (hb : b < 18446744073709551616) (hf : fin b = true) (hB : genB b 16 = true) :
    prefB (floatO m p bl al z wc 17 71 b).data.toList = b ∧ 0 < prefN (floatO m p bl al z wc 17 71 b).data.toList := by
  have hok := sci_ok b 16 hb hf (by decide)
  obtain ⟨d0, D2, hD, hl, hT⟩ := sci_text true (by decide : 0 < 16) hok
  have hdig := hok.dig
  rw [hD] at hdig
  have h1 := hok.lo
  have h2 := hok.hi
  obtain ⟨x1, x2, x3⟩ := expE_ok (n := (sciE b 16).natAbs) (by omega)
  have hd0 : Digits [d0] := fun c hc => hdig c (by rw [List.mem_singleton] at hc; subst hc; exact List.mem_cons_self)
  have hD2 : Digits D2 := fun c hc => hdig c (List.mem_cons_of_mem _ hc)
  have hpow : powL (expE (sciE b 16).natAbs) ((if sciE b 16 < 0 then (45 : UInt8) else 43) == 45) = sciE b 16 := by
    unfold powL
    rw [x2]
    by_cases h : sciE b 16 < 0
    · rw [if_pos h, if_pos (by decide)]; omega
    · rw [if_neg h, if_neg (by decide)]; omega
  have hs : (if sciE b 16 < 0 then (45 : UInt8) else 43) = 43 ∨ (if sciE b 16 < 0 then (45 : UInt8) else 43) = 45 := by split; exact .inr rfl; exact .inl rfl
  generalize (if sciE b 16 < 0 then (45 : UInt8) else 43) = s at *
  have hX : (genX b 16).data.toList = (d0 :: 46 :: D2) ++ 101 :: (s :: expE (sciE b 16).natAbs) := by
    show (sciO b 16 true).data.toList = _
    rw [hT]
    simp
  have hI : genI b 16 = 18 := by
    unfold genI
    rw [hX, index_at]
    · simp [hl]
    · intro hc
      rcases List.mem_cons.1 hc with h | hc
      · have := hdig d0 List.mem_cons_self; rw [← h] at this; revert this; decide
      · rcases List.mem_cons.1 hc with h | hc
        · revert h; decide
        · have := hD2 _ hc; revert this; decide
  have hH : (genH b 16).data.toList = [d0] ++ 46 :: D2 := by
    unfold genH
    rw [if_pos hB, hI, ext_list5, hX]
    simp [hl]
  have hTl : (genT b 16).data.toList = 101 :: s :: expE (sciE b 16).natAbs := by
    unfold genT
    rw [if_pos hB, hI, ext_list5, sz_list, List.take_length, hX]
    simp [hl]
  rw [up_list, gen_list al hH hTl, upper_app, upper_trim al hd0 hD2 (by simp)]
  have hu : Lib.toUpperA (101 :: s :: expE (sciE b 16).natAbs) = 69 :: s :: expE (sciE b 16).natAbs := by
    rw [show (101 : UInt8) :: s :: expE (sciE b 16).natAbs = [101] ++ ([s] ++ expE (sciE b 16).natAbs) by simp, upper_app, upper_app, upper_digits x1]
    rcases hs with rfl | rfl <;> rfl
  rw [hu]
  refine rd_any m p bl z wc hb hf (X := sciE b 16) hd0 (by simp) hD2 (fun jj => ?_) ?_ (by omega) (by omega) (by simp; omega) (by simp) (by omega) al
  · have hN : NoDig (List.replicate jj 32) := fun c r e => by
      cases jj with
      | zero => cases e
      | succ j => rw [List.replicate_succ] at e; injection e with e1 _; subst e1; decide
    refine ⟨noDig_cons (.inr (by decide)), fun r h => by injection h with h _; revert h; decide, 2 + (expE (sciE b 16).natAbs).length, ?_⟩
    · show expL (69 :: s :: (expE (sciE b 16).natAbs ++ List.replicate jj 32)) = _
      rw [exp_some (.inr rfl) hs x1 x3 hN, hpow]
  · rw [hl]
    by_cases hm : mant b = 0
    · refine .inl ⟨hm, fun c hc => ?_⟩
      have e1 : d0 :: D2 = List.replicate 17 48 := by rw [← hD]; unfold sciD; rw [if_pos hm]
      have hc' : c ∈ d0 :: D2 := hc
      rw [e1] at hc'
      exact List.eq_of_mem_replicate hc'
    · obtain ⟨s1, s2⟩ := sci_at hb hf hm
      refine .inr ⟨s1, ?_⟩
      show digVal (d0 :: D2) = _
      rw [← hD, s2.val]
      rfl
theorem back_G_fix (m p bl al z : Bool) (wc : Int) {b : Nat} (hb : b < 18446744073709551616) (hf : fin b = true) (hB : genB b 16 = false) :
    prefB (floatO m p bl al z wc 17 71 b).data.toList = b ∧ 0 < prefN (floatO m p bl al z wc 17 71 b).data.toList := by
  have hx : -4 ≤ sciE b 16 ∧ sciE b 16 ≤ 16 := by
    unfold genB at hB
    rw [Bool.or_eq_false_iff, decide_eq_false_iff_not, decide_eq_false_iff_not] at hB
    omega
  obtain ⟨k, hk⟩ : ∃ k : Nat, k = ((16 : Int) - sciE b 16).toNat := ⟨_, rfl⟩
  have hkI : (k : Int) = (16 : Int) - sciE b 16 := by omega
  have hk20 : k ≤ 20 := by omega
  obtain ⟨l, hc, hl4, hF⟩ := fix_ok b k hb hf (by omega)
  have hlen : l.length ≤ 17 := by
    by_cases hm : mant b = 0
    · have h0 := scaled_zero (b := b) (k : Int) hm
      rw [h0] at hc
      have := canon_unique hc (canon_mk (l := [48]) (by decide) (by simp) (by decide) (.inl rfl))
      rw [this]; decide
    · obtain ⟨s1, s2⟩ := sci_at hb hf hm
      rw [← hkI] at s2
      have h3 := canon_unique hc s2
      have := (sci_ok b 16 hb hf (by decide)).len
      rw [h3, this]
      exact Nat.le_refl _
  have hld := hc.dig
  have hl0 : 0 < l.length := List.length_pos_iff.2 hc.ne
  obtain ⟨q, hq⟩ : ∃ q, q = if l.length ≤ k then List.replicate (k + 1 - l.length) 48 ++ l else l := ⟨_, rfl⟩
  have hqd : Digits q := by
    rw [hq]
    split
    · exact zeros_cat hld
    · exact hld
  have hql : k + 1 ≤ q.length ∧ q.length ≤ 40 := by
    rw [hq]
    split
    · simp; omega
    · omega
  have hqv : digVal q = scaledN b k := by
    rw [hq]
    split
    · rw [digVal_zeros, hc.val]
    · exact hc.val
  have hM : Digits (q.take (q.length - k)) := fun c h => hqd c (List.mem_of_mem_take h)
  have hD : Digits (q.drop (q.length - k)) := fun c h => hqd c (List.mem_of_mem_drop h)
  have hMl : (q.take (q.length - k)).length = q.length - k := by rw [List.length_take]; omega
  have hDl : (q.drop (q.length - k)).length = k := by rw [List.length_drop]; omega
  have hGF : (genF b 16).data.toList = if 0 < k then q.take (q.length - k) ++ 46 :: q.drop (q.length - k) else q := by
    unfold genF
    show fixT b (((16 : Nat) : Int) - sciE b 16).toNat = _
    rw [show (((16 : Nat) : Int) - sciE b 16).toNat = k from hk.symm, hF, hq]
    rfl
  have hH : (genH b 16).data.toList = q.take (q.length - k) ++ 46 :: q.drop (q.length - k) := by
    unfold genH
    rw [if_neg (by rw [hB]; decide)]
    by_cases hk0 : 0 < k
    · rw [if_pos hk0] at hGF
      have hi : 0 ≤ Lib.indexByte (genF b 16).data.toList 46 := by
        obtain ⟨o, ho, _⟩ := ix_of_mem (l := (genF b 16).data.toList) (c := 46) (by rw [hGF]; simp)
        rw [ho]; omega
      rw [if_pos hi, hGF]
    · rw [if_neg hk0] at hGF
      have hi : ¬ 0 ≤ Lib.indexByte (genF b 16).data.toList 46 := by
        intro h
        obtain ⟨o, ho⟩ : ∃ o : Nat, Lib.indexByte (genF b 16).data.toList 46 = (o : Int) := ⟨_, (Int.toNat_of_nonneg h).symm⟩
        have h1 := (Lib.indexByte_some ho).1
        rw [hGF] at h1
        have h2 := hqd 46 (List.mem_of_getElem? h1)
        revert h2; decide
      have hk1 : k = 0 := by omega
      rw [if_neg hi, app_list, hGF, hk1]
      simp
  have hT : (genT b 16).data.toList = [] := by
    unfold genT
    rw [if_neg (by rw [hB]; decide)]
  rw [up_list, gen_list al hH hT, List.append_nil, upper_trim al hM hD (by omega)]
  have h := rd_any m p bl z wc hb hf (M := q.take (q.length - k)) (D2 := q.drop (q.length - k)) (tl := []) (X := 0) hM (by omega) hD (fun jj => ?_) ?_ (by omega) (by omega) (by omega) (by omega) (by omega) al
  · rw [List.append_nil] at h
    exact h
  · rw [List.nil_append]
    refine ⟨fun c r e => ?_, fun r e => ?_, 0, ?_⟩
    · cases jj with
      | zero => cases e
      | succ j => rw [List.replicate_succ] at e; injection e with e1 _; subst e1; decide
    · cases jj with
      | zero => cases e
      | succ j => rw [List.replicate_succ] at e; injection e with e1 _; revert e1; decide
    · refine exp_none fun c r e => ?_
      cases jj with
      | zero => cases e
      | succ j => rw [List.replicate_succ] at e; injection e with e1 _; subst e1; decide
  · rw [List.take_append_drop, hDl]
    by_cases hm : mant b = 0
    · refine .inl ⟨hm, ?_⟩
      have h0 := scaled_zero (b := b) (k : Int) hm
      rw [h0] at hc
      have h48 := canon_unique hc (canon_mk (l := [48]) (by decide) (by simp) (by decide) (.inl rfl))
      intro c hcm
      rw [hq, h48] at hcm
      split at hcm
      · rcases List.mem_append.1 hcm with h | h
        · exact List.eq_of_mem_replicate h
        · simpa using h
      · simpa using hcm
    · obtain ⟨s1, s2⟩ := sci_at hb hf hm
      rw [← hkI] at s1
      refine .inr ⟨by rw [Int.sub_zero]; exact s1, by rw [Int.sub_zero]; exact hqv⟩
theorem back_read (m p bl al z : Bool) (wc : Int) {b : Nat} (hb : b < 18446744073709551616) (hf : fin b = true) :
    (prefB (floatO m p bl al z wc 16 101 b).data.toList = b ∧ 0 < prefN (floatO m p bl al z wc 16 101 b).data.toList) ∧ prefB (floatO m p bl al z wc 17 71 b).data.toList = b ∧ 0 < prefN (floatO m p bl al z wc 17 71 b).data.toList := by
  refine ⟨back_e m p bl al z wc hb hf, ?_⟩
  cases hB : genB b 16
  · exact back_G_fix m p bl al z wc hb hf hB
  · exact back_G_sci m p bl al z wc hb hf hB
end Go.Proofs.YtjldeckcfdeklaaGreatDoor
