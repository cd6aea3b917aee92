/- Plain: what is written with a point and a power looks like a number, padded too; what general writes is read back. -/
import Derived.Test.YtcmpdamfeoaapaaGreatDoorM12
import Derived.Test.YtcmpdamfeoaapaaGreatDoorK19
namespace Go.Proofs.YtcmpdamfeoaapaaGreatDoor
open Go.RowKit
set_option linter.unusedVariables false

theorem looks_of (i : Nat) (neg pl : Bool) (c : UInt8) (r : List UInt8) (n : Nat) (hc : 48 ≤ c.toNat ∧ c.toNat ≤ 57) (hn : (numeralL (c :: r)).2.2 = n) (hn0 : n ≠ 0) (hall : ∀ x ∈ (c :: r).drop n, x = 32) :
    looksL (List.replicate i 32 ++ ((if neg = true then [45] else if pl = true then [43] else []) ++ c :: r)) = true := by
  have hcs : c ≠ 32 ∧ c ≠ 9 ∧ c ≠ 10 ∧ c ≠ 45 ∧ c ≠ 43 := by refine ⟨?_, ?_, ?_, ?_, ?_⟩ <;> rintro rfl <;> revert hc <;> decide
  obtain ⟨S, hS⟩ : ∃ S : List UInt8, S = (if neg = true then [45] else if pl = true then [43] else []) := ⟨_, rfl⟩
  rw [← hS]
  have hu : unblank (List.replicate i 32 ++ (S ++ c :: r)) = S ++ c :: r := by
    refine unblank_blanks i _ fun c' r' e => ?_
    cases neg <;> cases pl <;> simp at hS <;> subst hS <;> simp at e
    · rw [← e.1]; exact ⟨hcs.1, hcs.2.1, hcs.2.2.1⟩
    · rw [← e.1]; decide
    · rw [← e.1]; decide
    · rw [← e.1]; decide
  have hs : signB (S ++ c :: r) = (S.length, neg) ∧ (S ++ c :: r).drop S.length = c :: r := by
    refine ⟨?_, by simp⟩
    cases neg <;> cases pl <;> simp at hS <;> subst hS
    · exact signB_other c r hcs.2.2.2.1 hcs.2.2.2.2
    · rfl
    · rfl
    · rfl
  have hcore : coreL (List.replicate i 32 ++ (S ++ c :: r)) = numeralL (c :: r) := by
    unfold coreL
    rw [hu, hs.1]
    show numeralL (List.drop S.length (S ++ c :: r)) = _
    rw [hs.2]
  have hP : prefN (List.replicate i 32 ++ (S ++ c :: r)) = i + S.length + n := by
    unfold prefN
    rw [hcore, hn, if_neg hn0, hu, hs.1]
    simp only [List.length_append, List.length_replicate]
    omega
  have hd : (List.replicate i 32 ++ (S ++ c :: r)).drop (i + S.length + n) = (c :: r).drop n := by
    have e1 : List.replicate i (32 : UInt8) ++ (S ++ c :: r) = (List.replicate i 32 ++ S) ++ c :: r := by rw [List.append_assoc]
    have e2 : i + S.length + n = (List.replicate i (32 : UInt8) ++ S).length + n := by simp
    rw [e1, e2, ← List.drop_drop, List.drop_left]
  unfold looksL
  rw [hP, hd, trimS_ws (fun x hx => by rw [hall x hx]; decide)]
  simp
  omega
theorem pad_looks (m p bl z neg : Bool) (wc : Int) (C : List UInt8) (hc : ∃ c r, C = c :: r ∧ 48 ≤ c.toNat ∧ c.toNat ≤ 57)
    (HC : ∀ i j, (numeralL (List.replicate i 48 ++ (C ++ List.replicate j 32))).2.2 = i + C.length) : looksL (padL m z wc (signL p bl neg) C) = true := by
  have core : ∀ k i j, looksL (List.replicate k 32 ++ ((if neg = true then [45] else if p = true then [43] else []) ++ (List.replicate i 48 ++ (C ++ List.replicate j 32)))) = true := by
    intro k i j
    have hE := HC i j
    obtain ⟨c, r, hr, hcd⟩ : ∃ c r, List.replicate i 48 ++ (C ++ List.replicate j 32) = c :: r ∧ 48 ≤ c.toNat ∧ c.toNat ≤ 57 := by
      obtain ⟨c, r, hC, h1, h2⟩ := hc
      cases i with
      | zero => exact ⟨c, r ++ List.replicate j 32, by rw [hC]; rfl, h1, h2⟩
      | succ i => exact ⟨48, List.replicate i 48 ++ (C ++ List.replicate j 32), by rw [List.replicate_succ]; rfl, by decide, by decide⟩
    have e : (List.replicate i 48 ++ (C ++ List.replicate j 32)).drop (i + C.length) = List.replicate j 32 := by
      rw [← List.append_assoc, show i + C.length = (List.replicate i (48 : UInt8) ++ C).length by simp, List.drop_left]
    rw [hr] at hE e ⊢
    refine looks_of k neg p c r (i + C.length) hcd hE ?_ (fun x hx => ?_)
    · obtain ⟨c', r', hC, _⟩ := hc
      rw [hC]; simp
    · rw [e] at hx
      exact List.eq_of_mem_replicate hx
  have hs : ∃ i0, signL p bl neg = List.replicate i0 32 ++ (if neg = true then [45] else if p = true then [43] else []) := by
    unfold signL
    cases neg <;> cases p <;> cases bl
    · exact ⟨0, rfl⟩
    · exact ⟨1, rfl⟩
    all_goals exact ⟨0, rfl⟩
  obtain ⟨i0, hi0⟩ := hs
  have e1 : ∀ (i j : Nat), signL p bl neg ++ (List.replicate i 48 ++ (C ++ List.replicate j 32)) = List.replicate i0 32 ++ ((if neg = true then [45] else if p = true then [43] else []) ++ (List.replicate i 48 ++ (C ++ List.replicate j 32))) := by
    intro i j
    rw [hi0, List.append_assoc]
  unfold padL
  generalize (wc - ((signL p bl neg).length : Int) - (C.length : Int)).toNat = K
  cases m
  · cases z
    · have e2 : List.replicate K 32 ++ signL p bl neg ++ C = List.replicate (K + i0) 32 ++ ((if neg = true then [45] else if p = true then [43] else []) ++ (List.replicate 0 48 ++ (C ++ List.replicate 0 32))) := by
        rw [hi0, ← List.replicate_append_replicate]
        simp only [List.replicate_zero, List.nil_append, List.append_nil, List.append_assoc]
      rw [if_neg (by decide), if_neg (by decide), e2]
      exact core (K + i0) 0 0
    · have e2 : signL p bl neg ++ List.replicate K 48 ++ C = signL p bl neg ++ (List.replicate K 48 ++ (C ++ List.replicate 0 32)) := by simp [List.append_assoc]
      rw [if_neg (by decide), if_pos rfl, e2, e1]
      exact core i0 K 0
  · have e2 : signL p bl neg ++ C ++ List.replicate K 32 = signL p bl neg ++ (List.replicate 0 48 ++ (C ++ List.replicate K 32)) := by simp [List.append_assoc]
    rw [if_pos rfl, e2, e1]
    exact core i0 0 K
section
variable (m p bl z neg : Bool) (wc : Int) {M D2 tl : List UInt8} (hM : Digits M) (h0 : 0 < M.length) (hD2 : Digits D2)
  (htl : ∀ jj, NoDig (tl ++ List.replicate jj 32) ∧ (∀ r, tl ++ List.replicate jj 32 ≠ 46 :: r) ∧ (expL (tl ++ List.replicate jj 32)).2 = tl.length)
include hM h0 hD2 htl
theorem rdl_pt : looksL (padL m z wc (signL p bl neg) (M ++ 46 :: (D2 ++ tl))) = true := by
  refine pad_looks m p bl z neg wc _ (head_cat hM h0) fun i jj => ?_
  obtain ⟨t1, t2, t3⟩ := htl jj
  have e0 : List.replicate i 48 ++ (M ++ 46 :: (D2 ++ tl) ++ List.replicate jj 32) = List.replicate i 48 ++ M ++ 46 :: (D2 ++ (tl ++ List.replicate jj 32)) := by simp [List.append_assoc]
  rw [e0]
  have hm := mant_point (D1 := List.replicate i 48 ++ M) (D2 := D2) (t := tl ++ List.replicate jj 32) (zeros_cat hM) hD2 (by simp; omega) t1
  unfold numeralL
  rw [hm]
  have hne : List.replicate i 48 ++ M ++ D2 ≠ [] := by
    intro h
    have := congrArg List.length h
    simp only [List.length_append, List.length_nil, List.length_replicate] at this
    omega
  rw [if_neg hne]
  dsimp only
  rw [drop_point, t3]
  simp
  omega
omit hD2 in
theorem rdl_np : looksL (padL m z wc (signL p bl neg) (M ++ tl)) = true := by
  refine pad_looks m p bl z neg wc _ (head_cat hM h0) fun i jj => ?_
  obtain ⟨t1, t2, t3⟩ := htl jj
  have e0 : List.replicate i 48 ++ (M ++ tl ++ List.replicate jj 32) = List.replicate i 48 ++ M ++ (tl ++ List.replicate jj 32) := by simp [List.append_assoc]
  rw [e0]
  have hm := mant_whole (D1 := List.replicate i 48 ++ M) (t := tl ++ List.replicate jj 32) (zeros_cat hM) t1 t2
  unfold numeralL
  rw [hm]
  have hne : List.replicate i 48 ++ M ≠ [] := by
    intro h
    have := congrArg List.length h
    simp only [List.length_append, List.length_nil, List.length_replicate] at this
    omega
  rw [if_neg hne]
  dsimp only
  rw [List.drop_left, t3]
  simp
  omega
theorem rdl_any (al : Bool) : looksL (padL m z wc (signL p bl neg) ((if al = true then M ++ 46 :: D2 else Lib.trimSuffix (Lib.trimRightB (M ++ 46 :: D2) 48) [46]) ++ tl)) = true := by
  cases al
  · obtain ⟨D, j, hj, he⟩ := trim_text M D2 hM hD2 h0
    rw [if_neg (by decide), he]
    by_cases hD : D = []
    · rw [if_pos hD]
      exact rdl_np m p bl z neg wc hM h0 htl
    · rw [if_neg hD, show M ++ 46 :: D ++ tl = M ++ 46 :: (D ++ tl) by simp]
      exact rdl_pt m p bl z neg wc hM h0 (fun c hc => hD2 c (by rw [hj]; exact List.mem_append_left _ hc)) htl
  · rw [if_pos rfl, show M ++ 46 :: D2 ++ tl = M ++ 46 :: (D2 ++ tl) by simp]
    exact rdl_pt m p bl z neg wc hM h0 hD2 htl
end
/-- what general writes with seventeen digits: digits, a point, digits and a power -/
structure GenF (b : Nat) (M D2 tl : List UInt8) (X : Int) : Prop where
  head : (genH b 16).data.toList = M ++ 46 :: D2
  tail : (genT b 16).data.toList = tl
  dM : Digits M
  pos : 0 < M.length
  dD : Digits D2
  stop : ∀ jj, NoDig (tl ++ List.replicate jj 32) ∧ (∀ r, tl ++ List.replicate jj 32 ≠ 46 :: r) ∧ expL (tl ++ List.replicate jj 32) = (X, tl.length)
  val : (mant b = 0 ∧ ∀ c ∈ M ++ D2, c = 48) ∨ (10 ^ 16 ≤ scaledN b ((D2.length : Int) - X) ∧ digVal (M ++ D2) = scaledN b ((D2.length : Int) - X))
  l2 : D2.length ≤ 20
  x1 : -325 ≤ X
  x2 : (M.length : Int) + X ≤ 310
  lM : M.length ≤ 60
  x3 : X ≤ 309
theorem pow_sign {e : Int} (x2 : powN (expE e.natAbs) = e.natAbs) : powL (expE e.natAbs) ((if e < 0 then (45 : UInt8) else 43) == 45) = e := by
  unfold powL
  rw [x2]
  by_cases h : e < 0
  · rw [if_pos h, if_pos (by decide)]; omega
  · rw [if_neg h, if_neg (by decide)]; omega
theorem exp_tail {e : Int} (h1 : -325 ≤ e) (h2 : e ≤ 309) (jj : Nat) : NoDig ((101 :: (if e < 0 then (45 : UInt8) else 43) :: expE e.natAbs) ++ List.replicate jj 32) ∧ (∀ r, (101 :: (if e < 0 then (45 : UInt8) else 43) :: expE e.natAbs) ++ List.replicate jj 32 ≠ 46 :: r) ∧ expL ((101 :: (if e < 0 then (45 : UInt8) else 43) :: expE e.natAbs) ++ List.replicate jj 32) = (e, (101 :: (if e < 0 then (45 : UInt8) else 43) :: expE e.natAbs).length) := by
  obtain ⟨x1, x2, x3⟩ := expE_ok (n := e.natAbs) (by omega)
  have hpow := pow_sign x2
  have hs : (if e < 0 then (45 : UInt8) else 43) = 43 ∨ (if e < 0 then (45 : UInt8) else 43) = 45 := by split; exact .inr rfl; exact .inl rfl
  generalize (if e < 0 then (45 : UInt8) else 43) = s at *
  have hN : NoDig (List.replicate jj 32) := fun c r e => by
    cases jj with
    | zero => cases e
    | succ j => rw [List.replicate_succ] at e; injection e with e1 _; subst e1; decide
  refine ⟨noDig_cons (.inr (by decide)), fun r h => by injection h with h _; revert h; decide, ?_⟩
  show expL (101 :: s :: (expE e.natAbs ++ List.replicate jj 32)) = _
  rw [exp_some (.inl rfl) hs x1 x3 hN, hpow]
  simp
  omega
theorem gen_sci {b : Nat} (hb : b < 18446744073709551616) (hf : fin b = true) (hB : genB b 16 = true) : ∃ M D2 tl X, GenF b M D2 tl X := by
  have hok := sci_ok b 16 hb hf (by decide)
  obtain ⟨d0, D2, hD, hl, hT⟩ := sci_text true (by decide : 0 < 16) hok
  have hdig := hok.dig
  rw [hD] at hdig
  have h1 := hok.lo
  have h2 := hok.hi
  have hd0 : Digits [d0] := fun c hc => hdig c (by rw [List.mem_singleton] at hc; subst hc; exact List.mem_cons_self)
  have hD2 : Digits D2 := fun c hc => hdig c (List.mem_cons_of_mem _ hc)
  have hX : (genX b 16).data.toList = (d0 :: 46 :: D2) ++ 101 :: ((if sciE b 16 < 0 then (45 : UInt8) else 43) :: expE (sciE b 16).natAbs) := by
    show (sciO b 16 true).data.toList = _
    rw [hT]
    simp
  have hI : genI b 16 = 18 := by
    unfold genI
    rw [hX, index_at]
    · simp [hl]
    · intro hc
      rcases List.mem_cons.1 hc with h | hc
      · have := hdig d0 List.mem_cons_self; rw [← h] at this; revert this; decide
      · rcases List.mem_cons.1 hc with h | hc
        · revert h; decide
        · have := hD2 _ hc; revert this; decide
  refine ⟨[d0], D2, 101 :: (if sciE b 16 < 0 then (45 : UInt8) else 43) :: expE (sciE b 16).natAbs, sciE b 16, ?_, ?_, hd0, by simp, hD2, fun jj => exp_tail h1 h2 jj, ?_, by omega, by omega, by simp; omega, by simp, by omega⟩
  · unfold genH
    rw [if_pos hB, hI, ext_list5, hX]
    simp [hl]
  · unfold genT
    rw [if_pos hB, hI, ext_list5, sz_list, List.take_length, hX]
    simp [hl]
  · rw [hl]
    by_cases hm : mant b = 0
    · refine .inl ⟨hm, fun c hc => ?_⟩
      have e1 : d0 :: D2 = List.replicate 17 48 := by rw [← hD]; unfold sciD; rw [if_pos hm]
      have hc' : c ∈ d0 :: D2 := hc
      rw [e1] at hc'
      exact List.eq_of_mem_replicate hc'
    · obtain ⟨s1, s2⟩ := sci_at hb hf hm
      refine .inr ⟨s1, ?_⟩
      show digVal (d0 :: D2) = _
      rw [← hD, s2.val]
      rfl
theorem gen_fix {b : Nat} (hb : b < 18446744073709551616) (hf : fin b = true) (hB : genB b 16 = false) : ∃ M D2 tl X, GenF b M D2 tl X := by
  have hx : -4 ≤ sciE b 16 ∧ sciE b 16 ≤ 16 := by
    unfold genB at hB
    rw [Bool.or_eq_false_iff, decide_eq_false_iff_not, decide_eq_false_iff_not] at hB
    omega
  obtain ⟨k, hk⟩ : ∃ k : Nat, k = ((16 : Int) - sciE b 16).toNat := ⟨_, rfl⟩
  have hkI : (k : Int) = (16 : Int) - sciE b 16 := by omega
  have hk20 : k ≤ 20 := by omega
  obtain ⟨l, hc, hl4, hF⟩ := fix_ok b k hb hf (by omega)
  have hlen : l.length ≤ 17 := by
    by_cases hm : mant b = 0
    · have h0 := scaled_zero (b := b) (k : Int) hm
      rw [h0] at hc
      have := canon_unique hc (canon_mk (l := [48]) (by decide) (by simp) (by decide) (.inl rfl))
      rw [this]; decide
    · obtain ⟨s1, s2⟩ := sci_at hb hf hm
      rw [← hkI] at s2
      have h3 := canon_unique hc s2
      have := (sci_ok b 16 hb hf (by decide)).len
      rw [h3, this]
      exact Nat.le_refl _
  have hld := hc.dig
  have hl0 : 0 < l.length := List.length_pos_iff.2 hc.ne
  obtain ⟨q, hq⟩ : ∃ q, q = if l.length ≤ k then List.replicate (k + 1 - l.length) 48 ++ l else l := ⟨_, rfl⟩
  have hqd : Digits q := by
    rw [hq]
    split
    · exact zeros_cat hld
    · exact hld
  have hql : k + 1 ≤ q.length ∧ q.length ≤ 40 := by
    rw [hq]
    split
    · simp; omega
    · omega
  have hqv : digVal q = scaledN b k := by
    rw [hq]
    split
    · rw [digVal_zeros, hc.val]
    · exact hc.val
  have hM : Digits (q.take (q.length - k)) := fun c h => hqd c (List.mem_of_mem_take h)
  have hD : Digits (q.drop (q.length - k)) := fun c h => hqd c (List.mem_of_mem_drop h)
  have hMl : (q.take (q.length - k)).length = q.length - k := by rw [List.length_take]; omega
  have hDl : (q.drop (q.length - k)).length = k := by rw [List.length_drop]; omega
  have hGF : (genF b 16).data.toList = if 0 < k then q.take (q.length - k) ++ 46 :: q.drop (q.length - k) else q := by
    unfold genF
    show fixT b (((16 : Nat) : Int) - sciE b 16).toNat = _
    rw [show (((16 : Nat) : Int) - sciE b 16).toNat = k from hk.symm, hF, hq]
    rfl
  have hH : (genH b 16).data.toList = q.take (q.length - k) ++ 46 :: q.drop (q.length - k) := by
    unfold genH
    rw [if_neg (by rw [hB]; decide)]
    by_cases hk0 : 0 < k
    · rw [if_pos hk0] at hGF
      have hi : 0 ≤ Lib.indexByte (genF b 16).data.toList 46 := by
        obtain ⟨o, ho, _⟩ := ix_of_mem (l := (genF b 16).data.toList) (c := 46) (by rw [hGF]; simp)
        rw [ho]; omega
      rw [if_pos hi, hGF]
    · rw [if_neg hk0] at hGF
      have hi : ¬ 0 ≤ Lib.indexByte (genF b 16).data.toList 46 := by
        intro h
        obtain ⟨o, ho⟩ : ∃ o : Nat, Lib.indexByte (genF b 16).data.toList 46 = (o : Int) := ⟨_, (Int.toNat_of_nonneg h).symm⟩
        have h1 := (Lib.indexByte_some ho).1
        rw [hGF] at h1
        have h2 := hqd 46 (List.mem_of_getElem? h1)
        revert h2; decide
      have hk1 : k = 0 := by omega
      rw [if_neg hi, app_list, hGF, hk1]
      simp
  refine ⟨q.take (q.length - k), q.drop (q.length - k), [], 0, hH, ?_, hM, by omega, hD, fun jj => ⟨fun c r e => ?_, fun r e => ?_, ?_⟩, ?_, by omega, by omega, by omega, by omega, by omega⟩
  · unfold genT
    rw [if_neg (by rw [hB]; decide)]
  · rw [List.nil_append] at e
    cases jj with
    | zero => cases e
    | succ j => rw [List.replicate_succ] at e; injection e with e1 _; subst e1; decide
  · rw [List.nil_append] at e
    cases jj with
    | zero => cases e
    | succ j => rw [List.replicate_succ] at e; injection e with e1 _; revert e1; decide
  · rw [List.nil_append]
    exact exp_none fun c r e => by
      cases jj with
      | zero => cases e
      | succ j => rw [List.replicate_succ] at e; injection e with e1 _; subst e1; decide
  · rw [List.take_append_drop, hDl]
    by_cases hm : mant b = 0
    · refine .inl ⟨hm, ?_⟩
      have h0 := scaled_zero (b := b) (k : Int) hm
      rw [h0] at hc
      have h48 := canon_unique hc (canon_mk (l := [48]) (by decide) (by simp) (by decide) (.inl rfl))
      intro c hcm
      rw [hq, h48] at hcm
      split at hcm
      · rcases List.mem_append.1 hcm with h | h
        · exact List.eq_of_mem_replicate h
        · simpa using h
      · simpa using hcm
    · obtain ⟨s1, s2⟩ := sci_at hb hf hm
      rw [← hkI] at s1
      refine .inr ⟨by rw [Int.sub_zero]; exact s1, by rw [Int.sub_zero]; exact hqv⟩
/-- what general writes is read back, and looks like a number -/
theorem gen_back (m p bl al z : Bool) (wc : Int) {b : Nat} (hb : b < 18446744073709551616) (hf : fin b = true) :
    prefB (padL m z wc (signL p bl (decide (9223372036854775808 ≤ b))) (genO b 16 al).data.toList) = b ∧ looksL (padL m z wc (signL p bl (decide (9223372036854775808 ≤ b))) (genO b 16 al).data.toList) = true := by
  obtain ⟨M, D2, tl, X, g⟩ : ∃ M D2 tl X, GenF b M D2 tl X := by
    cases hB : genB b 16
    · exact gen_fix hb hf hB
    · exact gen_sci hb hf hB
  rw [gen_list al g.head g.tail]
  exact ⟨(rd_any m p bl z wc hb hf g.dM g.pos g.dD (fun jj => ⟨(g.stop jj).1, (g.stop jj).2.1, _, (g.stop jj).2.2⟩) g.val g.l2 g.x1 g.x2 g.lM g.x3 al).1,
    rdl_any m p bl z _ wc g.dM g.pos g.dD (fun jj => ⟨(g.stop jj).1, (g.stop jj).2.1, by rw [(g.stop jj).2.2]⟩) al⟩
/-- what is written by e looks like a number -/
theorem e_looks (m p bl al z : Bool) (wc : Int) {b : Nat} (hb : b < 18446744073709551616) (hf : fin b = true) : looksL (floatO m p bl al z wc 16 101 b).data.toList = true := by
  have hok := sci_ok b 16 hb hf (by decide)
  obtain ⟨d0, D2, hD, hl, hT⟩ := sci_text al (by decide : 0 < 16) hok
  have hFO : (floatO m p bl al z wc 16 101 b).data.toList = padL m z wc (signL p bl (decide (9223372036854775808 ≤ b))) ([d0] ++ 46 :: (D2 ++ 101 :: (if sciE b 16 < 0 then 45 else 43) :: (expE (sciE b 16).natAbs))) := by
    have h : (floatO m p bl al z wc 16 101 b).data.toList = padL m z wc (signL p bl (decide (9223372036854775808 ≤ b))) (sciO b 16 al).data.toList := rfl
    rw [h, hT]
    rfl
  rw [hFO]
  have hdig := hok.dig
  rw [hD] at hdig
  exact rdl_pt m p bl z _ wc (fun c hc => hdig c (by rw [List.mem_singleton] at hc; subst hc; exact List.mem_cons_self)) (by simp) (fun c hc => hdig c (List.mem_cons_of_mem _ hc))
    (fun jj => ⟨(exp_tail hok.lo hok.hi jj).1, (exp_tail hok.lo hok.hi jj).2.1, by rw [(exp_tail hok.lo hok.hi jj).2.2]⟩)
end Go.Proofs.YtcmpdamfeoaapaaGreatDoor
