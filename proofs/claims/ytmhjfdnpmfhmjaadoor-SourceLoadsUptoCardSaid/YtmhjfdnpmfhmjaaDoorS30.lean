/- thresherref19.directive and source.directive say the same of a line (plain). -/
import Derived.Test.YtmhjfdnpmfhmjaaDoorS28
namespace Go.Proofs.YtmhjfdnpmfhmjaaDoor
set_option linter.unusedVariables false

theorem blank_isBl (c : UInt8) : blank.contains c = isBl c := by
  unfold blank isBl
  show (c == 32 || (c == 9 || false)) = _
  rw [Bool.or_false]
theorem trimBl_eq (l : Str) : trimBl l = l.dropWhile isBl := by
  unfold trimBl Lib.trimLeftS
  congr 1; funext c; exact blank_isBl c
theorem trimR_eq (l : Str) : Lib.trimRightS l blank = (l.reverse.dropWhile isBl).reverse := by
  unfold Lib.trimRightS
  congr 2; funext c; exact blank_isBl c
/-- what stands behind the first sign of quotation -/
def refV (v : Str) : Nat × Str :=
  if ((v.dropWhile (fun c => c != 34)).drop 1).all isBl = false ∨ v.dropWhile (fun c => c != 34) = [] then (1, []) else (2, v.takeWhile (fun c => c != 34))
def refU (r u : Str) : Nat × Str := if u = r ∨ u = [] ∨ u.head? ≠ some 34 then (1, []) else refV (u.drop 1)
def refT (t : Str) : Nat × Str :=
  if t.length < 8 ∨ t.take 8 ≠ incW ∨ (8 < t.length ∧ letterB ((t[8]?.getD 0).toNat) = true) then (0, [])
  else refU (t.drop 8) ((t.drop 8).dropWhile isBl)
theorem seg_drop (s : Str) (i k : Nat) : seg s i k = (s.drop i).take (k - i) := rfl
theorem refD_T (s : Str) : refD s = refT (s.dropWhile isBl) := by
  obtain ⟨t, ht⟩ : ∃ t, t = s.dropWhile isBl := ⟨_, rfl⟩
  have h0 : s.drop (skipP isBl s 0) = t := by rw [skipP_drop, ht]; rfl
  obtain ⟨i, hi⟩ : ∃ i, i = skipP isBl s 0 := ⟨_, rfl⟩
  have hile : i ≤ s.length := by rw [hi]; exact (skipP_le (Nat.zero_le _)).2
  rw [← ht]
  unfold refD refT
  rw [← hi] at h0 ⊢
  dsimp only
  have e1 : s.length - i = t.length := by rw [← h0, List.length_drop]
  have e2 : seg s i (i + 8) = t.take 8 := by rw [seg_drop, h0, Nat.add_sub_cancel_left]
  have e3 : s[i + 8]? = t[8]? := by rw [← h0, List.getElem?_drop]
  rw [e1, e2, e3]
  by_cases hc : t.length < 8 ∨ t.take 8 ≠ incW ∨ (8 < t.length ∧ letterB ((t[8]?.getD 0).toNat) = true)
  · rw [if_pos hc, if_pos hc]
  rw [if_neg hc, if_neg hc]
  have h8 : 8 ≤ t.length := by have := not_or.1 hc; omega
  have hf : i + 8 ≤ s.length := by omega
  obtain ⟨r, hr⟩ : ∃ r, r = t.drop 8 := ⟨_, rfl⟩
  have e4 : s.drop (i + 8) = r := by rw [hr, ← h0, List.drop_drop]
  have hk := skipP_le (p := isBl) hf
  have e5 : s.drop (skipP isBl s (i + 8)) = r.dropWhile isBl := by rw [skipP_drop, e4]
  obtain ⟨k, hkk⟩ : ∃ k, k = skipP isBl s (i + 8) := ⟨_, rfl⟩
  rw [← hkk] at hk e5 ⊢
  rw [← hr]
  obtain ⟨u, hu⟩ : ∃ u, u = r.dropWhile isBl := ⟨_, rfl⟩
  rw [← hu] at e5 ⊢
  have c1 : (k = i + 8) ↔ u = r := by
    constructor
    · intro e; rw [← e5, ← e4, e]
    · intro e
      have := congrArg List.length e
      rw [← e5, ← e4, List.length_drop, List.length_drop] at this
      omega
  have c2 : s.length ≤ k ↔ u = [] := by rw [← e5]; exact List.drop_eq_nil_iff.symm
  have c3 : s[k]? = u.head? := by rw [← e5, List.head?_drop]
  unfold refU
  rw [c3]
  by_cases hd : u = r ∨ u = [] ∨ u.head? ≠ some 34
  · rw [if_pos hd, if_pos]
    rw [c1, c2]; exact hd
  · rw [if_neg hd, if_neg (by rw [c1, c2]; exact hd)]
    have e6 : s.drop (k + 1) = u.drop 1 := by rw [← e5, List.drop_drop]
    obtain ⟨v, hv⟩ : ∃ v, v = u.drop 1 := ⟨_, rfl⟩
    rw [← hv] at e6 ⊢
    have hkl : k + 1 ≤ s.length := by
      have := mt c2.1 (fun e => hd (.inr (.inl e)))
      omega
    have hq := skipP_le (p := fun c => c != 34) hkl
    have e7 : s.drop (skipP (fun c => c != 34) s (k + 1)) = v.dropWhile (fun c => c != 34) := by rw [skipP_drop, e6]
    have e8 : seg s (k + 1) (skipP (fun c => c != 34) s (k + 1)) = v.takeWhile (fun c => c != 34) := by
      rw [seg_drop, e6]
      have : skipP (fun c => c != 34) s (k + 1) - (k + 1) = (v.takeWhile (fun c => c != 34)).length := by
        unfold skipP; rw [e6]; omega
      rw [this]
      conv => lhs; rw [← List.takeWhile_append_dropWhile (p := fun c : UInt8 => c != 34) (l := v)]
      rw [List.take_append_of_le_length (by simp)]
      simp [List.take_of_length_le]
    obtain ⟨q, hqq⟩ : ∃ q, q = skipP (fun c => c != 34) s (k + 1) := ⟨_, rfl⟩
    rw [← hqq] at e7 e8 hq ⊢
    have c4 : s.length ≤ q ↔ v.dropWhile (fun c => c != 34) = [] := by rw [← e7]; exact List.drop_eq_nil_iff.symm
    have e9 : s.drop (q + 1) = (v.dropWhile (fun c => c != 34)).drop 1 := by rw [← e7, List.drop_drop]
    unfold refV
    rw [e9, e8]
    by_cases hg : ((v.dropWhile (fun c => c != 34)).drop 1).all isBl = false ∨ v.dropWhile (fun c => c != 34) = []
    · rw [if_pos hg, if_pos (by rw [c4]; exact hg)]
    · rw [if_neg hg, if_neg (by rw [c4]; exact hg)]

theorem split_right (v : Str) : ∃ z b, v = z ++ b ∧ b.all isBl = true ∧ (v.reverse.dropWhile isBl).reverse = z ∧ ∀ c, z.getLast? = some c → isBl c = false := by
  refine ⟨(v.reverse.dropWhile isBl).reverse, (v.reverse.takeWhile isBl).reverse, ?_, ?_, rfl, ?_⟩
  · rw [← List.reverse_append, List.takeWhile_append_dropWhile, List.reverse_reverse]
  · rw [List.all_reverse, List.all_takeWhile]
  · intro c hc
    rw [List.getLast?_reverse] at hc
    have := List.head?_dropWhile_not isBl v.reverse
    rw [hc] at this
    simpa using this
theorem tw_split (y x : Str) (h : 34 ∉ y) : (y ++ 34 :: x).takeWhile (fun c => c != 34) = y ∧ (y ++ 34 :: x).dropWhile (fun c => c != 34) = 34 :: x := by
  induction y with
  | nil => exact ⟨rfl, rfl⟩
  | cons c y ih =>
    have hc : c ≠ 34 := fun e => h (by rw [e]; simp)
    have := ih (fun e => h (List.mem_cons_of_mem _ e))
    have hp : (c != 34) = true := by simpa using hc
    constructor
    · show List.takeWhile _ (c :: (y ++ 34 :: x)) = _
      rw [List.takeWhile_cons, if_pos hp, this.1]
    · show List.dropWhile _ (c :: (y ++ 34 :: x)) = _
      rw [List.dropWhile_cons, if_pos hp, this.2]
theorem first34 {v : Str} (h : 34 ∈ v) : ∃ y x, v = y ++ 34 :: x ∧ 34 ∉ y := by
  induction v with
  | nil => cases h
  | cons c v ih =>
    by_cases hc : c = 34
    · exact ⟨[], v, by rw [hc]; rfl, by simp⟩
    · obtain ⟨y, x, e, hn⟩ := ih (by rcases List.mem_cons.1 h with h | h; exact absurd h.symm hc; exact h)
      exact ⟨c :: y, x, by rw [e]; rfl, by simp; exact ⟨fun e => hc e.symm, hn⟩⟩
theorem dw_none {v : Str} (h : 34 ∉ v) : v.dropWhile (fun c => c != 34) = [] := by
  induction v with
  | nil => rfl
  | cons c v ih =>
    have hc : (c != 34) = true := by
      have : c ≠ 34 := fun e => h (by rw [e]; simp)
      simpa using this
    rw [List.dropWhile_cons, if_pos hc]
    exact ih (fun e => h (List.mem_cons_of_mem _ e))
theorem dw_all {b : Str} (h : b.all isBl = true) : b.dropWhile isBl = [] := by
  induction b with
  | nil => rfl
  | cons c v ih =>
    rw [List.all_cons, Bool.and_eq_true] at h
    rw [List.dropWhile_cons, if_pos h.1]; exact ih h.2
theorem dw_app {a b : Str} (h : a.all isBl = true) : (a ++ b).dropWhile isBl = b.dropWhile isBl := by
  induction a with
  | nil => rfl
  | cons c v ih =>
    rw [List.all_cons, Bool.and_eq_true] at h
    show List.dropWhile isBl (c :: (v ++ b)) = _
    rw [List.dropWhile_cons, if_pos h.1]; exact ih h.2
theorem all_mem {b : Str} (h : b.all isBl = true) : 34 ∉ b := by
  intro hm
  have := List.all_eq_true.1 h 34 hm
  revert this; decide
theorem refV_one {v : Str} (h : 34 ∉ v) : refV v = (1, []) := by
  unfold refV
  rw [if_pos (.inr (dw_none h))]
theorem refV_eq (y x : Str) (h : 34 ∉ y) : refV (y ++ 34 :: x) = if x.all isBl = true then (2, y) else (1, []) := by
  unfold refV
  rw [(tw_split y x h).1, (tw_split y x h).2]
  cases hx : x.all isBl with
  | true => rw [if_neg (by simp [hx]), if_pos rfl]
  | false => rw [if_pos (.inl (by simpa using hx)), if_neg (by decide)]
theorem getLast_app {z : Str} {c : UInt8} (h : z.getLast? = some c) : ∃ y, z = y ++ [c] := by
  have hz : z ≠ [] := by intro e; rw [e] at h; cases h
  refine ⟨z.dropLast, ?_⟩
  have h2 := List.dropLast_concat_getLast hz
  rw [List.getLast?_eq_some_getLast hz] at h
  injection h with h
  rw [← h, h2]
/-- what the program says of what stands behind the first sign of quotation (z: trimmed at the right) -/
theorem refV_prog (v z b : Str) (hv : v = z ++ b) (hb : b.all isBl = true) (hz : ∀ c, z.getLast? = some c → isBl c = false) :
    refV v = if (34 :: z).length < 2 ∨ (34 :: z).getLast? ≠ some 34 then (1, []) else if (z.dropLast).contains 34 = true then (1, []) else (2, z.dropLast) := by
  cases hl : z.getLast? with
  | none =>
    have hz0 : z = [] := List.getLast?_eq_none_iff.1 hl
    subst hz0
    rw [if_pos (.inl (by decide)), hv, List.nil_append, refV_one (all_mem hb)]
  | some c =>
    obtain ⟨y, rfl⟩ := getLast_app hl
    have hlast : (34 :: (y ++ [c])).getLast? = some c := by rw [show 34 :: (y ++ [c]) = (34 :: y) ++ [c] from rfl, List.getLast?_append]; rfl
    rw [hlast]
    have hcb := hz c hl
    by_cases hc : c = 34
    · subst hc
      rw [if_neg (by simp), List.dropLast_concat, hv, List.append_assoc]
      by_cases hy : 34 ∈ y
      · obtain ⟨p, q, e, hn⟩ := first34 hy
        rw [if_pos (by rw [List.contains_iff_mem]; exact hy), e, List.append_assoc]
        show refV (p ++ 34 :: (q ++ ([34] ++ b))) = _
        rw [refV_eq p _ hn, if_neg]
        intro h
        have := List.all_eq_true.1 h 34 (by simp)
        revert this; decide
      · show refV (y ++ 34 :: b) = _
        rw [refV_eq y b hy, if_pos hb, if_neg (by rw [List.contains_iff_mem]; exact hy)]
    · rw [if_pos (.inr (by simpa using hc))]
      by_cases hy : 34 ∈ v
      · obtain ⟨p, q, e, hn⟩ := first34 hy
        rw [e, refV_eq p q hn, if_neg]
        intro h
        -- c stands behind that sign
        have hcq : c ∈ q := by
          have e2 : y ++ [c] ++ b = p ++ 34 :: q := by rw [← hv, e]
          rcases Nat.lt_or_ge p.length (y.length + 1) with hpl | hpl
          · have hpy : p.length < y.length + 1 := hpl
            have hg : (y ++ [c] ++ b)[y.length]? = some c := by simp
            rw [e2, List.getElem?_append_right (by omega)] at hg
            cases hd : y.length - p.length with
            | zero => rw [hd] at hg; simp at hg; exact absurd hg.symm hc
            | succ n => rw [hd] at hg; exact List.mem_of_getElem? (by simpa using hg)
          · exfalso
            have hg : (p ++ 34 :: q)[p.length]? = some 34 := by simp
            rw [← e2, List.getElem?_append_right (by simp; omega)] at hg
            exact all_mem hb (List.mem_of_getElem? hg)
        have := List.all_eq_true.1 h c hcq
        rw [hcb] at this; cases this
      · rw [refV_one hy]

theorem headWord_letter (c : UInt8) (t : Str) : headWord (c :: t) = letterB c.toNat := by
  have key : ∀ c : UInt8, headWord [c] = letterB c.toNat := by
    intro c
    have h : ∀ n : Fin 256, headWord [UInt8.ofNat n.val] = letterB (UInt8.ofNat n.val).toNat := by decide +kernel
    have := h ⟨c.toNat, c.toNat_lt⟩
    rwa [show UInt8.ofNat c.toNat = c from UInt8.ofNat_toNat] at this
  exact key c
/-- what trimming at both ends leaves -/
theorem trimS_two (r : Str) : Lib.trimS r blank = ((r.dropWhile isBl).reverse.dropWhile isBl).reverse := by
  unfold Lib.trimS
  rw [trimR_eq]
  have := trimBl_eq ((r.reverse.dropWhile isBl).reverse)
  unfold trimBl at this
  rw [this]
  obtain ⟨u, hu⟩ : ∃ u, u = r.dropWhile isBl := ⟨_, rfl⟩
  rw [← hu]
  have hsp : r = r.takeWhile isBl ++ u := by rw [hu, List.takeWhile_append_dropWhile]
  obtain ⟨z, b, e1, e2, e3, e4⟩ := split_right u
  rw [e3]
  have hall : (r.takeWhile isBl).all isBl = true := List.all_takeWhile
  have hhead : ∀ c, u.head? = some c → isBl c = false := by
    intro c hc
    have := List.head?_dropWhile_not isBl r
    rw [← hu, hc] at this
    simpa using this
  have hb : b.reverse.all isBl = true := by rw [List.all_reverse]; exact e2
  have hr2 : r.reverse = b.reverse ++ (z.reverse ++ (r.takeWhile isBl).reverse) := by
    conv => lhs; rw [hsp, e1]
    simp
  rw [hr2, dw_app hb]
  cases hz : z with
  | nil =>
    have : (([] : Str).reverse ++ (r.takeWhile isBl).reverse).dropWhile isBl = [] := by
      show ((r.takeWhile isBl).reverse).dropWhile isBl = []
      exact dw_all (by rw [List.all_reverse]; exact hall)
    rw [this]; rfl
  | cons c z' =>
    have hne : z ≠ [] := by rw [hz]; simp
    have hlast : isBl (z.getLast hne) = false := e4 _ (List.getLast?_eq_some_getLast hne)
    have hzr : z.reverse = z.getLast hne :: z.dropLast.reverse := by
      conv => lhs; rw [← List.dropLast_concat_getLast hne]
      simp
    rw [← hz, hzr, List.cons_append, List.dropWhile_cons, if_neg (by rw [hlast]; decide), ← List.cons_append, ← hzr, List.reverse_append, List.reverse_reverse, List.reverse_reverse, dw_app hall, hz, List.dropWhile_cons, if_neg (by rw [hhead c (by rw [e1, hz]; rfl)]; decide)]
def dirU (r u word : Str) : Str × Bool × Bool :=
  if u = r ∨ word.length < 2 ∨ word.head? ≠ some 34 ∨ word.getLast? ≠ some 34 then ([], true, false) else ((word.drop 1).dropLast, true, !((word.drop 1).dropLast).contains 34)
def toRef (x : Str × Bool × Bool) : Nat × Str := if x.2.1 = true then if x.2.2 = true then (2, x.1) else (1, []) else (0, [])
theorem dirU_bad {r u word : Str} (h : u = r ∨ word.length < 2 ∨ word.head? ≠ some 34 ∨ word.getLast? ≠ some 34) : toRef (dirU r u word) = (1, []) := by
  unfold dirU; rw [if_pos h]; rfl
theorem dirU_ok {r u word : Str} (h : ¬ (u = r ∨ word.length < 2 ∨ word.head? ≠ some 34 ∨ word.getLast? ≠ some 34)) : toRef (dirU r u word) = if ((word.drop 1).dropLast).contains 34 = true then (1, []) else (2, (word.drop 1).dropLast) := by
  unfold dirU; rw [if_neg h]
  unfold toRef
  cases hc : ((word.drop 1).dropLast).contains 34 with
  | true => rfl
  | false => rfl
theorem refU_dirU (r u : Str) : refU r u = toRef (dirU r u (u.reverse.dropWhile isBl).reverse) := by
  unfold refU
  by_cases hur : u = r
  · rw [if_pos (.inl hur), dirU_bad (.inl hur)]
  obtain ⟨z, b, e1, e2, e3, e4⟩ := split_right u
  rw [e3]
  cases hz : z with
  | nil =>
    have h34 : u = [] ∨ u.head? ≠ some 34 := by
      rw [hz] at e1
      cases hu2 : u with
      | nil => exact .inl rfl
      | cons c u' =>
        right
        intro hc
        simp at hc
        rw [hu2, hc] at e1
        have : (34 : UInt8) ∈ b := by rw [List.nil_append] at e1; rw [← e1]; simp
        exact all_mem e2 this
    rw [if_pos (.inr h34), dirU_bad (.inr (.inl (by decide)))]
  | cons c z' =>
    have hu1 : u = c :: (z' ++ b) := by rw [e1, hz]; rfl
    by_cases hc : c = 34
    · subst hc
      rw [if_neg (by
        intro h
        rcases h with h | h | h
        · exact hur h
        · rw [hu1] at h; cases h
        · rw [hu1] at h; exact h rfl)]
      have hd : u.drop 1 = z' ++ b := by rw [hu1]; rfl
      rw [hd, refV_prog (z' ++ b) z' b rfl e2 (fun d hd => e4 d (by
        rw [hz]
        cases z' with
        | nil => cases hd
        | cons x z2 => simpa using hd))]
      by_cases h1 : (34 :: z').length < 2 ∨ (34 :: z').getLast? ≠ some 34
      · rw [if_pos h1, dirU_bad (.inr (h1.imp id fun h => .inr h))]
      · rw [if_neg h1, dirU_ok (by
          rw [not_or] at h1
          intro h
          rcases h with h | h | h | h
          · exact hur h
          · exact h1.1 h
          · exact h rfl
          · exact h1.2 h)]
        rfl
    · rw [if_pos (.inr (.inr (by rw [hu1]; simpa using hc))), dirU_bad (.inr (.inr (.inl (by simpa using hc))))]
theorem refD_dirL (l : Str) : refD l = (if (dirL l).2.1 = true then if (dirL l).2.2 = true then (2, (dirL l).1) else (1, []) else (0, [])) := by
  show _ = toRef (dirL l)
  rw [refD_T]
  unfold dirL
  rw [trimBl_eq]
  obtain ⟨t, ht⟩ : ∃ t, t = l.dropWhile isBl := ⟨_, rfl⟩
  rw [← ht]
  clear ht
  unfold refT
  by_cases hp : incW.isPrefixOf t = true
  · rw [if_pos hp]
    obtain ⟨r, hr⟩ : ∃ r, t = incW ++ r := by
      obtain ⟨r, e⟩ := List.isPrefixOf_iff_prefix.1 hp
      exact ⟨r, e.symm⟩
    have hd : t.drop 8 = r := by rw [hr]; rfl
    rw [hd]
    have ht8 : t.take 8 = incW := by rw [hr]; rfl
    have hlen : t.length = 8 + r.length := by rw [hr]; simp [incW]; omega
    have hc : (t.length < 8 ∨ t.take 8 ≠ incW ∨ (8 < t.length ∧ letterB ((t[8]?.getD 0).toNat) = true)) ↔ headWord r = true := by
      cases r with
      | nil =>
        constructor
        · intro h
          rcases h with h | h | h
          · omega
          · exact absurd ht8 h
          · simp at hlen; omega
        · intro h; cases h
      | cons c r =>
        have hg : t[8]? = some c := by rw [hr]; rfl
        rw [headWord_letter, hg]
        constructor
        · intro h
          rcases h with h | h | h
          · omega
          · exact absurd ht8 h
          · exact h.2
        · intro h; exact .inr (.inr ⟨by simp at hlen; omega, h⟩)
    by_cases hw : headWord r = true
    · rw [if_pos (hc.2 hw), if_pos hw]; rfl
    · rw [if_neg (mt hc.1 hw), if_neg hw, trimBl_eq]
      rw [refU_dirU, trimS_two]; rfl
  · rw [if_neg hp, if_pos]
    · rfl
    · by_cases h8 : t.length < 8
      · exact .inl h8
      · right; left
        intro h
        apply hp
        rw [List.isPrefixOf_iff_prefix, ← h]
        exact List.take_prefix _ _
end Go.Proofs.YtmhjfdnpmfhmjaaDoor
