/- Package source, plain: a text without directives (SourcePlain). -/
import Derived.Test.YtmhjfdnpmfhmjaaDoorS12
namespace Go.Proofs.YtmhjfdnpmfhmjaaDoor
set_option linter.unusedVariables false

def joinNl (ls : List Str) : Str := (ls.map (· ++ [10])).flatten
def places (file : Str) : Nat → Nat → List (Str × Nat)
  | _, 0 => []
  | n, k + 1 => (file, n) :: places file (n + 1) k
theorem places_len (file : Str) : ∀ n k, (places file n k).length = k
  | _, 0 => rfl
  | n, k + 1 => by simp [places, places_len file (n + 1) k]
theorem places_at (file : Str) : ∀ (k n i : Nat) p, (places file n k)[i]? = some p → p = (file, n + i)
  | 0, n, i, p, h => by cases h
  | k + 1, n, 0, p, h => by simp [places] at h; simp [h]
  | k + 1, n, i + 1, p, h => by
    have := places_at file k (n + 1) i p (by simpa [places] using h)
    rw [this]; congr 1; omega
theorem textF_plain {inc : LS → Str → Str → Nat → R} {file : Str} : ∀ (ls : List Str) (s : LS) (n : Nat), (∀ l ∈ ls, (dirL l).2.1 = false) → s.out.length + (joinNl ls).length ≤ 8192 →
    textF inc file s n ls = .ok { s with out := s.out ++ joinNl ls, lines := s.lines ++ places file n ls.length } := by
  intro ls
  induction ls with
  | nil => intro s n h hl; cases s; simp [textF, joinNl, places]
  | cons l ls ih =>
    intro s n h hl
    have e : joinNl (l :: ls) = (l ++ [10]) ++ joinNl ls := rfl
    rw [e] at hl ⊢
    simp only [List.length_append, List.length_singleton] at hl
    rw [textF_line (h l (by simp)) (by omega), ih _ _ (fun x hx => h x (List.mem_cons_of_mem _ hx)) (by simp; omega)]
    simp [places]
theorem join_cut (s : Str) : joinNl (cutNl s) = s ++ [10] := by
  induction s with
  | nil => rfl
  | cons c t ih =>
    unfold cutNl
    by_cases hc : c = 10
    · subst hc
      rw [if_pos rfl]
      show ([] ++ [10]) ++ joinNl (cutNl t) = _
      rw [ih]; rfl
    · rw [if_neg hc]
      cases h : cutNl t with
      | nil => exact absurd h (cutNl_ne t)
      | cons a r =>
        rw [h] at ih
        show ((c :: a) ++ [10]) ++ joinNl r = _
        have e : joinNl (a :: r) = (a ++ [10]) ++ joinNl r := rfl
        rw [e] at ih
        simpa using ih
theorem last_cut (s : Str) : (cutNl s).getLast? = some [] ↔ s = [] ∨ s.getLast? = some 10 := by
  induction s with
  | nil => simp [cutNl]
  | cons c t ih =>
    unfold cutNl
    cases h : cutNl t with
    | nil => exact absurd h (cutNl_ne t)
    | cons a r =>
      rw [h] at ih
      by_cases hc : c = 10
      · subst hc
        rw [if_pos rfl, List.getLast?_cons_cons]
        rw [ih]
        cases t with
        | nil => simp
        | cons d u => simp [List.getLast?_cons_cons]
      · rw [if_neg hc]
        cases r with
        | nil =>
          have hn : t.count 10 = 0 := by have := cutNl_len t; rw [h] at this; simpa using this
          have hm : 10 ∉ t := fun hm => by have := List.count_pos_iff.2 hm; omega
          simp only [List.headD_cons, List.tail_cons, List.getLast?_singleton, Option.some.injEq, reduceCtorEq, false_or, false_iff]
          intro h2
          have := List.mem_of_getLast? h2
          rcases List.mem_cons.1 this with h3 | h3
          · exact hc h3.symm
          · exact hm h3
        | cons b r =>
          simp only [List.headD_cons, List.tail_cons]
          rw [List.getLast?_cons_cons]
          rw [List.getLast?_cons_cons] at ih
          rw [ih]
          cases t with
          | nil => simp [cutNl] at h
          | cons d u => simp [List.getLast?_cons_cons]
/-- the text with a line's end behind its last line -/
def wantL (s : Str) : Str := if s ≠ [] ∧ s.getLast? ≠ some 10 then s ++ [10] else s
theorem join_lines (s : Str) : joinNl (linesL s) = wantL s := by
  have h := join_cut s
  unfold linesL wantL
  by_cases hl : (cutNl s).getLast? = some []
  · rw [if_pos hl, if_neg (by intro h2; rcases (last_cut s).1 hl with h3 | h3; exact h2.1 h3; exact h2.2 h3)]
    obtain ⟨q, hq⟩ := List.getLast?_eq_some_iff.1 hl
    rw [hq] at h ⊢
    have e2 : joinNl (q ++ [[]]) = joinNl q ++ [10] := by simp [joinNl]
    rw [e2] at h
    rw [List.dropLast_concat]
    exact List.append_cancel_right h
  · rw [if_neg hl, if_pos, h]
    constructor
    · exact fun h2 => hl ((last_cut s).2 (.inl h2))
    · exact fun h2 => hl ((last_cut s).2 (.inr h2))
theorem no_nl {s l : Str} (h : l ∈ cutNl s) : 10 ∉ l := by
  induction s generalizing l with
  | nil => simp [cutNl] at h; subst h; simp
  | cons c t ih =>
    unfold cutNl at h
    by_cases hc : c = 10
    · rw [if_pos hc] at h
      rcases List.mem_cons.1 h with rfl | h
      · simp
      · exact ih h
    · rw [if_neg hc] at h
      cases h2 : cutNl t with
      | nil => exact absurd h2 (cutNl_ne t)
      | cons a r =>
        rw [h2] at h
        have hc' : ¬ (10 : UInt8) = c := fun e => hc e.symm
        rcases List.mem_cons.1 h with rfl | h
        · have := ih (by rw [h2]; simp : a ∈ cutNl t)
          simp [hc', this]
        · exact ih (by rw [h2]; exact List.mem_cons_of_mem _ h)
theorem mem_lines {s l : Str} (h : l ∈ linesL s) : l ∈ cutNl s := by
  unfold linesL at h
  split at h
  · exact List.dropLast_subset _ h
  · exact h
theorem count_join : ∀ ls : List Str, (∀ l ∈ ls, 10 ∉ l) → (joinNl ls).count 10 = ls.length
  | [], _ => rfl
  | l :: ls, h => by
    have e : joinNl (l :: ls) = (l ++ [10]) ++ joinNl ls := rfl
    rw [e, List.count_append, List.count_append, count_join ls (fun x hx => h x (List.mem_cons_of_mem _ hx)), List.count_eq_zero.2 (h l (by simp))]
    simp; omega
/-- each line stands in the text -/
theorem cut_at {s l : Str} (h : l ∈ cutNl s) : ∃ i r, i ≤ s.length ∧ s.drop i = l ++ r := by
  induction s generalizing l with
  | nil => simp [cutNl] at h; subst h; exact ⟨0, [], Nat.le_refl _, rfl⟩
  | cons c t ih =>
    unfold cutNl at h
    by_cases hc : c = 10
    · rw [if_pos hc] at h
      rcases List.mem_cons.1 h with rfl | h
      · exact ⟨0, c :: t, Nat.zero_le _, rfl⟩
      · obtain ⟨i, r, h1, h2⟩ := ih h
        exact ⟨i + 1, r, by simpa using h1, by simpa using h2⟩
    · rw [if_neg hc] at h
      cases h2 : cutNl t with
      | nil => exact absurd h2 (cutNl_ne t)
      | cons a r =>
        rw [h2] at h
        rcases List.mem_cons.1 h with rfl | h
        · have hj := join_cut t
          rw [h2] at hj
          have e : joinNl (a :: r) = (a ++ [10]) ++ joinNl r := rfl
          rw [e] at hj
          have hp : a <+: t := by
            have h5 : a <+: t ++ [10] := ⟨[10] ++ joinNl r, by simpa using hj⟩
            have hlen := mem_cutNl_len (s := t) (l := a) (by rw [h2]; simp)
            exact List.prefix_of_prefix_length_le h5 (List.prefix_append t [10]) hlen
          obtain ⟨q, hq⟩ := hp
          exact ⟨0, q, Nat.zero_le _, by simp [← hq]⟩
        · obtain ⟨i, q, h3, h4⟩ := ih (by rw [h2]; exact List.mem_cons_of_mem _ h : l ∈ cutNl t)
          exact ⟨i + 1, q, by simpa using h3, by simpa using h4⟩
theorem dir_none {s l : Str} (hs : Lib.contains s incW = false) (h : l ∈ cutNl s) : (dirL l).2.1 = false := by
  unfold dirL
  split
  · rename_i hp
    exfalso
    obtain ⟨i, r, h1, h2⟩ := cut_at h
    have ht : trimBl l = l.drop (l.takeWhile (blank.contains ·)).length := by
      have e := List.takeWhile_append_dropWhile (p := (blank.contains ·)) (l := l)
      have h2 : l.drop (l.takeWhile (blank.contains ·)).length = (l.takeWhile (blank.contains ·) ++ l.dropWhile (blank.contains ·)).drop (l.takeWhile (blank.contains ·)).length := by rw [e]
      rw [h2, List.drop_left]
      rfl
    have hle : (l.takeWhile (blank.contains ·)).length ≤ l.length := (List.takeWhile_sublist _).length_le
    generalize (l.takeWhile (blank.contains ·)).length = k at *
    rw [ht] at hp
    have hlen : l.length ≤ (s.drop i).length := by rw [h2]; simp
    have hd : s.drop (i + k) = l.drop k ++ r := by
      rw [← List.drop_drop, h2, List.drop_append_of_le_length hle]
    have ho : Lib.occAt s incW (i + k) = true := by
      unfold Lib.occAt
      rw [hd]
      have h9 := List.isPrefixOf_iff_prefix.1 hp
      exact List.isPrefixOf_iff_prefix.2 (h9.trans (List.prefix_append _ _))
    rw [List.length_drop] at hlen
    unfold Lib.contains at hs
    rcases Lib.index_spec s incW with ⟨h5, h6⟩ | ⟨j, h5, _⟩
    · rw [h6 (i + k) (by omega)] at ho
      cases ho
    · rw [h5] at hs
      simp at hs
  · rfl
theorem plain_load {s : Str} (F : Str → Option Str) (n : Nat) (hs : Lib.contains s incW = false) (hl : s.length ≤ 8191) :
    loadF F n s = .ok ⟨wantL s, places [] 1 (linesL s).length, [], []⟩ := by
  unfold loadF
  have hw : (wantL s).length ≤ 8192 := by
    unfold wantL
    split
    · rw [List.length_append]; show _ + 1 ≤ _; omega
    · omega
  rw [textF_plain _ _ _ (fun l hl => dir_none hs (mem_lines hl)) (by rw [join_lines]; show 0 + _ ≤ _; omega), join_lines]
  simp
theorem want_count (s : Str) : (wantL s).count 10 = (linesL s).length := by
  rw [← join_lines, count_join _ (fun l hl => no_nl (mem_lines hl))]
end Go.Proofs.YtmhjfdnpmfhmjaaDoor
