/- Package source, plain: each line of what is put together is a line of the text or of a file (SourceLines). -/
import Derived.Test.YtmhjfdnpmfhmjaaDoorS22
import Derived.Test.YtmhjfdnpmfhmjaaDoorS16
namespace Go.Proofs.YtmhjfdnpmfhmjaaDoor
set_option linter.unusedVariables false

def srcF (F : Str → Option Str) (text : Str) (file : Str) : Str := if file = [] then text else (F file).getD []
def Good (F : Str → Option Str) (text : Str) (p : Str × Nat) (l : Str) : Prop := 10 ∉ l ∧ 1 ≤ p.2 ∧ (linesL (srcF F text p.1))[p.2 - 1]? = some l
def GoodS (F : Str → Option Str) (text : Str) (s : LS) : Prop := ∃ pl : List ((Str × Nat) × Str), s.lines = pl.map (·.1) ∧ s.out = joinNl (pl.map (·.2)) ∧ ∀ x ∈ pl, Good F text x.1 x.2

theorem joinNl_snoc (L : List Str) (l : Str) : joinNl (L ++ [l]) = joinNl L ++ (l ++ [10]) := by simp [joinNl]
theorem textF_good {F : Str → Option Str} {text : Str} {inc : LS → Str → Str → Nat → R} {file : Str}
    (hi : ∀ s name file n s', GoodS F text s → inc s name file n = .ok s' → GoodS F text s') :
    ∀ (ls : List Str) (s : LS) (n : Nat) (s' : LS), 1 ≤ n → (linesL (srcF F text file)).drop (n - 1) = ls → GoodS F text s → textF inc file s n ls = .ok s' → GoodS F text s' := by
  intro ls
  induction ls with
  | nil => intro s n s' hn hl h e; cases e; exact h
  | cons l ls ih =>
    intro s n s' hn hl h e
    have hat : (linesL (srcF F text file))[n - 1]? = some l := by
      have := congrArg (·[0]?) hl
      simpa [List.getElem?_drop] using this
    have hl2 : (linesL (srcF F text file)).drop (n + 1 - 1) = ls := by
      rw [show n + 1 - 1 = (n - 1) + 1 by omega, ← List.drop_drop, hl]; rfl
    unfold textF at e
    split at e
    · split at e
      · cases he : inc s (dirL l).1 file n with
        | bad a b c => rw [he] at e; cases e
        | ok s1 =>
          rw [he] at e
          exact ih _ _ _ (by omega) hl2 (hi _ _ _ _ _ h he) e
      · cases e
    · split at e
      · cases e
      · refine ih { s with out := s.out ++ (l ++ [10]), lines := s.lines ++ [(file, n)] } (n + 1) s' (by omega) hl2 ?_ e
        obtain ⟨pl, h1, h2, h3⟩ := h
        refine ⟨pl ++ [((file, n), l)], ?_, ?_, ?_⟩
        · show s.lines ++ [(file, n)] = _
          rw [h1]; simp
        · show s.out ++ (l ++ [10]) = _
          rw [h2, List.map_append]; exact (joinNl_snoc _ _).symm
        · intro x hx
          rcases List.mem_append.1 hx with hx | hx
          · exact h3 x hx
          · simp at hx; subst hx
            exact ⟨no_nl (mem_lines (List.mem_of_getElem? hat)), hn, hat⟩
theorem incF_good {F : Str → Option Str} {text : Str} (hE : F [] = none) : ∀ k s name file n s', GoodS F text s → incF F k s name file n = .ok s' → GoodS F text s' := by
  intro k
  induction k with
  | zero => intro s name file n s' h e; cases e
  | succ k ih =>
    intro s name file n s' h e
    unfold incF at e
    split at e
    · cases e
    · split at e
      · cases e; exact h
      · split at e
        · cases e
        · rename_i t ht
          have hne : name ≠ [] := by rintro rfl; rw [hE] at ht; cases ht
          have hsrc : srcF F text name = t := by unfold srcF; rw [if_neg hne, ht]; rfl
          cases he : textF (incF F k) name { s with opn := s.opn ++ [name] } 1 (linesL t) with
          | bad a b c => rw [he] at e; cases e
          | ok s1 =>
            rw [he] at e
            cases e
            have hr : GoodS F text s1 := textF_good ih (linesL t) { s with opn := s.opn ++ [name] } 1 s1 (Nat.le_refl 1) (by rw [hsrc]; rfl) h he
            exact hr
theorem loadF_good {F : Str → Option Str} {n : Nat} {text : Str} {s : LS} (hE : F [] = none) (h : loadF F n text = .ok s) : GoodS F text s :=
  textF_good (incF_good hE n) _ _ _ _ (Nat.le_refl 1) (by unfold srcF; rw [if_pos rfl]; rfl) ⟨[], rfl, rfl, fun x hx => by cases hx⟩ h

/-- what a refusal tells -/
def BadOk : R → Prop
  | .ok _ => True
  | .bad _ m c => 1 ≤ m ∧ c ≠ 0 ∧ c ≤ 192
theorem textF_bad {N : List Str} {inc : LS → Str → Str → Nat → R} (hk : Keeps N inc) {file : Str} (P : List Str → Prop)
    (hi : ∀ s name n, Inv N s → P s.opn → 1 ≤ n → BadOk (inc s name file n)) :
    ∀ (ls : List Str) (s : LS) (n : Nat), Inv N s → P s.opn → 1 ≤ n → BadOk (textF inc file s n ls) := by
  intro ls
  induction ls with
  | nil => intro s n h hp hn; trivial
  | cons l ls ih =>
    intro s n h hp hn
    unfold textF
    split
    · split
      · cases he : inc s (dirL l).1 file n with
        | bad a b c => have := hi s (dirL l).1 n h hp hn; rw [he] at this; exact this
        | ok s1 =>
          obtain ⟨h1, h2⟩ := hk _ _ _ _ _ h he
          exact ih _ _ h1 (h2 ▸ hp) (by omega)
      · exact ⟨hn, by decide, by decide⟩
    · split
      · exact ⟨hn, by decide, by decide⟩
      · rename_i hle
        exact ih { s with out := s.out ++ (l ++ [10]), lines := s.lines ++ [(file, n)] } (n + 1) ⟨h.nodup, h.sub, by have := h.lines; simp; omega, by simp; omega⟩ hp (by omega)
theorem incF_bad {N : List Str} {F : Str → Option Str} (hF : ∀ x t, F x = some t → x ∈ N) : ∀ k s name file n, Inv N s → N.length + 1 ≤ s.opn.length + k → 1 ≤ n → BadOk (incF F k s name file n) := by
  intro k
  induction k with
  | zero => intro s name file n h hk hn; have := h.le; omega
  | succ k ih =>
    intro s name file n h hk hn
    unfold incF
    split
    · exact ⟨hn, by decide, by decide⟩
    · split
      · trivial
      · rename_i h1 h2
        split
        · exact ⟨hn, by decide, by decide⟩
        · rename_i t ht
          have hI : Inv N { s with opn := s.opn ++ [name] } := by
            refine ⟨?_, ?_, h.lines, h.out⟩
            · have hn := h.nodup
              rw [List.nodup_append] at hn ⊢
              refine ⟨?_, hn.2.1, ?_⟩
              · rw [List.nodup_append]
                exact ⟨hn.1, by simp, fun a ha b hb => by simp at hb; subst hb; exact fun e => h1 (e ▸ ha)⟩
              · intro a ha b hb
                rcases List.mem_append.1 ha with ha | ha
                · exact hn.2.2 a ha b hb
                · simp at ha; subst ha; exact fun e => h2 (e ▸ hb)
            · intro x hx
              rcases List.mem_append.1 hx with hx | hx
              · rcases List.mem_append.1 hx with hx | hx
                · exact h.sub x (List.mem_append_left _ hx)
                · simp at hx; subst hx; exact hF _ _ ht
              · exact h.sub x (List.mem_append_right _ hx)
          have hT := textF_bad (incF_keeps hF k) (file := name) (fun o => N.length + 1 ≤ o.length + k) (fun s nm m hs hp hm => ih s nm name m hs hp hm) (linesL t) { s with opn := s.opn ++ [name] } 1 hI (by simp; omega) (Nat.le_refl 1)
          cases he : textF (incF F k) name { s with opn := s.opn ++ [name] } 1 (linesL t) with
          | bad a b c => rw [he] at hT; exact hT
          | ok s1 => trivial
theorem loadF_bad {N : List Str} {F : Str → Option Str} (hF : ∀ x t, F x = some t → x ∈ N) (text : Str) : BadOk (loadF F (N.length + 1) text) :=
  textF_bad (incF_keeps hF _) (fun o => N.length + 1 ≤ o.length + (N.length + 1)) (fun s nm m hs hp hm => incF_bad hF _ s nm _ m hs hp hm) _ _ _
    ⟨by simp, fun x hx => (by cases hx), Nat.le_refl _, Nat.zero_le _⟩ (by simp) (Nat.le_refl 1)

theorem cut_joinNl : ∀ (L : List Str), (∀ l ∈ L, 10 ∉ l) → cutNl (joinNl L) = L ++ [[]]
  | [], _ => rfl
  | l :: L, h => by
    have e : joinNl (l :: L) = l ++ 10 :: joinNl L := by simp [joinNl]
    rw [e, cut_line (h l (by simp)), cut_joinNl L (fun x hx => h x (List.mem_cons_of_mem _ hx))]; rfl
theorem lines_joinNl {L : List Str} (h : ∀ l ∈ L, 10 ∉ l) : linesL (joinNl L) = L := by
  unfold linesL
  rw [cut_joinNl L h, if_pos (by simp)]; simp

theorem look_mem {L : List (Str × Str)} {x t : Str} (h : look L x = some t) : x ∈ L.map (·.1) := by
  obtain ⟨k, p, h1, h2, _, _⟩ := look_some h
  exact List.mem_map.2 ⟨p, List.mem_of_getElem? h1, h2⟩
/-- the files as pairs of texts -/
def pairsF (L : List (ByteArray × List ByteArray)) : List (Str × Str) := L.map fun p => (p.1.data.toList, joinB p.2)
theorem look_nil {L : List (ByteArray × List ByteArray)} (h : ∀ p ∈ L, p.1.data.toList ≠ []) : look (pairsF L) [] = none := by
  cases hl : look (pairsF L) [] with
  | none => rfl
  | some t =>
    obtain ⟨k, p, h1, h2, _, _⟩ := look_some hl
    obtain ⟨q, hq, rfl⟩ := List.mem_map.1 (List.mem_of_getElem? h1)
    exact absurd h2 (h q hq)
theorem look_drop {L : List (ByteArray × List ByteArray)} {j : Nat} {p : ByteArray × List ByteArray} {name : Str} (h : L[j]? = some p) :
    look (pairsF (L.drop j)) name = if p.1.data.toList == name then some (joinB p.2) else look (pairsF (L.drop (j + 1))) name := by
  obtain ⟨h1, h2⟩ := List.getElem?_eq_some_iff.1 h
  rw [List.drop_eq_getElem_cons h1, h2]
  unfold look pairsF
  rw [List.map_cons, List.find?_cons]
  by_cases hq : (p.1.data.toList == name) = true
  · rw [if_pos hq]; simp only [hq]; rfl
  · rw [if_neg hq]; simp only [Bool.not_eq_true] at hq; simp only [hq]
theorem FilesR.toV {w : World} {fv : Value} {L : List (ByteArray × List ByteArray)} (h : FilesR w fv L) (hs : sizeL L ≤ 1000000) (hf : sizeF L ≤ 1100000) (hl : L.length ≤ 1000000) : FilesV w fv (pairsF L) := by
  rcases h with ⟨a, c, rfl, rfl⟩ | ⟨bk, o, c, rfl, hlc, hlt, hc⟩
  · exact .inl ⟨a, c, rfl, rfl⟩
  · have hlen : (pairsF L).length = L.length := by simp [pairsF]
    refine .inr ⟨bk, o, c, by rw [hlen], by rw [hlen]; exact hlc, hlt, by rw [hlen]; exact hl, fun j p hj => ?_⟩
    unfold pairsF at hj
    rw [List.getElem?_map] at hj
    obtain ⟨q, hq, rfl⟩ := Option.map_eq_some_iff.1 hj
    obtain ⟨v, h1, h2, h3⟩ := hc j q hq
    refine ⟨v, by rw [h1, B_self], h2, ?_⟩
    rcases h3 with ⟨a, c, rfl, h0⟩ | ⟨bk', o', c', rfl, h4, h5, h6⟩
    · exact .inl ⟨a, c, rfl, by show joinB q.2 = _; rw [h0]; rfl⟩
    · have hz := sizeC_le hq
      refine .inr ⟨bk', o', c', q.2, rfl, h4, h5, by unfold sizeC at hz; omega, h6, rfl, ?_⟩
      have h7 := sizeL_mono L (j + 1)
      rw [sizeL_take hq] at h7
      show (joinB q.2).length ≤ _
      omega
theorem look_size {L : List (ByteArray × List ByteArray)} {x t : Str} (h : look (pairsF L) x = some t) : t.length ≤ sizeL L := by
  obtain ⟨k, p, h1, h2, h3, _⟩ := look_some h
  unfold pairsF at h1
  rw [List.getElem?_map] at h1
  obtain ⟨q, hq, rfl⟩ := Option.map_eq_some_iff.1 h1
  have h7 := sizeL_mono L (k + 1)
  rw [sizeL_take hq] at h7
  rw [← h3]
  show (joinB q.2).length ≤ _
  omega
end Go.Proofs.YtmhjfdnpmfhmjaaDoor
