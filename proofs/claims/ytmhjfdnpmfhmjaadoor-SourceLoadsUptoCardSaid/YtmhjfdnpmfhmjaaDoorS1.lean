/- Package source, plain: lines of a text, directives, what Load answers. -/
import Derived.Test.YtmhjfdnpmfhmjaaDoorG1
import Derived.Lib.SplitLaws
import Derived.Lib.SlTrimSet
import Derived.Lib.Strings
namespace Go.Proofs.YtmhjfdnpmfhmjaaDoor
set_option linter.unusedVariables false

abbrev Str := List UInt8
def B (l : Str) : ByteArray := ⟨l.toArray⟩
theorem B_list (l : Str) : (B l).data.toList = l := by simp [B]
theorem B_self (s : ByteArray) : B s.data.toList = s := by cases s; simp [B]
theorem B_size (l : Str) : (B l).size = l.length := by show (l.toArray).size = _; simp
theorem B_inj {a b : Str} (h : B a = B b) : a = b := by rw [← B_list a, h, B_list]
theorem B_app (a b : Str) : B a ++ B b = B (a ++ b) := by
  have h : (B a ++ B b).data.toList = (B (a ++ b)).data.toList := by rw [ByteArray.data_append, B_list]; simp [B]
  cases hx : B a ++ B b with
  | mk d => rw [hx] at h; rw [show B (a ++ b) = ⟨(a ++ b).toArray⟩ from rfl] at h ⊢; congr 1; apply Array.ext'; exact h

theorem B_tl (l : Str) : (B l).toList = l := by rw [Lib.toList_data, B_list]
theorem B_emp (l : Str) : (B l).toList.isEmpty = l.isEmpty := by rw [B_tl]
theorem B_beq (a b : Str) : ((B a).toList == (B b).toList) = (a == b) := by rw [B_tl, B_tl]
/-- a text at its ends of lines -/
def cutNl : Str → List Str
  | [] => [[]]
  | c :: t => if c = 10 then [] :: cutNl t else (c :: (cutNl t).headD []) :: (cutNl t).tail
/-- its lines -/
def linesL (s : Str) : List Str := if (cutNl s).getLast? = some [] then (cutNl s).dropLast else cutNl s

def blank : Str := [32, 9]
def incW : Str := [64, 105, 110, 99, 108, 117, 100, 101]
def trimBl (l : Str) : Str := Lib.trimLeftS l blank
def headWord : Str → Bool
  | [] => false
  | c :: _ => c == 95 || (decide (48 ≤ c.toNat) && decide (c.toNat ≤ 57)) || (decide (97 ≤ c.toNat ||| 32) && decide (c.toNat ||| 32 ≤ 122))
/-- what directive says of a line -/
def dirL (l : Str) : Str × Bool × Bool :=
  if incW.isPrefixOf (trimBl l) then
    if headWord ((trimBl l).drop 8) then ([], false, false)
    else if trimBl ((trimBl l).drop 8) = (trimBl l).drop 8 ∨ (Lib.trimS ((trimBl l).drop 8) blank).length < 2 ∨ (Lib.trimS ((trimBl l).drop 8) blank).head? ≠ some 34 ∨ (Lib.trimS ((trimBl l).drop 8) blank).getLast? ≠ some 34 then ([], true, false)
    else (((Lib.trimS ((trimBl l).drop 8) blank).drop 1).dropLast, true, !(((Lib.trimS ((trimBl l).drop 8) blank).drop 1).dropLast).contains 34)
  else ([], false, false)

/-- what a loader has: text, places, names that are open, names that are done -/
structure LS where
  out : Str
  lines : List (Str × Nat)
  opn : List Str
  dn : List Str
inductive R
  | ok (s : LS)
  | bad (file : Str) (line e : Nat)
def bindR : R → (LS → R) → R
  | .ok s, f => f s
  | .bad a b c, _ => .bad a b c
def textF (inc : LS → Str → Str → Nat → R) (file : Str) : LS → Nat → List Str → R
  | s, _, [] => .ok s
  | s, n, l :: ls =>
    if (dirL l).2.1 = true then
      if (dirL l).2.2 = true then
        bindR (inc s (dirL l).1 file n) fun s' => textF inc file s' (n + 1) ls
      else .bad file n 192
    else if 8192 < s.out.length + l.length + 1 then .bad file n 3
    else textF inc file { s with out := s.out ++ (l ++ [10]), lines := s.lines ++ [(file, n)] } (n + 1) ls
def incF (F : Str → Option Str) : Nat → LS → Str → Str → Nat → R
  | 0, _, _, file, n => .bad file n 0
  | k + 1, s, name, file, n =>
    if name ∈ s.opn then .bad file n 191
    else if name ∈ s.dn then .ok s
    else match F name with
      | none => .bad file n 190
      | some t => bindR (textF (incF F k) name { s with opn := s.opn ++ [name] } 1 (linesL t)) fun s' => .ok { s' with opn := s'.opn.dropLast, dn := s'.dn ++ [name] }
def loadF (F : Str → Option Str) (n : Nat) (text : Str) : R := textF (incF F n) [] ⟨[], [], [], []⟩ 1 (linesL text)
/-- a list of files by names -/
def look (L : List (Str × Str)) (name : Str) : Option Str := (L.find? fun p => p.1 == name).map (·.2)

theorem cutNl_ne (s : Str) : cutNl s ≠ [] := by
  cases s with
  | nil => simp [cutNl]
  | cons c t => unfold cutNl; split <;> simp
theorem cutNl_len (s : Str) : (cutNl s).length = s.count 10 + 1 := by
  induction s with
  | nil => rfl
  | cons c t ih =>
    unfold cutNl
    split
    · rename_i h; subst h; simp [ih]
    · rename_i h
      have := cutNl_ne t
      cases hc : cutNl t with
      | nil => exact absurd hc this
      | cons a r => rw [hc] at ih; simp at ih ⊢; rw [List.count_cons_of_ne (by simpa using h)]; exact ih
theorem mem_cutNl_len {s l : Str} (h : l ∈ cutNl s) : l.length ≤ s.length := by
  induction s generalizing l with
  | nil => simp [cutNl] at h; subst h; simp
  | cons c t ih =>
    unfold cutNl at h
    split at h
    · rcases List.mem_cons.1 h with rfl | h
      · simp
      · have := ih h; simp; omega
    · cases hc : cutNl t with
      | nil => exact absurd hc (cutNl_ne t)
      | cons a r =>
        rw [hc] at h
        rcases List.mem_cons.1 h with rfl | h
        · have := ih (by rw [hc]; simp : a ∈ cutNl t); simp; omega
        · have := ih (by rw [hc]; exact List.mem_cons_of_mem _ h : l ∈ cutNl t); simp; omega
theorem mem_lines_len {s l : Str} (h : l ∈ linesL s) : l.length ≤ s.length := by
  unfold linesL at h
  split at h
  · exact mem_cutNl_len (List.dropLast_subset _ h)
  · exact mem_cutNl_len h
theorem linesL_len (s : Str) : (linesL s).length ≤ s.length + 1 := by
  have h := cutNl_len s
  have : s.count 10 ≤ s.length := List.count_le_length
  unfold linesL
  split
  · rw [List.length_dropLast]; omega
  · omega

/-- strings.Split at an end of a line -/
theorem index_nl (s : Str) : (10 ∈ s → ∃ i : Nat, Lib.index s [10] = (i : Int)) ∧ (10 ∉ s → Lib.index s [10] = -1) := by
  rw [Lib.index_one]
  induction s with
  | nil => exact ⟨fun h => (by cases h), fun _ => rfl⟩
  | cons c t ih =>
    unfold Lib.indexByte
    by_cases hc : c = 10
    · subst hc
      rw [if_pos (by rfl)]
      exact ⟨fun _ => ⟨0, rfl⟩, fun h => absurd (by simp) h⟩
    · rw [if_neg (by simpa using hc)]
      have hc' : ¬ (10 : UInt8) = c := fun e => hc e.symm
      constructor
      · intro h
        have h' : 10 ∈ t := by simpa [hc'] using h
        obtain ⟨i, hi⟩ := ih.1 h'
        refine ⟨i + 1, ?_⟩
        rw [if_neg (by rw [hi]; intro h; have := beq_iff_eq.1 h; omega), hi]
        rfl
      · intro h
        have h' : 10 ∉ t := by simpa [hc'] using h
        rw [if_pos (by rw [ih.2 h']; rfl)]
theorem splitK_nl (s : Str) : Lib.splitK [10] 0 (s.count 10) s = cutNl s := by
  induction s with
  | nil => rfl
  | cons c t ih =>
    unfold cutNl
    by_cases hc : c = 10
    · subst hc
      rw [if_pos rfl, List.count_cons_self]
      have h0 : Lib.index (10 :: t) [10] = 0 := by rw [Lib.index_one]; rfl
      unfold Lib.splitK
      rw [h0, if_neg (by decide)]
      simpa using ih
    · rw [if_neg hc, List.count_cons_of_ne (by simpa using hc), ← ih]
      rcases hk : t.count 10 with _ | k
      · rfl
      · have hm : 10 ∈ t := List.count_pos_iff.1 (by omega)
        obtain ⟨i, hi⟩ := (index_nl t).1 hm
        have hi2 : Lib.index (c :: t) [10] = ((i + 1 : Nat) : Int) := by
          rw [Lib.index_one] at hi ⊢
          unfold Lib.indexByte
          rw [if_neg (by simpa using hc), if_neg (by rw [hi]; intro h; have := beq_iff_eq.1 h; omega), hi]
          rfl
        unfold Lib.splitK
        rw [hi, hi2, if_neg (by intro h; have := beq_iff_eq.1 h; omega), if_neg (by intro h; have := beq_iff_eq.1 h; omega)]
        simp
theorem split_nl (s : ByteArray) : (Lib.splitB ⟨#[10]⟩ 0 (Lib.countB s ⟨#[10]⟩) s) = (cutNl s.data.toList).map B := by
  have h := Lib.splitB_data ⟨#[10]⟩ 0 (Lib.countB s ⟨#[10]⟩) s
  have hc : Lib.countB s ⟨#[10]⟩ = s.data.toList.count 10 := Lib.count_one 10 s.data.toList
  rw [hc] at h ⊢
  rw [show (⟨#[10]⟩ : ByteArray).data.toList = [10] from rfl, splitK_nl] at h
  rw [← h, List.map_map]
  have : (B ∘ fun x : ByteArray => x.data.toList) = id := by funext x; exact B_self x
  rw [this, List.map_id]
theorem count_nl (s : ByteArray) : Lib.countB s ⟨#[10]⟩ = s.data.toList.count 10 := Lib.count_one 10 s.data.toList

/-- what a loader always has -/
structure Inv (N : List Str) (s : LS) : Prop where
  nodup : (s.opn ++ s.dn).Nodup
  sub : ∀ x ∈ s.opn ++ s.dn, x ∈ N
  lines : s.lines.length ≤ s.out.length
  out : s.out.length ≤ 8192

theorem nodup_le {l N : List Str} (h : l.Nodup) (hs : ∀ x ∈ l, x ∈ N) : l.length ≤ N.length := by
  induction l generalizing N with
  | nil => simp
  | cons a l ih =>
    have ha : a ∈ N := hs a (by simp)
    have hn := List.nodup_cons.1 h
    have := ih (N := N.erase a) hn.2 (fun x hx => (List.mem_erase_of_ne (by intro e; subst e; exact hn.1 hx)).2 (hs x (List.mem_cons_of_mem _ hx)))
    rw [List.length_erase_of_mem ha] at this
    have hp : 0 < N.length := List.length_pos_of_mem ha
    simp; omega
theorem Inv.le {N : List Str} {s : LS} (h : Inv N s) : s.opn.length + s.dn.length ≤ N.length := by
  have := nodup_le h.nodup h.sub
  simpa using this

/-- a step of include keeps all that, and what is open -/
def Keeps (N : List Str) (inc : LS → Str → Str → Nat → R) : Prop := ∀ s name file n s', Inv N s → inc s name file n = .ok s' → Inv N s' ∧ s'.opn = s.opn
theorem textF_keeps {N : List Str} {inc : LS → Str → Str → Nat → R} (hi : Keeps N inc) {file : Str} : ∀ (ls : List Str) (s : LS) (n : Nat) (s' : LS), Inv N s → textF inc file s n ls = .ok s' → Inv N s' ∧ s'.opn = s.opn := by
  intro ls
  induction ls with
  | nil => intro s n s' h e; cases e; exact ⟨h, rfl⟩
  | cons l ls ih =>
    intro s n s' h e
    unfold textF at e
    split at e
    · split at e
      · cases he : inc s (dirL l).1 file n with
        | bad a b c => rw [he] at e; cases e
        | ok s1 =>
          rw [he] at e
          obtain ⟨h1, h2⟩ := hi _ _ _ _ _ h he
          obtain ⟨h3, h4⟩ := ih _ _ _ h1 e
          exact ⟨h3, h4.trans h2⟩
      · cases e
    · split at e
      · cases e
      · rename_i hle
        exact ih { s with out := s.out ++ (l ++ [10]), lines := s.lines ++ [(file, n)] } (n + 1) s' ⟨h.nodup, h.sub, by have := h.lines; simp; omega, by simp; omega⟩ e
theorem incF_keeps {N : List Str} {F : Str → Option Str} (hF : ∀ x t, F x = some t → x ∈ N) : ∀ k, Keeps N (incF F k) := by
  intro k
  induction k with
  | zero => intro s name file n s' h e; cases e
  | succ k ih =>
    intro s name file n s' h e
    unfold incF at e
    split at e
    · cases e
    · split at e
      · cases e; exact ⟨h, rfl⟩
      · rename_i h1 h2
        split at e
        · cases e
        · rename_i t ht
          have hI : Inv N { s with opn := s.opn ++ [name] } := by
            refine ⟨?_, ?_, h.lines, h.out⟩
            · have hn := h.nodup
              rw [List.nodup_append] at hn ⊢
              refine ⟨?_, hn.2.1, ?_⟩
              · rw [List.nodup_append]
                exact ⟨hn.1, by simp, fun a ha b hb => by simp at hb; subst hb; exact fun e => h1 (e ▸ ha)⟩
              · intro a ha b hb
                rcases List.mem_append.1 ha with ha | ha
                · exact hn.2.2 a ha b hb
                · simp at ha; subst ha; exact fun e => h2 (e ▸ hb)
            · intro x hx
              rcases List.mem_append.1 hx with hx | hx
              · rcases List.mem_append.1 hx with hx | hx
                · exact h.sub x (List.mem_append_left _ hx)
                · simp at hx; subst hx; exact hF _ _ ht
              · exact h.sub x (List.mem_append_right _ hx)
          cases he : textF (incF F k) name { s with opn := s.opn ++ [name] } 1 (linesL t) with
          | bad a b c => rw [he] at e; cases e
          | ok s1 =>
            rw [he] at e
            cases e
            obtain ⟨h3, h4⟩ := textF_keeps ih _ _ _ _ hI he
            have h5 : s1.opn.dropLast = s.opn := by rw [h4]; simp
            refine ⟨⟨?_, ?_, h3.lines, h3.out⟩, h5⟩
            · have hn := h3.nodup
              rw [h4] at hn
              show (s1.opn.dropLast ++ (s1.dn ++ [name])).Nodup
              rw [h5]
              have : ((s.opn ++ [name]) ++ s1.dn).Perm (s.opn ++ (s1.dn ++ [name])) := by
                rw [List.append_assoc]
                exact List.Perm.append_left _ List.perm_append_comm
              exact this.nodup hn
            · intro x hx
              rw [h5] at hx
              refine h3.sub x ?_
              rw [h4]
              simp at hx ⊢
              rcases hx with hx | hx | hx
              · exact .inl hx
              · exact .inr (.inr hx)
              · exact .inr (.inl hx)
end Go.Proofs.YtmhjfdnpmfhmjaaDoor
