/- thresherref19.Load, plain: a stack of open texts answers what the program's recursion answers. -/
import Derived.Test.YtmhjfdnpmfhmjaaDoorS30
namespace Go.Proofs.YtmhjfdnpmfhmjaaDoor
set_option linter.unusedVariables false

/-- an open text: its name, its lines, how many were read -/
structure Fr where
  name : Str
  all : List Str
  pos : Nat
def Fr.next (f : Fr) : Fr := ⟨f.name, f.all, f.pos + 1⟩
/-- what comes of it all, the top of the stack first -/
def resume (F : Str → Option Str) (n : Nat) : List Fr → LS → R
  | [], s => .ok s
  | f :: rest, s => bindR (textF (incF F (n - rest.length)) f.name s (f.pos + 1) (f.all.drop f.pos)) fun s' =>
      if rest.isEmpty = true then .ok s' else resume F n rest { s' with opn := s'.opn.dropLast, dn := s'.dn ++ [f.name] }
theorem resume_cons (F : Str → Option Str) (n : Nat) (f : Fr) (rest : List Fr) (s : LS) :
    resume F n (f :: rest) s = bindR (textF (incF F (n - rest.length)) f.name s (f.pos + 1) (f.all.drop f.pos)) fun s' =>
      if rest.isEmpty = true then .ok s' else resume F n rest { s' with opn := s'.opn.dropLast, dn := s'.dn ++ [f.name] } := rfl
theorem bindR_ok (s : LS) (f : LS → R) : bindR (.ok s) f = f s := rfl
theorem bindR_bad (a : Str) (b c : Nat) (f : LS → R) : bindR (.bad a b c) f = .bad a b c := rfl
theorem bindR_assoc (r : R) (f g : LS → R) : bindR (bindR r f) g = bindR r fun s => bindR (f s) g := by cases r <;> rfl
theorem resume_start (F : Str → Option Str) (n : Nat) (text : Str) : resume F n [⟨[], linesL text, 0⟩] ⟨[], [], [], []⟩ = loadF F n text := by
  rw [resume_cons]
  unfold loadF
  show bindR (textF (incF F n) [] ⟨[], [], [], []⟩ 1 (linesL text)) (fun s' => R.ok s') = _
  cases textF (incF F n) [] ⟨[], [], [], []⟩ 1 (linesL text) <;> rfl
theorem resume_end {F : Str → Option Str} {n : Nat} {f : Fr} {s : LS} (h : f.all.length ≤ f.pos) : resume F n [f] s = .ok s := by
  rw [resume_cons, List.drop_eq_nil_of_le h]; rfl
theorem resume_pop {F : Str → Option Str} {n : Nat} {f g : Fr} {rest : List Fr} {s : LS} (h : f.all.length ≤ f.pos) :
    resume F n (f :: g :: rest) s = resume F n (g :: rest) { s with opn := s.opn.dropLast, dn := s.dn ++ [f.name] } := by
  rw [resume_cons, List.drop_eq_nil_of_le h]; rfl
section
variable {F : Str → Option Str} {n : Nat} {f : Fr} {rest : List Fr} {s : LS} {l : Str}
theorem drop_pos (h : f.all[f.pos]? = some l) : f.all.drop f.pos = l :: f.all.drop (f.pos + 1) := by
  obtain ⟨h1, h2⟩ := List.getElem?_eq_some_iff.1 h
  rw [List.drop_eq_getElem_cons h1, h2]
theorem resume_wrong (h : f.all[f.pos]? = some l) (hd : refD l = (1, [])) : resume F n (f :: rest) s = .bad f.name (f.pos + 1) 192 := by
  rw [refD_dirL] at hd
  by_cases h1 : (dirL l).2.1 = true
  · rw [if_pos h1] at hd
    by_cases h2 : (dirL l).2.2 = true
    · rw [if_pos h2] at hd; cases hd
    · rw [resume_cons, drop_pos h, textF, if_pos h1, if_neg h2]; rfl
  · rw [if_neg h1] at hd; cases hd
theorem resume_plain (h : f.all[f.pos]? = some l) (hd : refD l = (0, [])) :
    resume F n (f :: rest) s = if 8192 < s.out.length + l.length + 1 then .bad f.name (f.pos + 1) 3 else resume F n (f.next :: rest) { s with out := s.out ++ (l ++ [10]), lines := s.lines ++ [(f.name, f.pos + 1)] } := by
  rw [refD_dirL] at hd
  by_cases h1 : (dirL l).2.1 = true
  · rw [if_pos h1] at hd
    by_cases h2 : (dirL l).2.2 = true
    · rw [if_pos h2] at hd; cases hd
    · rw [if_neg h2] at hd; cases hd
  · rw [resume_cons, drop_pos h, textF, if_neg h1]
    by_cases hl : 8192 < s.out.length + l.length + 1
    · rw [if_pos hl, if_pos hl]; rfl
    · rw [if_neg hl, if_neg hl]; rfl
theorem resume_inc {x : Str} {k : Nat} (h : f.all[f.pos]? = some l) (hd : refD l = (2, x)) (hn : n - rest.length = k + 1) :
    resume F n (f :: rest) s = if x ∈ s.opn then .bad f.name (f.pos + 1) 191 else if x ∈ s.dn then resume F n (f.next :: rest) s else match F x with
      | none => .bad f.name (f.pos + 1) 190
      | some t => resume F n (⟨x, linesL t, 0⟩ :: f.next :: rest) { s with opn := s.opn ++ [x] } := by
  rw [refD_dirL] at hd
  have key : (dirL l).2.1 = true ∧ (dirL l).2.2 = true ∧ (dirL l).1 = x := by
    by_cases h1 : (dirL l).2.1 = true
    · rw [if_pos h1] at hd
      by_cases h2 : (dirL l).2.2 = true
      · rw [if_pos h2] at hd; cases hd; exact ⟨h1, h2, rfl⟩
      · rw [if_neg h2] at hd; cases hd
    · rw [if_neg h1] at hd; cases hd
  obtain ⟨h1, h2, rfl⟩ := key
  rw [resume_cons, drop_pos h, textF, if_pos h1, if_pos h2, hn]
  have hinc : incF F (k + 1) s (dirL l).1 f.name (f.pos + 1) = if (dirL l).1 ∈ s.opn then .bad f.name (f.pos + 1) 191 else if (dirL l).1 ∈ s.dn then .ok s else match F (dirL l).1 with
      | none => .bad f.name (f.pos + 1) 190
      | some t => bindR (textF (incF F k) (dirL l).1 { s with opn := s.opn ++ [(dirL l).1] } 1 (linesL t)) fun s' => .ok { s' with opn := s'.opn.dropLast, dn := s'.dn ++ [(dirL l).1] } := rfl
  rw [hinc]
  have hnx : ∀ s', bindR (textF (incF F (k + 1)) f.name s' (f.pos + 1 + 1) (f.all.drop (f.pos + 1))) (fun s' => if rest.isEmpty = true then .ok s' else resume F n rest { s' with opn := s'.opn.dropLast, dn := s'.dn ++ [f.name] }) = resume F n (f.next :: rest) s' := by
    intro s'; rw [resume_cons, hn]; rfl
  by_cases ho : (dirL l).1 ∈ s.opn
  · rw [if_pos ho, if_pos ho]; rfl
  rw [if_neg ho, if_neg ho]
  by_cases hdn : (dirL l).1 ∈ s.dn
  · rw [if_pos hdn, if_pos hdn, bindR_ok, hnx]
  rw [if_neg hdn, if_neg hdn]
  cases hF : F (dirL l).1 with
  | none => rfl
  | some t =>
    dsimp only
    rw [resume_cons, show n - (f.next :: rest).length = k by simp; omega, bindR_assoc, bindR_assoc]
    show bindR _ _ = bindR (textF (incF F k) (dirL l).1 { s with opn := s.opn ++ [(dirL l).1] } 1 (linesL t)) _
    congr 1
    funext s'
    rw [bindR_ok, hnx]; rfl
end

/-- how much work is left -/
def workF (fs : List Fr) : Nat := (fs.map fun f => f.all.length - f.pos + 1).sum
def unseen (Fs : List (Str × Str)) (seen : List Str) : Nat := ((Fs.filter fun p => !seen.contains p.1).map fun p => (linesL p.2).length + 2).sum
theorem unseen_mono {Fs : List (Str × Str)} {a b : List Str} (h : ∀ x ∈ a, x ∈ b) : unseen Fs b ≤ unseen Fs a := by
  unfold unseen
  induction Fs with
  | nil => exact Nat.le_refl _
  | cons p Fs ih =>
    rw [List.filter_cons, List.filter_cons]
    by_cases hb : p.1 ∈ b
    · rw [if_neg (by simpa using hb)]
      by_cases ha : p.1 ∈ a
      · rw [if_neg (by simpa using ha)]; exact ih
      · rw [if_pos (by simpa using ha), List.map_cons, List.sum_cons]; omega
    · rw [if_pos (by simpa using hb), if_pos (by simpa using fun x => hb (h _ x)), List.map_cons, List.map_cons, List.sum_cons, List.sum_cons]; omega
theorem unseen_new {Fs : List (Str × Str)} {a b : List Str} {x t : Str} (hl : look Fs x = some t) (hx : x ∉ a) (h : ∀ y ∈ a, y ∈ b) (hb : x ∈ b) : unseen Fs b + (linesL t).length + 2 ≤ unseen Fs a := by
  induction Fs with
  | nil => cases hl
  | cons p Fs ih =>
    unfold look at hl
    rw [List.find?_cons] at hl
    by_cases hp : (p.1 == x) = true
    · simp only [hp] at hl
      have hpx : p.1 = x := beq_iff_eq.1 hp
      have ht : p.2 = t := by simpa using hl
      have h1 := unseen_mono (Fs := Fs) h
      unfold unseen at h1 ⊢
      rw [List.filter_cons, List.filter_cons, if_neg (by rw [hpx]; simpa using hb), if_pos (by rw [hpx]; simpa using hx), List.map_cons, List.sum_cons, ht]
      omega
    · simp only [Bool.not_eq_true] at hp
      simp only [hp] at hl
      have h1 := ih hl
      unfold unseen at h1 ⊢
      rw [List.filter_cons, List.filter_cons]
      by_cases hb2 : p.1 ∈ b
      · rw [if_neg (by simpa using hb2)]
        by_cases ha : p.1 ∈ a
        · rw [if_neg (by simpa using ha)]; exact h1
        · rw [if_pos (by simpa using ha), List.map_cons, List.sum_cons]; omega
      · rw [if_pos (by simpa using hb2), if_pos (by simpa using fun y => hb2 (h _ y)), List.map_cons, List.map_cons, List.sum_cons, List.sum_cons]; omega
theorem workF_next {f : Fr} {rest : List Fr} (h : f.pos < f.all.length) : workF (f.next :: rest) < workF (f :: rest) := by
  unfold workF
  simp only [List.map_cons, List.sum_cons, Fr.next]
  omega
theorem workF_push {f : Fr} {rest : List Fr} {x t : Str} (h : f.pos < f.all.length) : workF (⟨x, linesL t, 0⟩ :: f.next :: rest) + 1 ≤ workF (f :: rest) + (linesL t).length + 1 := by
  unfold workF
  simp only [List.map_cons, List.sum_cons, Fr.next]
  omega
theorem workF_pop {f : Fr} {rest : List Fr} : workF rest < workF (f :: rest) := by
  unfold workF
  simp only [List.map_cons, List.sum_cons]
  omega
theorem inv_push {N : List Str} {s : LS} {x : Str} (h : Inv N s) (h1 : x ∉ s.opn) (h2 : x ∉ s.dn) (hx : x ∈ N) : Inv N { s with opn := s.opn ++ [x] } := by
  refine ⟨?_, ?_, h.lines, h.out⟩
  · have hn := h.nodup
    rw [List.nodup_append] at hn ⊢
    refine ⟨?_, hn.2.1, ?_⟩
    · rw [List.nodup_append]
      exact ⟨hn.1, by simp, fun a ha b hb => by simp at hb; subst hb; exact fun e => h1 (e ▸ ha)⟩
    · intro a ha b hb
      rcases List.mem_append.1 ha with ha | ha
      · exact hn.2.2 a ha b hb
      · simp at ha; subst ha; exact fun e => h2 (e ▸ hb)
  · intro y hy
    rcases List.mem_append.1 hy with hy | hy
    · rcases List.mem_append.1 hy with hy | hy
      · exact h.sub y (List.mem_append_left _ hy)
      · simp at hy; subst hy; exact hx
    · exact h.sub y (List.mem_append_right _ hy)
theorem inv_pop {N : List Str} {s : LS} {o : List Str} {x : Str} (h : Inv N s) (ho : s.opn = o ++ [x]) : Inv N { s with opn := s.opn.dropLast, dn := s.dn ++ [x] } := by
  have hp : ((o ++ [x]) ++ s.dn).Perm (o ++ (s.dn ++ [x])) := by
    rw [List.append_assoc]
    exact List.Perm.append_left _ List.perm_append_comm
  refine ⟨?_, ?_, h.lines, h.out⟩
  · have hn := h.nodup
    rw [ho] at hn
    show (s.opn.dropLast ++ (s.dn ++ [x])).Nodup
    rw [ho, List.dropLast_concat]
    exact hp.nodup hn
  · intro y hy
    refine h.sub y ?_
    change y ∈ s.opn.dropLast ++ (s.dn ++ [x]) at hy
    rw [ho, List.dropLast_concat] at hy
    rw [ho]
    exact hp.symm.subset hy
theorem inv_line {N : List Str} {s : LS} {l : Str} {p : Str × Nat} (h : Inv N s) (hl : ¬ 8192 < s.out.length + l.length + 1) : Inv N { s with out := s.out ++ (l ++ [10]), lines := s.lines ++ [p] } :=
  ⟨h.nodup, h.sub, by have := h.lines; simp; omega, by simp; omega⟩
end Go.Proofs.YtmhjfdnpmfhmjaaDoor
