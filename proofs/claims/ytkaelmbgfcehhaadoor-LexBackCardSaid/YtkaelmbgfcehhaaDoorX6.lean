/- Package lex, plain: what is written is read back. -/
import Derived.Test.YtkaelmbgfcehhaaDoorM5
set_option linter.unusedVariables false
set_option linter.unusedSimpArgs false
namespace Go.Proofs.YtkaelmbgfcehhaaDoor
open Go.RowKit
set_option linter.unusedVariables false

/-- a byte as a program's string writes it -/
def quoteB (b : UInt8) : List UInt8 :=
  if b = 34 ∨ b = 92 then [92, b] else if b = 10 then [92, 110] else if b = 9 then [92, 116]
  else if b.toNat < 32 ∨ 126 < b.toNat then [92, UInt8.ofNat (48 + b.toNat / 64), UInt8.ofNat (48 + b.toNat / 8 % 8), UInt8.ofNat (48 + b.toNat % 8)] else [b]
def quoteW (s : List UInt8) : List UInt8 := 34 :: (s.flatMap quoteB ++ [34])
/-- a regular expression's text as a program writes it, between the slashes -/
def slashB : List UInt8 → List UInt8
  | [] => []
  | [b] => if b = 47 then [92, 47] else [b]
  | b :: c :: T => if b = 47 then 92 :: 47 :: slashB (c :: T) else if b = 92 then b :: c :: slashB T else b :: slashB (c :: T)
def slashW (s : List UInt8) : List UInt8 := 47 :: (slashB s ++ [47])
theorem esc_three (a b c : UInt8) (T : List UInt8) : escR (a :: b :: c :: T) = escR [a, b, c] := rfl
theorem esc_octs : ∀ n : Fin 256, let b := UInt8.ofNat n.val
    escR [UInt8.ofNat (48 + b.toNat / 64), UInt8.ofNat (48 + b.toNat / 8 % 8), UInt8.ofNat (48 + b.toNat % 8)] = ([b], 3, 0) := by decide +kernel
theorem text_one (n : Nat) (b : UInt8) (T : List UInt8) (hT : T ≠ []) : textR (n + 1) (quoteB b ++ T) = (textR n T).map fun q => (b :: q.1, (quoteB b).length + q.2.1, q.2.2) := by
  unfold quoteB
  by_cases h1 : b = 34 ∨ b = 92
  · rw [if_pos h1]
    have he : escR (b :: T) = ([b], 1, 0) := by rcases h1 with rfl | rfl <;> rfl
    show textR (n + 1) (92 :: b :: T) = _
    rw [textR]
    rw [if_neg (by decide), if_neg (by decide), if_pos ⟨rfl, by simp⟩, he]
    simp only [List.drop_one, List.tail_cons]
    cases textR n T <;> simp [Nat.add_assoc]
  rw [if_neg h1]
  by_cases h2 : b = 10
  · subst h2
    rw [if_pos rfl]
    show textR (n + 1) (92 :: 110 :: T) = _
    rw [textR]
    rw [if_neg (by decide), if_neg (by decide), if_pos ⟨rfl, by simp⟩, show escR (110 :: T) = ([10], 1, 0) from rfl]
    simp only [List.drop_one, List.tail_cons]
    cases textR n T <;> simp [Nat.add_assoc]
  rw [if_neg h2]
  by_cases h3 : b = 9
  · subst h3
    rw [if_pos rfl]
    show textR (n + 1) (92 :: 116 :: T) = _
    rw [textR]
    rw [if_neg (by decide), if_neg (by decide), if_pos ⟨rfl, by simp⟩, show escR (116 :: T) = ([9], 1, 0) from rfl]
    simp only [List.drop_one, List.tail_cons]
    cases textR n T <;> simp [Nat.add_assoc]
  rw [if_neg h3]
  by_cases h4 : b.toNat < 32 ∨ 126 < b.toNat
  · rw [if_pos h4]
    have he := esc_octs ⟨b.toNat, b.toNat_lt⟩
    simp only [UInt8.ofNat_toNat] at he
    show textR (n + 1) (92 :: _ :: _ :: _ :: T) = _
    rw [textR]
    rw [if_neg (by decide), if_neg (by decide), if_pos ⟨rfl, by simp⟩, esc_three, he]
    simp only [List.drop_succ_cons, List.drop_zero]
    cases textR n T <;> simp [Nat.add_assoc]
  rw [if_neg h4]
  show textR (n + 1) (b :: T) = _
  rw [textR]
  rw [if_neg (fun h => h1 (.inl h)), if_neg h2, if_neg (fun h => h1 (.inr h.1))]
  rfl
theorem quoteB_pos (b : UInt8) : 1 ≤ (quoteB b).length := by unfold quoteB; (repeat' split) <;> simp
theorem text_quote : ∀ (s : List UInt8) (n : Nat), s.length < n → textR n (s.flatMap quoteB ++ [34]) = some (s, (s.flatMap quoteB).length + 1, 0) := by
  intro s
  induction s with
  | nil =>
    intro n h
    obtain ⟨n, rfl⟩ : ∃ k, n = k + 1 := ⟨n - 1, by simp at h; omega⟩
    rfl
  | cons b s ih =>
    intro n h
    rw [List.length_cons] at h
    obtain ⟨n, rfl⟩ : ∃ k, n = k + 1 := ⟨n - 1, by omega⟩
    rw [List.flatMap_cons, List.append_assoc, text_one n b _ (by simp), ih n (by omega), List.length_append]
    simp [Nat.add_assoc]
theorem flat_len : ∀ s : List UInt8, s.length ≤ (s.flatMap quoteB).length
  | [] => Nat.le_refl _
  | b :: s => by
    have := flat_len s
    have := quoteB_pos b
    rw [List.flatMap_cons, List.length_append, List.length_cons]
    omega
section
variable {lit : List UInt8 → Nat × Nat}
theorem step_quote {s : List UInt8} (h : s.length ≤ 1024) (last : Option TokT) : stepR lit (quoteW s) last = .go (quoteW s).length 0 (some (4, s, 0)) := by
  unfold quoteW
  show (match textR (34 :: (s.flatMap quoteB ++ [34])).length (s.flatMap quoteB ++ [34]) with
    | none => StepR.bad 201
    | some (o, n, l) => if 1024 < o.length then .bad 201 else .go (1 + n) l (some (4, o, 0))) = _
  rw [text_quote s _ (by have := flat_len s; rw [List.length_cons, List.length_append]; omega)]
  simp only []
  rw [if_neg (by omega)]
  simp
  omega
theorem scan_one {R : List UInt8} {kd : Nat} {t : List UInt8} (hR : R ≠ []) (h : stepR lit R none = .go R.length 0 (some (kd, t, 0))) (n : Nat) (hn : 2 ≤ n) :
    scanR lit n R 1 [] = .ok [(kd, t, 0, 1), (9, [], 0, 1)] := by
  obtain ⟨n, rfl⟩ : ∃ k, n = k + 2 := ⟨n - 2, by omega⟩
  unfold scanR
  rw [if_neg hR, show ([] : List TokT).getLast? = none from rfl, h]
  simp only [List.drop_length]
  unfold scanR
  rw [if_pos rfl]
  rfl
/-- LexBack: a string -/
theorem scan_quote {s : List UInt8} (h : s.length ≤ 1024) : scanR lit ((quoteW s).length + 1) (quoteW s) 1 [] = .ok [(4, s, 0, 1), (9, [], 0, 1)] :=
  scan_one (by simp [quoteW]) (step_quote h none) _ (by simp [quoteW])
theorem slashB_two (b c : UInt8) (T : List UInt8) : slashB (b :: c :: T) = if b = 47 then 92 :: 47 :: slashB (c :: T) else if b = 92 then b :: c :: slashB T else b :: slashB (c :: T) := by rw [slashB]
theorem slash_back : ∀ (n : Nat) (R o : List UInt8) (k : Nat), slashR n R = some (o, k) → ∀ m, o.length < m → slashR m (slashB o ++ [47]) = some (o, (slashB o).length + 1) := by
  intro n
  induction n with
  | zero => intro R o k h; cases h
  | succ n ih =>
    intro R o k h m hm
    obtain ⟨m, rfl⟩ : ∃ k, m = k + 1 := ⟨m - 1, by omega⟩
    cases R with
    | nil => cases h
    | cons b T =>
      unfold slashR at h
      by_cases h47 : b = 47
      · rw [if_pos h47] at h
        injection h with h; injection h with h1 h2
        subst h1
        rfl
      rw [if_neg h47] at h
      by_cases h10 : b = 10
      · rw [if_pos h10] at h; cases h
      rw [if_neg h10] at h
      by_cases h92 : b = 92
      · rw [if_pos h92] at h
        subst h92
        cases T with
        | nil => cases h
        | cons c T' =>
          simp only [] at h
          by_cases hc : c = 10
          · rw [if_pos hc] at h; cases h
          rw [if_neg hc] at h
          obtain ⟨q2, hq, e⟩ := Option.map_eq_some_iff.1 h
          obtain ⟨o2, k2⟩ := q2
          injection e with e1 e2
          by_cases h4 : c = 47
          · subst h4
            rw [if_pos rfl] at e1
            subst e1
            simp only [List.cons_append, List.nil_append, List.length_cons] at hm ⊢
            have hs : slashB (47 :: o2) = 92 :: 47 :: slashB o2 := by
              cases o2 with
              | nil => rfl
              | cons d o3 => rw [slashB_two, if_pos rfl]
            have := ih _ _ _ hq m (by omega)
            rw [hs, List.cons_append, List.cons_append]
            unfold slashR
            rw [if_neg (by decide), if_neg (by decide), if_pos rfl]
            simp only []
            rw [if_neg (by decide), this]
            simp
            omega
          · rw [if_neg h4] at e1
            subst e1
            simp only [List.cons_append, List.nil_append, List.length_cons] at hm ⊢
            have := ih _ _ _ hq m (by omega)
            rw [slashB_two, if_neg (by decide), if_pos rfl, List.cons_append, List.cons_append]
            unfold slashR
            rw [if_neg (by decide), if_neg (by decide), if_pos rfl]
            simp only []
            rw [if_neg hc, this, if_neg h4]
            simp
            omega
      · rw [if_neg h92] at h
        obtain ⟨q2, hq, e⟩ := Option.map_eq_some_iff.1 h
        obtain ⟨o2, k2⟩ := q2
        injection e with e1 e2
        subst e1
        simp only [List.length_cons] at hm
        have := ih _ _ _ hq m (by omega)
        have hs : slashB (b :: o2) = b :: slashB o2 := by
          cases o2 with
          | nil => show (if b = 47 then _ else _) = _; rw [if_neg h47]; rfl
          | cons d o3 => rw [slashB_two, if_neg h47, if_neg h92]
        rw [hs, List.cons_append]
        unfold slashR
        rw [if_neg h47, if_neg h10, if_neg h92, this]
        simp
        omega
theorem step_slash {o : List UInt8} {n k : Nat} {R : List UInt8} (hq : slashR n R = some (o, k)) (h : o.length ≤ 1024) : stepR lit (slashW o) none = .go (slashW o).length 0 (some (5, o, 0)) := by
  have hlen : ∀ (n : Nat) (o : List UInt8), o.length ≤ n → o.length ≤ (slashB o).length := by
    intro n
    induction n with
    | zero => intro o h; omega
    | succ n ih =>
      intro o h
      match o, h with
      | [], h => exact Nat.le_refl _
      | [b], h => unfold slashB; split <;> simp
      | b :: c :: T, h =>
        simp only [List.length_cons] at h
        have h1 := ih (c :: T) (by simp only [List.length_cons]; omega)
        have h2 := ih T (by omega)
        rw [slashB_two]
        simp only [List.length_cons] at h1
        (repeat' split) <;> simp only [List.length_cons] <;> omega
  unfold slashW
  show (match slashR (47 :: (slashB o ++ [47])).length (slashB o ++ [47]) with
    | none => StepR.bad 202
    | some (o, n) => if 1024 < o.length then .bad 202 else .go (1 + n) 0 (some (5, o, 0))) = _
  rw [slash_back n R o k hq _ (by have := hlen _ o (Nat.le_refl _); simp; omega)]
  simp only []
  rw [if_neg (by omega)]
  simp
  omega
/-- LexBack: a regular expression -/
theorem scan_slash {o : List UInt8} {n k : Nat} {R : List UInt8} (hq : slashR n R = some (o, k)) (h : o.length ≤ 1024) : scanR lit ((slashW o).length + 1) (slashW o) 1 [] = .ok [(5, o, 0, 1), (9, [], 0, 1)] :=
  scan_one (by simp [slashW]) (step_slash hq h) _ (by simp [slashW])
end
end Go.Proofs.YtkaelmbgfcehhaaDoor
