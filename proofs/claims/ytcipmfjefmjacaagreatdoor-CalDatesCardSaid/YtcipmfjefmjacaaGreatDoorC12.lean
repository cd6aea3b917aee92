/- Plain: words of digits between blanks. -/
import Derived.Test.YtcipmfjefmjacaaGreatDoorC9
import Derived.Test.YtcipmfjefmjacaaGreatDoorR12
namespace Go.Proofs.YtcipmfjefmjacaaGreatDoor
open Go.RowKit
set_option linter.unusedVariables false

theorem not_ws {c : UInt8} (h : 48 ≤ c.toNat ∧ c.toNat ≤ 57) : wsL.contains c = false ∧ c ≠ 45 ∧ c ≠ 43 := by
  refine ⟨?_, ?_, ?_⟩
  · have h32 : c ≠ 32 := by rintro rfl; have := h.1; revert this; decide
    have h9 : c ≠ 9 := by rintro rfl; have := h.1; revert this; decide
    have h10 : c ≠ 10 := by rintro rfl; have := h.1; revert this; decide
    simp [wsL, h32, h9, h10]
  · rintro rfl; have := h.1; revert this; decide
  · rintro rfl; have := h.1; revert this; decide
theorem num_plain {l : List UInt8} (h : Digits l) (hne : l ≠ []) : numeralL l = (l, 0, l.length) := by
  have hl : lead l = l := by
    unfold lead
    have h2 : List.takeWhile (digs.contains ·) (l ++ []) = l ++ List.takeWhile (digs.contains ·) [] := List.takeWhile_append_of_pos fun c hc => (digs_iff c).2 (h c hc)
    simpa using h2
  have hm : mantL l = (l, 0, l.length) := by
    rw [mantL_plain (fun r hr => by rw [hl, List.drop_length] at hr; cases hr), hl]
  unfold numeralL
  rw [hm, if_neg hne]
  simp only [List.drop_length, expL]
  rfl
theorem pref_digits {l : List UInt8} (h : Digits l) (hne : l ≠ []) : prefN l = l.length ∧ prefB l = readN l 0 := by
  have hu : unblank l = l ∧ signB l = (0, false) := by
    cases l with
    | nil => exact absurd rfl hne
    | cons c r =>
      have hc := not_ws (h c (List.mem_cons_self ..))
      refine ⟨?_, signB_other c r hc.2.1 hc.2.2⟩
      unfold unblank
      rw [List.dropWhile_cons_of_neg (by rw [hc.1]; decide)]
  have hc : coreL l = (l, 0, l.length) := by unfold coreL; rw [hu.1, hu.2]; exact num_plain h hne
  have hl0 := List.length_pos_iff.2 hne
  refine ⟨?_, ?_⟩
  · unfold prefN
    rw [hc, if_neg (by simp only; omega), hu.1, hu.2]
    simp
  · have hM : prefM l = false := by unfold prefM; rw [hc, if_neg (by simp only; omega), hu.1, hu.2]
    have hV : prefV l = readN l 0 := by unfold prefV; rw [hc, if_neg (by simp only; omega)]
    unfold prefB
    rw [hM, hV]
    exact if_neg (by decide)
theorem bare_bare (l : List UInt8) : bare (bare l) = bare l := by
  unfold bare
  induction l with
  | nil => rfl
  | cons c r ih =>
    by_cases hc : (c == 48) = true
    · have e : List.dropWhile (fun x => x == 48) (c :: r) = List.dropWhile (fun x => x == 48) r := by simp [List.dropWhile_cons, hc]
      rw [e]; exact ih
    · have e : List.dropWhile (fun x => x == 48) (c :: r) = c :: r := by simp [List.dropWhile_cons, hc]
      rw [e, e]
theorem val_bare (l : List UInt8) : digVal (bare l) = digVal l := by
  unfold bare
  induction l with
  | nil => rfl
  | cons c r ih =>
    by_cases hc : (c == 48) = true
    · have e : List.dropWhile (fun x => x == 48) (c :: r) = List.dropWhile (fun x => x == 48) r := by simp [List.dropWhile_cons, hc]
      rw [e, ih, digVal_cons]
      have : c = 48 := by simpa using hc
      rw [this]
      simp
    · have e : List.dropWhile (fun x => x == 48) (c :: r) = c :: r := by simp [List.dropWhile_cons, hc]
      rw [e]
theorem readN_digits {l : List UInt8} (hl : l.length ≤ 300) : readN l 0 = near (digVal l) 1 := by
  unfold readN
  by_cases hb : bare l = []
  · rw [if_pos hb, ← val_bare l, hb]
    exact (near_zero (by decide)).symm
  · have hlen := bare_length l
    have hpos := List.length_pos_iff.2 hb
    rw [if_neg hb, if_pos (by omega)]
    unfold readB
    rw [bare_bare, if_neg (by omega), if_neg (by omega), if_neg (by omega), val_bare]
    simp
theorem near_nearest {n : Nat} (h : n < 9007199254740992) : near n 1 = FloatKind.f64.nearest (n : Int) := by
  obtain ⟨h1, h2⟩ := whole_bits h
  exact near_exact (by decide) (by rw [Nat.mul_one]; exact h2.symm) (Nat.le_of_lt h1)
theorem ints_all : ((List.range 10000).all fun n => floatToIntVal .f64 (FloatKind.f64.nearest (n : Int)) .i64 == some (n : Int)) = true := by kernel_rfl
theorem word_digits {s : ByteArray} {n : Nat} (h : Digits s.data.toList) (hne : s.data.toList ≠ []) (hl : s.size ≤ 7) (hv : digVal s.data.toList = n) (hn : n < 10000) : Word s n := by
  obtain ⟨h1, h2⟩ := pref_digits h hne
  have hs := size_list s
  have h3 := List.all_eq_true.1 ints_all n (List.mem_range.2 hn)
  refine ⟨?_, by rw [h1, hs], h, hl, by omega, by omega⟩
  rw [h2, readN_digits (by omega), hv, near_nearest (by omega)]
  simpa using h3
end Go.Proofs.YtcipmfjefmjacaaGreatDoor
