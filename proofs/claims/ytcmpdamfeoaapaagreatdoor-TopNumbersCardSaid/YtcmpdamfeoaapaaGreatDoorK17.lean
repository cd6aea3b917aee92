/- Plain: numerals with something ahead of them; the digits so far. -/
import Derived.Test.YtcmpdamfeoaapaaGreatDoorK14
import Derived.Test.YtcmpdamfeoaapaaGreatDoorK9
import Derived.Test.YtcmpdamfeoaapaaGreatDoorM4
namespace Go.Proofs.YtcmpdamfeoaapaaGreatDoor
open Go.RowKit
set_option linter.unusedVariables false

/-- the digits of n so far, k being left -/
def Done (n k : Nat) (l : List UInt8) : Prop := (k = n ∧ l = []) ∨ ∃ m r, k = m / 10 ∧ Left n m l r
theorem Done.step {n k : Nat} {l : List UInt8} (h : Done n k l) (hk : 0 < k ∨ l = []) : Done n (k / 10) (dig (k % 10) :: l) := by
  rcases h with ⟨rfl, rfl⟩ | ⟨m, r, rfl, hl⟩
  · exact .inr ⟨k, [], rfl, Left.start k⟩
  · rcases hk with h0 | h0
    · exact .inr ⟨m / 10, l, rfl, hl.step (by omega)⟩
    · rw [hl.eq] at h0; cases h0
theorem Done.short {n k : Nat} {l : List UInt8} (h : Done n k l) (hn : n < 18446744073709551616) : l.length ≤ 20 := by
  rcases h with ⟨rfl, rfl⟩ | ⟨m, r, rfl, hl⟩
  · simp
  · exact hl.short hn
theorem Done.canon {n : Nat} {l : List UInt8} (h : Done n 0 l) (hl0 : l ≠ []) : Canon l n := by
  rcases h with ⟨rfl, rfl⟩ | ⟨m, r, hm, hl⟩
  · exact absurd rfl hl0
  · exact hl.canon (by omega)

theorem digit_facts {c : UInt8} (h : 48 ≤ c.toNat ∧ c.toNat ≤ 57) : wsL.contains c = false ∧ c ≠ 45 ∧ c ≠ 43 := by
  refine ⟨?_, ?_, ?_⟩
  · have h32 : c ≠ 32 := by rintro rfl; have := h.1; revert this; decide
    have h9 : c ≠ 9 := by rintro rfl; have := h.1; revert this; decide
    have h10 : c ≠ 10 := by rintro rfl; have := h.1; revert this; decide
    simp [wsL, h32, h9, h10]
  · rintro rfl; have := h.1; revert this; decide
  · rintro rfl; have := h.1; revert this; decide

section
variable {l tail : List UInt8} {n : Nat}
theorem cat_cons (h : Canon l n) (tail : List UInt8) : ∃ c r, l ++ tail = c :: r ∧ 48 ≤ c.toNat ∧ c.toNat ≤ 57 := by
  cases hl : l with
  | nil => exact absurd hl h.ne
  | cons c r => exact ⟨c, r ++ tail, rfl, h.dig c (by rw [hl]; exact List.mem_cons_self ..)⟩
theorem unblank_cat (h : Canon l n) (tail : List UInt8) : unblank (l ++ tail) = l ++ tail := by
  obtain ⟨c, r, e, hc⟩ := cat_cons h tail
  rw [e]
  unfold unblank
  rw [List.dropWhile_cons_of_neg (by rw [(digit_facts hc).1]; decide)]
theorem signB_cat (h : Canon l n) (tail : List UInt8) : signB (l ++ tail) = (0, false) := by
  obtain ⟨c, r, e, hc⟩ := cat_cons h tail
  rw [e]
  exact signB_other c r (digit_facts hc).2.1 (digit_facts hc).2.2
theorem lead_cat (h : Digits l) (tail : List UInt8) : lead (l ++ tail) = l ++ lead tail := by
  unfold lead
  rw [List.takeWhile_append_of_pos]
  intro c hc
  exact (digs_iff c).2 (h c hc)
theorem numeral_count (h : Canon l n) (tail : List UInt8) : l.length ≤ (numeralL (l ++ tail)).2.2 ∧ (numeralL (l ++ tail)).2.2 ≠ 0 := by
  have hpos : 0 < l.length := List.length_pos_iff.2 h.ne
  have hlead : l.length ≤ (lead (l ++ tail)).length := by rw [lead_cat h.dig, List.length_append]; omega
  have hm : l.length ≤ (mantL (l ++ tail)).2.2 ∧ (mantL (l ++ tail)).1 ≠ [] := by
    have hne : lead (l ++ tail) ≠ [] := by intro h2; rw [h2, List.length_nil] at hlead; omega
    by_cases hd : ∃ r, (l ++ tail).drop (lead (l ++ tail)).length = 46 :: r
    · obtain ⟨r, hr⟩ := hd
      rw [mantL_dot hr, if_pos (by omega)]
      refine ⟨by simp only; omega, ?_⟩
      simp only [ne_eq, List.append_eq_nil_iff, hne, false_and, not_false_eq_true]
    · rw [mantL_plain fun r hr => hd ⟨r, hr⟩]
      exact ⟨hlead, hne⟩
  unfold numeralL
  rw [if_neg hm.2]
  simp only
  omega
theorem pref_plain (h : Canon l n) (tail : List UInt8) : prefN (l ++ tail) = (numeralL (l ++ tail)).2.2 ∧ prefB (l ++ tail) = readN (numeralL (l ++ tail)).1 (numeralL (l ++ tail)).2.1 := by
  obtain ⟨h1, h2⟩ := numeral_count h tail
  have hc : coreL (l ++ tail) = numeralL (l ++ tail) := by unfold coreL; rw [unblank_cat h, signB_cat h]; rfl
  refine ⟨?_, ?_⟩
  · unfold prefN; rw [hc, if_neg h2, unblank_cat h, signB_cat h]; simp
  · unfold prefB prefM prefV; rw [hc, if_neg h2, if_neg h2, unblank_cat h, signB_cat h]; exact if_neg (by decide)
theorem pref_sign (h : Canon l n) (tail : List UInt8) (c : UInt8) (b : Bool) (hc : signB (c :: (l ++ tail)) = (1, b)) (hw : wsL.contains c = false) :
    prefN (c :: (l ++ tail)) = (numeralL (l ++ tail)).2.2 + 1 ∧ prefB (c :: (l ++ tail)) = if b then readN (numeralL (l ++ tail)).1 (numeralL (l ++ tail)).2.1 + 9223372036854775808 else readN (numeralL (l ++ tail)).1 (numeralL (l ++ tail)).2.1 := by
  obtain ⟨h1, h2⟩ := numeral_count h tail
  have hu : unblank (c :: (l ++ tail)) = c :: (l ++ tail) := by
    unfold unblank; rw [List.dropWhile_cons_of_neg (by rw [hw]; decide)]
  have hcc : coreL (c :: (l ++ tail)) = numeralL (l ++ tail) := by unfold coreL; rw [hu, hc]; rfl
  refine ⟨?_, ?_⟩
  · unfold prefN; rw [hcc, if_neg h2, hu, hc]; simp only; omega
  · unfold prefB prefM prefV; rw [hcc, if_neg h2, if_neg h2, hu, hc]
theorem pref_blank (h : Canon l n) (tail : List UInt8) : prefN (32 :: 10 :: 9 :: (l ++ tail)) = (numeralL (l ++ tail)).2.2 + 3 ∧ prefB (32 :: 10 :: 9 :: (l ++ tail)) = readN (numeralL (l ++ tail)).1 (numeralL (l ++ tail)).2.1 := by
  obtain ⟨h1, h2⟩ := numeral_count h tail
  have hu : unblank (32 :: 10 :: 9 :: (l ++ tail)) = l ++ tail := by
    have h3 := unblank_cat h tail
    unfold unblank at h3 ⊢
    rw [List.dropWhile_cons_of_pos (by decide), List.dropWhile_cons_of_pos (by decide), List.dropWhile_cons_of_pos (by decide), h3]
  have hcc : coreL (32 :: 10 :: 9 :: (l ++ tail)) = numeralL (l ++ tail) := by unfold coreL; rw [hu, signB_cat h]; rfl
  refine ⟨?_, ?_⟩
  · unfold prefN; rw [hcc, if_neg h2, hu, signB_cat h]; simp only [List.length_cons]; omega
  · unfold prefB prefM prefV; rw [hcc, if_neg h2, if_neg h2, hu, signB_cat h]; exact if_neg (by decide)
theorem numeral_plain (h : Canon l n) : numeralL l = (l, 0, l.length) := by
  have hl : lead l = l := by have h2 := lead_cat h.dig []; rw [List.append_nil] at h2; rw [h2]; simp [lead]
  have hm : mantL l = (l, 0, l.length) := by
    rw [mantL_plain (fun r hr => by rw [hl, List.drop_length] at hr; cases hr), hl]
  unfold numeralL
  rw [hm, if_neg h.ne]
  simp only [List.drop_length, expL]
  rfl
end
end Go.Proofs.YtcmpdamfeoaapaaGreatDoor
