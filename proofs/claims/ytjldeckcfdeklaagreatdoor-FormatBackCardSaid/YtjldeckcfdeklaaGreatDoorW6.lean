/- What Prefix reads of a text with blanks, a sign, noughts, digits and a power: plain. -/
import Derived.Test.YtjldeckcfdeklaaGreatDoorW5
namespace Go.Proofs.YtjldeckcfdeklaaGreatDoor
open Go.RowKit
set_option linter.unusedVariables false

theorem lead_cat5 {l : List UInt8} (h : Digits l) (t : List UInt8) : lead (l ++ t) = l ++ lead t := by
  unfold lead
  rw [List.takeWhile_append_of_pos]
  intro c hc
  exact (digs_iff c).2 (h c hc)
/-- no digit stands ahead -/
def NoDig (t : List UInt8) : Prop := ∀ c r, t = c :: r → ¬ (48 ≤ c.toNat ∧ c.toNat ≤ 57)
theorem lead_none {t : List UInt8} (h : NoDig t) : lead t = [] := by
  cases t with
  | nil => rfl
  | cons c r =>
    unfold lead
    rw [List.takeWhile_cons, if_neg (fun hc => h c r rfl ((digs_iff c).1 hc))]
theorem lead_stop {l t : List UInt8} (h : Digits l) (ht : NoDig t) : lead (l ++ t) = l := by rw [lead_cat5 h, lead_none ht, List.append_nil]
theorem noDig_cons {c : UInt8} {r : List UInt8} (h : c.toNat < 48 ∨ 57 < c.toNat) : NoDig (c :: r) := fun c' r' e => by
  injection e with e1 e2
  subst e1
  omega
/-- digits, a point, digits, and what follows -/
theorem mant_point {D1 D2 t : List UInt8} (h1 : Digits D1) (h2 : Digits D2) (hne : 0 < D1.length) (ht : NoDig t) : mantL (D1 ++ 46 :: (D2 ++ t)) = (D1 ++ D2, -(D2.length : Int), D1.length + 1 + D2.length) := by
  have e1 : lead (D1 ++ 46 :: (D2 ++ t)) = D1 := lead_stop h1 (noDig_cons (.inl (by decide)))
  have e2 : lead (D2 ++ t) = D2 := lead_stop h2 ht
  have e3 : (D1 ++ 46 :: (D2 ++ t)).drop (lead (D1 ++ 46 :: (D2 ++ t))).length = 46 :: (D2 ++ t) := by rw [e1]; simp
  rw [mantL_dot e3, e1, e2, if_pos (by omega)]
/-- digits alone -/
theorem mant_whole {D1 t : List UInt8} (h1 : Digits D1) (ht : NoDig t) (hp : ∀ r, t ≠ 46 :: r) : mantL (D1 ++ t) = (D1, 0, D1.length) := by
  have e1 : lead (D1 ++ t) = D1 := lead_stop h1 ht
  have e3 : (D1 ++ t).drop (lead (D1 ++ t)).length = t := by rw [e1]; simp
  rw [mantL_plain (fun r hr => hp r (e3.symm.trans hr)), e1]
theorem exp_some {ec s : UInt8} {E t : List UInt8} (he : ec = 101 ∨ ec = 69) (hs : s = 43 ∨ s = 45) (hE : Digits E) (hne : 0 < E.length) (ht : NoDig t) : expL (ec :: s :: (E ++ t)) = (powL E (s == 45), 2 + E.length) := by
  have e1 : lead (E ++ t) = E := lead_stop hE ht
  rcases hs with rfl | rfl
  · have hk : signK (ec :: 43 :: (E ++ t)) = (2, false) := rfl
    unfold expL
    simp only [hk]
    rw [if_pos he]
    simp only [List.drop_succ_cons, List.drop_zero, e1]
    rw [if_pos hne]
    rfl
  · have hk : signK (ec :: 45 :: (E ++ t)) = (2, true) := rfl
    unfold expL
    simp only [hk]
    rw [if_pos he]
    simp only [List.drop_succ_cons, List.drop_zero, e1]
    rw [if_pos hne]
    rfl
/-- no power stands ahead -/
def NoExp (t : List UInt8) : Prop := ∀ c r, t = c :: r → c ≠ 101 ∧ c ≠ 69
theorem exp_none {t : List UInt8} (h : NoExp t) : expL t = (0, 0) := by
  cases t with
  | nil => rfl
  | cons c r =>
    have hc := h c r rfl
    unfold expL
    simp only []
    rw [if_neg (by rintro (h | h); exact hc.1 h; exact hc.2 h)]
theorem unblank_blanks (i : Nat) (t : List UInt8) (h : ∀ c r, t = c :: r → c ≠ 32 ∧ c ≠ 9 ∧ c ≠ 10) : unblank (List.replicate i 32 ++ t) = t := by
  unfold unblank
  induction i with
  | zero =>
    cases t with
    | nil => rfl
    | cons c r =>
      have hc := h c r rfl
      show List.dropWhile _ (c :: r) = _
      rw [List.dropWhile_cons, if_neg]
      simp [wsL, hc.1, hc.2.1, hc.2.2]
  | succ i ih =>
    rw [List.replicate_succ, List.cons_append, List.dropWhile_cons, if_pos (by decide)]
    exact ih
/-- what Prefix reads behind blanks and a sign -/
theorem pref_of (i : Nat) (neg pl : Bool) (c : UInt8) (r : List UInt8) (hc : 48 ≤ c.toNat ∧ c.toNat ≤ 57) (hn : (numeralL (c :: r)).2.2 ≠ 0) :
    prefB (List.replicate i 32 ++ ((if neg = true then [45] else if pl = true then [43] else []) ++ c :: r)) = (if neg = true then readN (numeralL (c :: r)).1 (numeralL (c :: r)).2.1 + 9223372036854775808 else readN (numeralL (c :: r)).1 (numeralL (c :: r)).2.1) ∧
    0 < prefN (List.replicate i 32 ++ ((if neg = true then [45] else if pl = true then [43] else []) ++ c :: r)) := by
  have hcs : c ≠ 32 ∧ c ≠ 9 ∧ c ≠ 10 ∧ c ≠ 45 ∧ c ≠ 43 := by refine ⟨?_, ?_, ?_, ?_, ?_⟩ <;> rintro rfl <;> revert hc <;> decide
  obtain ⟨S, hS⟩ : ∃ S : List UInt8, S = (if neg = true then [45] else if pl = true then [43] else []) := ⟨_, rfl⟩
  rw [← hS]
  have hu : unblank (List.replicate i 32 ++ (S ++ c :: r)) = S ++ c :: r := by
    refine unblank_blanks i _ fun c' r' e => ?_
    cases neg <;> cases pl <;> simp at hS <;> subst hS <;> simp at e
    · rw [← e.1]; exact ⟨hcs.1, hcs.2.1, hcs.2.2.1⟩
    · rw [← e.1]; decide
    · rw [← e.1]; decide
    · rw [← e.1]; decide
  have hs : signB (S ++ c :: r) = (S.length, neg) ∧ (S ++ c :: r).drop S.length = c :: r := by
    refine ⟨?_, by simp⟩
    cases neg <;> cases pl <;> simp at hS <;> subst hS
    · exact signB_other c r hcs.2.2.2.1 hcs.2.2.2.2
    · rfl
    · rfl
    · rfl
  have hcore : coreL (List.replicate i 32 ++ (S ++ c :: r)) = numeralL (c :: r) := by
    unfold coreL
    rw [hu, hs.1]
    show numeralL (List.drop S.length (S ++ c :: r)) = _
    rw [hs.2]
  have hM : prefM (List.replicate i 32 ++ (S ++ c :: r)) = neg := by
    unfold prefM
    rw [hcore, if_neg hn, hu, hs.1]
  constructor
  · unfold prefB prefV
    rw [hM, hcore, if_neg hn]
  · unfold prefN
    rw [hcore, if_neg hn]
    omega
end Go.Proofs.YtjldeckcfdeklaaGreatDoor
