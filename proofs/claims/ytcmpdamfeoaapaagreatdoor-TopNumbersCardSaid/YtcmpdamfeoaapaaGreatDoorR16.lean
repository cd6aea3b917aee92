/- Plain: the document's Cut rounds as rnd does. -/
import Derived.Test.YtcmpdamfeoaapaaGreatDoorR14
namespace Go.Proofs.YtcmpdamfeoaapaaGreatDoor
open Go.RowKit
set_option linter.unusedVariables false

/-- does the document's Cut count on? -/
def UpP (S : List UInt8) (n : Nat) : Prop := ∃ h : n < S.length, 53 ≤ (S[n]).toNat ∧ (53 < (S[n]).toNat ∨ (∃ j, ∃ hj : j < S.length, n < j ∧ (S[j]).toNat ≠ 48) ∨ (0 < n ∧ (S[n - 1]).toNat % 2 = 1))
theorem digVal_pos_of {l : List UInt8} (hd : Digits l) : 0 < digVal l ↔ ∃ j, ∃ hj : j < l.length, (l[j]).toNat ≠ 48 := by
  constructor
  · intro h
    refine Classical.byContradiction fun hc => ?_
    have : l = List.replicate l.length 48 := by
      rw [List.eq_replicate_iff]
      refine ⟨rfl, fun c hcm => ?_⟩
      obtain ⟨i, hi, rfl⟩ := List.mem_iff_getElem.1 hcm
      refine UInt8.toNat_inj.1 (Classical.byContradiction fun hx => hc ⟨i, hi, ?_⟩)
      exact hx
    rw [this, digVal_noughts] at h
    omega
  · rintro ⟨j, hj, hne⟩
    have e : l = l.take j ++ l[j] :: l.drop (j + 1) := by rw [← List.drop_eq_getElem_cons hj, List.take_append_drop]
    rw [e, digVal_app, digVal_cons]
    have h1 := hd _ (List.getElem_mem hj)
    have h2 : 1 * 10 ^ (l.drop (j + 1)).length ≤ ((l[j]).toNat - 48) * 10 ^ (l.drop (j + 1)).length := Nat.mul_le_mul_right _ (by omega)
    have h3 := p10_pos (l.drop (j + 1)).length
    omega
theorem digVal_odd {l : List UInt8} (hd : Digits l) : digVal l % 2 = 1 ↔ 0 < l.length ∧ (l.getLast?.getD 48).toNat % 2 = 1 := by
  rcases List.eq_nil_or_concat l with rfl | ⟨m, c, rfl⟩
  · simp [digVal]
  · rw [List.concat_eq_append] at hd ⊢
    have h1 := hd c (by simp)
    rw [digVal_snoc]
    simp
    omega
theorem round_up {S : List UInt8} {n : Nat} (hd : Digits S) (hn : n ≤ S.length) : (UpP S n → rnd (digVal S) (10 ^ (S.length - n)) = digVal (S.take n) + 1) ∧ (¬ UpP S n → rnd (digVal S) (10 ^ (S.length - n)) = digVal (S.take n)) := by
  obtain ⟨q1, q2⟩ := digVal_split S hd n
  have hdl : (S.drop n).length = S.length - n := by simp
  rw [hdl] at q1 q2
  rcases Nat.lt_or_ge n S.length with hlt | hge
  · have hT : S.drop n = S[n] :: S.drop (n + 1) := List.drop_eq_getElem_cons hlt
    have hr : digVal (S.drop n) = ((S[n]).toNat - 48) * 10 ^ (S.length - n - 1) + digVal (S.drop (n + 1)) := by
      rw [hT, digVal_cons]; congr 3; simp; omega
    have hc := hd _ (List.getElem_mem hlt)
    have hdd := digits_drop hd (n + 1)
    have hp := digVal_pos_of hdd
    have hlt2 := digVal_lt hdd
    have hdl2 : (S.drop (n + 1)).length = S.length - n - 1 := by simp; omega
    rw [hdl2] at hlt2
    have hodd := digVal_odd (digits_take hd n)
    have e10 : (10 : Nat) ^ (S.length - n) = 10 * 10 ^ (S.length - n - 1) := by rw [← Nat.pow_succ']; congr 1; clear hp hodd; omega
    have hU : UpP S n ↔ 10 ^ (S.length - n) < 2 * (digVal S % 10 ^ (S.length - n)) ∨ 2 * (digVal S % 10 ^ (S.length - n)) = 10 ^ (S.length - n) ∧ digVal S / 10 ^ (S.length - n) % 2 = 1 := by
      rw [← q1, ← q2, hr, e10, hodd]
      have hex : (∃ j, ∃ hj : j < S.length, n < j ∧ (S[j]).toNat ≠ 48) ↔ 0 < digVal (S.drop (n + 1)) := by
        rw [hp]
        constructor
        · rintro ⟨j, hj, h1, h2⟩
          have hj1 : j - (n + 1) < S.length - n - 1 := by clear hp; omega
          have this : n + 1 + (j - (n + 1)) = j := by clear hp; omega
          refine ⟨j - (n + 1), by rw [hdl2]; exact hj1, ?_⟩
          rw [List.getElem_drop]
          simp only [this]; exact h2
        · rintro ⟨j, hj, h2⟩
          rw [hdl2] at hj
          rw [List.getElem_drop] at h2
          exact ⟨n + 1 + j, by clear hp h2; omega, by clear hp h2; omega, h2⟩
      clear hp
      have hlast : (0 < n ∧ (S[n - 1]).toNat % 2 = 1) ↔ (0 < (S.take n).length ∧ ((S.take n).getLast?.getD 48).toNat % 2 = 1) := by
        rw [List.length_take, Nat.min_eq_left hn]
        rcases Nat.eq_zero_or_pos n with h0 | h0
        · subst h0; simp
        · have : (S.take n).getLast?.getD 48 = S[n - 1] := by
            rw [List.getLast?_eq_getElem?, List.length_take, Nat.min_eq_left hn, List.getElem?_take_of_lt (by omega), List.getElem?_eq_getElem (by omega)]; rfl
          rw [this]
      unfold UpP
      generalize 10 ^ (S.length - n - 1) = P at *
      generalize digVal (S.drop (n + 1)) = R at *
      have hPP : 0 < P := by omega
      constructor
      · rintro ⟨_, h5, h⟩
        rw [hex, hlast] at h
        rcases h with h | h | h
        · left
          have h6 : 6 * P ≤ ((S[n]).toNat - 48) * P := Nat.mul_le_mul_right _ (by omega)
          omega
        · left
          have h6 : 5 * P ≤ ((S[n]).toNat - 48) * P := Nat.mul_le_mul_right _ (by omega)
          omega
        · have h6 : 5 * P ≤ ((S[n]).toNat - 48) * P := Nat.mul_le_mul_right _ (by omega)
          rcases Nat.lt_or_ge (10 * P) (2 * (((S[n]).toNat - 48) * P + R)) with h7 | h7
          · exact .inl h7
          · exact .inr ⟨by omega, h⟩
      · intro h
        have h5 : 53 ≤ (S[n]).toNat := by
          rcases Nat.lt_or_ge (S[n]).toNat 53 with h5 | h5
          · exfalso
            have h6 : ((S[n]).toNat - 48) * P ≤ 4 * P := Nat.mul_le_mul_right _ (by omega)
            omega
          · exact h5
        refine ⟨hlt, h5, ?_⟩
        rw [hex, hlast]
        rcases Nat.lt_or_ge 53 (S[n]).toNat with h6 | h6
        · exact .inl h6
        · have h7 : (S[n]).toNat - 48 = 5 := by omega
          rw [h7] at h
          rcases h with h | ⟨_, h⟩
          · exact .inr (.inl (by omega))
          · exact .inr (.inr h)
    rw [hU]
    constructor
    · intro h
      unfold rnd
      rw [if_pos h, q1]
    · intro h
      unfold rnd
      rw [if_neg h, q1]
  · have hnl : n = S.length := by omega
    have hno : ¬ UpP S n := fun ⟨h, _⟩ => by omega
    refine ⟨fun h => absurd h hno, fun _ => ?_⟩
    rw [hnl, Nat.sub_self, Nat.pow_zero, List.take_length]
    unfold rnd
    rw [if_neg (by omega), Nat.div_one]
end Go.Proofs.YtcmpdamfeoaapaaGreatDoor
