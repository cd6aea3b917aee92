/- Plain: whole numbers' digits with blanks around them; which numbers are not whole. -/
import Derived.Test.YtcmpdamfeoaapaaGreatDoorK18
namespace Go.Proofs.YtcmpdamfeoaapaaGreatDoor
open Go.RowKit
set_option linter.unusedVariables false

theorem read_nan2 {b : Nat} (h : 9218868437227405312 < b % 9223372036854775808) : ∃ s f, FloatKind.f64.format.read b = .nan s f := by
  have e1 : FloatKind.f64.format.signWeight = 9223372036854775808 := by decide
  have e2 : FloatKind.f64.format.binade = 4503599627370496 := by decide
  have e3 : FloatKind.f64.format.infRung = 9218868437227405312 := by decide
  unfold Ieee.Format.read
  simp only [e1, e2, e3]
  generalize b % 9223372036854775808 = a at *
  rw [if_neg (by omega), if_neg (by omega), if_neg (by omega)]
  exact ⟨_, _, rfl⟩
theorem order_nan2 {b : Nat} (h : 9218868437227405312 < b % 9223372036854775808) : FloatKind.f64.format.order b b = none := by
  obtain ⟨s, f, e⟩ := read_nan2 h
  unfold Ieee.Format.order
  rw [e]
  rfl
theorem order_neg {a c : Nat} (ha : a ≤ 9218868437227405312) (hc : c < 9218868437227405312) (h : c ≤ a) :
    (FloatKind.f64.format.order (a + 9223372036854775808) (c + 9223372036854775808) == some .lt || FloatKind.f64.format.order (a + 9223372036854775808) (c + 9223372036854775808) == some .eq) = true := by
  rcases Nat.lt_or_ge a 9218868437227405312 with h1 | h1
  · have e : FloatKind.f64.format.order (a + 9223372036854775808) (c + 9223372036854775808) = some (compare (-(vl a : Int)) (-(vl c : Int))) := by
      unfold Ieee.Format.order
      rw [read_neg h1, read_neg hc, order_num]
      rfl
    have hv := vl_le h
    rw [e]
    rcases Nat.eq_or_lt_of_le hv with h2 | h2
    · rw [h2, Int.compare_eq_eq.2 rfl]; rfl
    · rw [Int.compare_eq_lt.2 (by omega)]; rfl
  · have ea : a = 9218868437227405312 := by omega
    subst ea
    have e : FloatKind.f64.format.order (9218868437227405312 + 9223372036854775808) (c + 9223372036854775808) = some .lt := by
      unfold Ieee.Format.order
      rw [read_neg hc, show FloatKind.f64.format.read (9218868437227405312 + 9223372036854775808) = .infinity true by kernel_rfl]
      rfl
    rw [e]; rfl
theorem whole_no_why {b : Nat} (hb : b < 18446744073709551616) (h : wholeOk b = false) (h1 : (FloatKind.f64.format.order b b != some .eq) = false)
    (h2 : (FloatKind.f64.format.order b 4846369599423283200 == some .gt || FloatKind.f64.format.order b 4846369599423283200 == some .eq) = false)
    (h3 : (FloatKind.f64.format.order b 14069741636278059008 == some .lt || FloatKind.f64.format.order b 14069741636278059008 == some .eq) = false) :
    (FloatKind.f64.format.order (truncB b) b != some .eq) = true := by
  have hinf : b % 9223372036854775808 ≤ 9218868437227405312 := by
    rcases Nat.lt_or_ge 9218868437227405312 (b % 9223372036854775808) with h4 | h4
    · rw [order_nan2 h4] at h1; cases h1
    · exact h4
  have ha : b % 9223372036854775808 < 4846369599423283200 := by
    rcases Nat.lt_or_ge (b % 9223372036854775808) 4846369599423283200 with h4 | h4
    · exact h4
    · exfalso
      rcases Nat.lt_or_ge b 9223372036854775808 with h5 | h5
      · rw [Nat.mod_eq_of_lt h5] at hinf h4
        rcases Nat.eq_or_lt_of_le h4 with h6 | h6
        · rw [← h6, order_eq (by decide)] at h2; cases h2
        · rw [order_gt hinf (by decide) h6] at h2; cases h2
      · obtain ⟨a, rfl⟩ : ∃ a, b = a + 9223372036854775808 := ⟨b - 9223372036854775808, by omega⟩
        have h6 : (a + 9223372036854775808) % 9223372036854775808 = a := by omega
        rw [h6] at hinf h4
        have h7 := order_neg hinf (c := 4846369599423283200) (by decide) h4
        rw [show 4846369599423283200 + 9223372036854775808 = 14069741636278059008 by decide, h3] at h7
        cases h7
  unfold wholeOk at h
  rw [decide_eq_true ha, Bool.true_and] at h
  unfold bne
  rw [h]; rfl

theorem whole_value {b : Nat} (hb : b < 18446744073709551616) (h : wholeOk b = true) : ∃ q, vl (b % 9223372036854775808) = q * kk ∧ scaledN b 0 = q ∧ q < 10 ^ 16 ∧ b % 9223372036854775808 < 9218868437227405312 := by
  unfold wholeOk at h
  rw [Bool.and_eq_true, decide_eq_true_eq] at h
  obtain ⟨h1, h2⟩ := h
  have ho : FloatKind.f64.format.order (truncB b) b = some .eq := by simpa using h2
  have hi : b % 9223372036854775808 < 9218868437227405312 := by omega
  have hf : fin b = true := by
    rw [← (mant_mod b).2.2]
    exact (fin_lt_inf (Nat.mod_lt _ (by decide))).2 hi
  have hex : ∃ q, vl (b % 9223372036854775808) = q * kk := by
    obtain ⟨v1, v2⟩ := vl_parts hf
    rcases Int.lt_or_le (expo b) 0 with h3 | h3
    · have ht : truncB b = FloatKind.f64.nearest ((mant b / 2 ^ (-(expo b)).toNat : Nat) : Int) + b / 9223372036854775808 * 9223372036854775808 := by
        unfold truncB
        rw [if_neg (by rw [hf]; simp; omega)]
      have hq : mant b / 2 ^ (-(expo b)).toNat < 9007199254740992 := Nat.lt_of_le_of_lt (Nat.div_le_self _ _) (mant_lt b)
      obtain ⟨w1, w2⟩ := whole_bits hq
      rw [ht] at ho
      have e : b = b % 9223372036854775808 + b / 9223372036854775808 * 9223372036854775808 := by omega
      have ho2 : FloatKind.f64.format.order (FloatKind.f64.nearest ((mant b / 2 ^ (-(expo b)).toNat : Nat) : Int) + b / 9223372036854775808 * 9223372036854775808) (b % 9223372036854775808 + b / 9223372036854775808 * 9223372036854775808) = some .eq := by rw [← e]; exact ho
      have hv := order_eq_sign w1 hi (by omega) ho2
      exact ⟨_, by rw [← hv]; exact w2⟩
    · refine ⟨mant b * 2 ^ (expo b).toNat, ?_⟩
      rw [← v1, Nat.mul_assoc]
      have h4 : (expo b + 1074).toNat = (expo b).toNat + bias := by
        have : bias = 1074 := rfl
        omega
      rw [h4, Nat.pow_add]
      rfl
  obtain ⟨q, hq⟩ := hex
  have hsc := scaledN_whole (B := b % 9223372036854775808) (n := q) 0 hi hq
  have he : scaledN b 0 = scaledN (b % 9223372036854775808) 0 := by
    unfold scaledN; rw [(mant_mod b).1, (mant_mod b).2.1]
  refine ⟨q, hq, ?_, ?_, hi⟩
  · rw [he]
    have h5 : scaledN (b % 9223372036854775808) ((0 : Nat) : Int) = q * 10 ^ 0 := hsc
    rw [Nat.pow_zero, Nat.mul_one] at h5
    exact h5
  · have h3 := vl_lt h1
    have h4 : vl 4846369599423283200 = 10 ^ 16 * kk := Nat.eq_of_beq_eq_true (by kernel_rfl)
    rw [hq, h4] at h3
    exact Nat.lt_of_mul_lt_mul_right h3

theorem numeral_stop {l tail : List UInt8} {n : Nat} (h : Canon l n) (ht : ∀ c r, tail = c :: r → digs.contains c = false ∧ c ≠ 46 ∧ c ≠ 101 ∧ c ≠ 69) : numeralL (l ++ tail) = (l, 0, l.length) := by
  have hlt : lead tail = [] := by
    cases tail with
    | nil => rfl
    | cons c r => unfold lead; rw [List.takeWhile_cons_of_neg (by rw [(ht c r rfl).1]; decide)]
  have hl : lead (l ++ tail) = l := by rw [lead_cat h.dig tail, hlt, List.append_nil]
  have hd : (l ++ tail).drop l.length = tail := by rw [List.drop_append_of_le_length (Nat.le_refl _), List.drop_length, List.nil_append]
  have hm : mantL (l ++ tail) = (l, 0, l.length) := by
    rw [mantL_plain (fun r hr => by rw [hl, hd] at hr; exact (ht 46 r hr).2.1 rfl), hl]
  have hx : expL tail = (0, 0) := by
    cases tail with
    | nil => rfl
    | cons c r =>
      have h2 := ht c r rfl
      unfold expL
      simp only
      rw [if_neg (by rintro (h3 | h3); exact h2.2.2.1 h3; exact h2.2.2.2 h3)]
  unfold numeralL
  rw [hm, if_neg h.ne]
  simp only
  rw [hd, hx]
  rfl
/-- a sign's bytes -/
def sgL (S : Bool) : List UInt8 := if S then [45] else []
theorem pref_gen {l tail ws : List UInt8} {n : Nat} (S : Bool) (h : Canon l n) (hw : ∀ c ∈ ws, wsL.contains c = true) (ht : ∀ c r, tail = c :: r → digs.contains c = false ∧ c ≠ 46 ∧ c ≠ 101 ∧ c ≠ 69) :
    prefN (ws ++ (sgL S ++ (l ++ tail))) = ws.length + (sgL S).length + l.length ∧ prefB (ws ++ (sgL S ++ (l ++ tail))) = if S then readN l 0 + 9223372036854775808 else readN l 0 := by
  have hl0 := List.length_pos_iff.2 h.ne
  have hu : unblank (ws ++ (sgL S ++ (l ++ tail))) = sgL S ++ (l ++ tail) := by
    have h1 : unblank (sgL S ++ (l ++ tail)) = sgL S ++ (l ++ tail) := by
      cases S
      · exact unblank_cat h tail
      · show unblank (45 :: (l ++ tail)) = _
        unfold unblank; rw [List.dropWhile_cons_of_neg (by decide)]
        rfl
    unfold unblank at h1 ⊢
    rw [List.dropWhile_append_of_pos hw, h1]
  have hs : signB (sgL S ++ (l ++ tail)) = ((sgL S).length, S) := by
    cases S
    · exact signB_cat h tail
    · rfl
  have hn := numeral_stop h ht
  have hc : coreL (ws ++ (sgL S ++ (l ++ tail))) = (l, 0, l.length) := by
    unfold coreL
    rw [hu, hs]
    simp only
    rw [List.drop_append_of_le_length (Nat.le_refl _), List.drop_length, List.nil_append, hn]
  refine ⟨?_, ?_⟩
  · unfold prefN
    rw [hc, if_neg (by simp only; omega), hu, hs]
    simp only [List.length_append]
    omega
  · have hM : prefM (ws ++ (sgL S ++ (l ++ tail))) = S := by unfold prefM; rw [hc, if_neg (by simp only; omega), hu, hs]
    have hV : prefV (ws ++ (sgL S ++ (l ++ tail))) = readN l 0 := by unfold prefV; rw [hc, if_neg (by simp only; omega)]
    unfold prefB
    rw [hM, hV]
theorem trimS_ws {l : List UInt8} (h : ∀ c ∈ l, wsL.contains c = true) : Lib.trimS l wsL = [] := by
  have h1 : Lib.trimRightS l wsL = [] := by
    unfold Lib.trimRightS
    rw [dw_all _ l.reverse (fun x hx => h x (by simpa using hx))]
    rfl
  unfold Lib.trimS
  rw [h1]; rfl
theorem trimS_ws_bad {l : List UInt8} (h : Lib.trimS l wsL = []) : ∀ c ∈ l, wsL.contains c = true := by
  unfold Lib.trimS Lib.trimLeftS at h
  have h1 := dw_nil _ _ h
  unfold Lib.trimRightS at h1
  have h2 : l.reverse.dropWhile (wsL.contains ·) = [] := by
    cases h3 : l.reverse.dropWhile (wsL.contains ·) with
    | nil => rfl
    | cons x r =>
      have h4 := dw_head _ _ _ _ h3
      rw [h3] at h1
      have h5 := h1 x (by simp)
      rw [h4] at h5; cases h5
  have h3 := dw_nil _ _ h2
  exact fun c hc => h3 c (by simpa using hc)
theorem looks_gen {l tail ws : List UInt8} {n : Nat} (S : Bool) (h : Canon l n) (hw : ∀ c ∈ ws, wsL.contains c = true) (ht : ∀ c r, tail = c :: r → digs.contains c = false ∧ c ≠ 46 ∧ c ≠ 101 ∧ c ≠ 69) :
    looksL (ws ++ (sgL S ++ (l ++ tail))) = (Lib.trimS tail wsL).isEmpty := by
  have hl0 := List.length_pos_iff.2 h.ne
  unfold looksL
  rw [(pref_gen S h hw ht).1, decide_eq_true (by omega), Bool.true_and]
  congr 2
  have e : ws ++ (sgL S ++ (l ++ tail)) = (ws ++ sgL S ++ l) ++ tail := by simp
  rw [e, List.drop_append_of_le_length (by simp; omega), List.drop_eq_nil_of_le (by simp; omega), List.nil_append]
end Go.Proofs.YtcmpdamfeoaapaaGreatDoor
