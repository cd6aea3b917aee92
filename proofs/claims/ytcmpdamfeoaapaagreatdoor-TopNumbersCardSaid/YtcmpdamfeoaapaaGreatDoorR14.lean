/- Plain: the document's way to write a float (all digits, then cut) comes to what Fixed and Sci write. -/
import Derived.Test.YtcmpdamfeoaapaaGreatDoorM4
namespace Go.Proofs.YtcmpdamfeoaapaaGreatDoor
open Go.RowKit
set_option linter.unusedVariables false

theorem digits_append {a b : List UInt8} (ha : Digits a) (hb : Digits b) : Digits (a ++ b) := fun c hc => (List.mem_append.1 hc).elim (ha c) (hb c)
theorem digits_take {l : List UInt8} (h : Digits l) (k : Nat) : Digits (l.take k) := fun c hc => h c (List.mem_of_mem_take hc)
theorem digits_drop {l : List UInt8} (h : Digits l) (k : Nat) : Digits (l.drop k) := fun c hc => h c (List.mem_of_mem_drop hc)
theorem digits_zeros (k : Nat) : Digits (List.replicate k 48) := fun c hc => by rw [List.eq_of_mem_replicate hc]; decide
/-- the digits' parts are the number's -/
theorem digVal_split (l : List UInt8) (h : Digits l) (k : Nat) : digVal (l.take k) = digVal l / 10 ^ (l.drop k).length ∧ digVal (l.drop k) = digVal l % 10 ^ (l.drop k).length := by
  have e := digVal_app (l.take k) (l.drop k)
  rw [List.take_append_drop] at e
  have h2 := digVal_lt (digits_drop h k)
  generalize 10 ^ (l.drop k).length = P at *
  rw [e]
  constructor
  · rw [Nat.add_comm, Nat.add_mul_div_right _ _ (by omega), Nat.div_eq_of_lt h2]; omega
  · rw [Nat.add_comm, Nat.add_mul_mod_self_right, Nat.mod_eq_of_lt h2]
theorem digVal_zeros' (k : Nat) (l : List UInt8) : digVal (List.replicate k 48 ++ l) = digVal l := by rw [digVal_app, digVal_noughts]; omega
/-- without the noughts ahead, but for the last place -/
def stripL : List UInt8 → List UInt8
  | [] => []
  | [c] => [c]
  | c :: d :: l => if c = 48 then stripL (d :: l) else c :: d :: l
theorem strip_canon {l : List UInt8} (h : Digits l) (hne : l ≠ []) : Canon (stripL l) (digVal l) := by
  induction l with
  | nil => exact absurd rfl hne
  | cons c l ih =>
    cases l with
    | nil => exact ⟨by simp [stripL], by simpa [stripL] using h, by simp [stripL], by intro a r e _; simp [stripL] at e; exact e.2⟩
    | cons d l =>
      unfold stripL
      by_cases hc : c = 48
      · rw [if_pos hc]
        have h1 := ih (fun x hx => h x (by simp at hx ⊢; right; exact hx)) (by simp)
        have e : digVal (c :: d :: l) = digVal (d :: l) := by rw [digVal_cons, hc]; simp
        rw [e]; exact h1
      · rw [if_neg hc]
        refine ⟨by simp, h, rfl, fun a r e ha => ?_⟩
        injection e with e1 e2
        exact absurd (UInt8.toNat_inj.1 (by rw [e1, ha]; rfl)) hc
/-- what Fixed writes, by its two parts -/
theorem fixedL_char {l W F : List UInt8} {N p : Nat} (hl : Canon l N) (hW : Canon W (N / 10 ^ p)) (hF : Digits F) (hFl : F.length = p) (hFv : digVal F = N % 10 ^ p) :
    fixedL l p = if 0 < p then W ++ 46 :: F else W := by
  obtain ⟨q, hq⟩ : ∃ q, q = if l.length ≤ p then List.replicate (p + 1 - l.length) 48 ++ l else l := ⟨_, rfl⟩
  have e : fixedL l p = if 0 < p then q.take (q.length - p) ++ 46 :: q.drop (q.length - p) else q := by rw [hq]; rfl
  have hqd : Digits q := by rw [hq]; split; exact digits_append (digits_zeros _) hl.dig; exact hl.dig
  have hqv : digVal q = N := by rw [hq]; split; rw [digVal_zeros', hl.val]; exact hl.val
  have hqlen : p < q.length := by
    rw [hq]; split
    · rw [List.length_append, List.length_replicate]; omega
    · omega
  have hdl : (q.drop (q.length - p)).length = p := by simp; omega
  obtain ⟨s1, s2⟩ := digVal_split q hqd (q.length - p)
  rw [hdl, hqv] at s1 s2
  have e2 : q.drop (q.length - p) = F := digits_unique _ _ (digits_drop hqd _) hF (by rw [hdl, hFl]) (by rw [s2, hFv])
  have hc : Canon (q.take (q.length - p)) (N / 10 ^ p) := by
    refine ⟨?_, digits_take hqd _, s1, ?_⟩
    · intro h0; have := congrArg List.length h0; simp at this; omega
    · intro c r hcr hc48
      by_cases h : l.length ≤ p
      · have hz : q.length - p = 1 := by rw [hq, if_pos h, List.length_append, List.length_replicate]; omega
        rw [hz] at hcr
        have := congrArg List.length hcr
        simp at this
        exact List.eq_nil_of_length_eq_zero (by omega)
      · rw [if_neg h] at hq
        have hh : ∃ r', q = c :: r' := by
          cases hqq : q with
          | nil => rw [hqq] at hqlen; simp at hqlen
          | cons a t =>
            rw [hqq] at hcr
            obtain ⟨k, hk⟩ : ∃ k, (a :: t).length - p = k + 1 := ⟨(a :: t).length - p - 1, by rw [hqq] at hqlen; omega⟩
            rw [hk, List.take_succ_cons] at hcr
            injection hcr with h1 h2
            exact ⟨t, by rw [h1]⟩
        obtain ⟨r', hr'⟩ := hh
        have := hl.top c r' (by rw [← hq]; exact hr') hc48
        subst this
        rw [hr'] at hqlen hcr
        have hp : p = 0 := by simp at hqlen; omega
        subst hp
        simp at hcr
        exact hcr
  have e1 : q.take (q.length - p) = W := canon_unique hc hW
  rw [e]
  by_cases hp : 0 < p
  · rw [if_pos hp, if_pos hp, e1, e2]
  · rw [if_neg hp, if_neg hp]
    rw [← e1]
    rw [show q.length - p = q.length by omega, List.take_length]
/-- the number of digits behind the point that a float has in all -/
def exD (b : Nat) : Nat := (-(expo b)).toNat
/-- the float as a whole number of units of its last digit -/
def exN (b : Nat) : Nat := mant b * 2 ^ (expo b).toNat * 5 ^ exD b
/-- the float's digits, all of them -/
structure Exact (b : Nat) (W F : List UInt8) : Prop where
  whole : Canon W (exN b / 10 ^ exD b)
  dig : Digits F
  len : F.length = exD b
  val : digVal F = exN b % 10 ^ exD b
theorem Exact.all {b : Nat} {W F : List UInt8} (h : Exact b W F) : digVal (W ++ F) = exN b := by
  rw [digVal_app, h.whole.val, h.len, h.val, Nat.mul_comm]
  exact Nat.div_add_mod _ _
/-- what Cut answers -/
structure CutOk (s : List UInt8) (n : Nat) (out : List UInt8) : Prop where
  dig : Digits out
  val : digVal out = rnd (digVal s * 10 ^ (n - s.length)) (10 ^ (s.length - n))
  len : out.length = n ∨ (out.length = n + 1 ∧ 10 ^ n ≤ digVal out)
theorem p10_pos (k : Nat) : 0 < 10 ^ k := Nat.pow_pos (by decide)
/-- the rounded number is the float's -/
theorem cut_scaled (b L n : Nat) (p : Int) (h : (n : Int) - L = p - exD b) : rnd (exN b * 10 ^ (n - L)) (10 ^ (L - n)) = scaledN b p := by
  unfold scaledN
  refine rnd_same (p10_pos _) (Nat.mul_pos (p10_pos _) (pow2_pos _)) ?_
  unfold exN
  have e1 : (10 : Nat) ^ (n - L) * 10 ^ (-p).toNat * 10 ^ exD b = 10 ^ p.toNat * 10 ^ (L - n) := by
    rw [← Nat.pow_add, ← Nat.pow_add, ← Nat.pow_add]; congr 1; omega
  have e2 : (10 : Nat) ^ exD b = 5 ^ exD b * 2 ^ exD b := by rw [← Nat.mul_pow]
  rw [e2] at e1
  show mant b * 2 ^ (expo b).toNat * 5 ^ exD b * 10 ^ (n - L) * (10 ^ (-p).toNat * 2 ^ exD b) = _
  calc mant b * 2 ^ (expo b).toNat * 5 ^ exD b * 10 ^ (n - L) * (10 ^ (-p).toNat * 2 ^ exD b)
      = mant b * 2 ^ (expo b).toNat * (10 ^ (n - L) * 10 ^ (-p).toNat * (5 ^ exD b * 2 ^ exD b)) := by ac_rfl
    _ = mant b * 10 ^ p.toNat * 2 ^ (expo b).toNat * 10 ^ (L - n) := by rw [e1]; ac_rfl
/-- Fixed, by the document's way -/
theorem ref_fixed {b p : Nat} {W F s l : List UInt8} (h : Exact b W F) (hs : CutOk (48 :: (W ++ F)) (1 + W.length + p) s) (hl : Canon l (scaledN b p)) :
    s.length = 1 + W.length + p ∧ fixedL l p = if 0 < p then stripL (s.take (1 + W.length)) ++ 46 :: s.drop (1 + W.length) else stripL (s.take (1 + W.length)) := by
  have hv0 : digVal (48 :: (W ++ F)) = exN b := by rw [digVal_cons, h.all]; simp
  have hv := hs.val
  rw [hv0, cut_scaled b _ _ p (by simp [h.len]; omega)] at hv
  have hlen : s.length = 1 + W.length + p := by
    rcases hs.len with h1 | ⟨_, h1⟩
    · exact h1
    · exfalso
      have h2 : exN b < 10 ^ W.length * 10 ^ exD b := by
        have := digVal_lt h.whole.dig
        rw [h.whole.val, Nat.div_lt_iff_lt_mul (p10_pos _)] at this
        exact this
      have h3 : rnd (exN b * 10 ^ (1 + W.length + p - (1 + W.length + exD b))) (10 ^ (1 + W.length + exD b - (1 + W.length + p))) ≤ 10 ^ (W.length + p) := by
        refine rnd_le_of (p10_pos _) ?_
        refine Nat.le_trans (Nat.mul_le_mul_right _ (Nat.le_of_lt h2)) (Nat.le_of_eq ?_)
        rw [← Nat.pow_add, ← Nat.pow_add, ← Nat.pow_add]; congr 1; omega
      rw [cut_scaled b _ _ p (by omega)] at h3
      rw [hv] at h1
      have h4 : (10 : Nat) ^ (W.length + p) < 10 ^ (1 + W.length + p) := Nat.pow_lt_pow_right (by decide) (by omega)
      omega
  refine ⟨hlen, ?_⟩
  have hdl : (s.drop (1 + W.length)).length = p := by simp; omega
  obtain ⟨s1, s2⟩ := digVal_split s hs.dig (1 + W.length)
  rw [hdl, hv] at s1 s2
  refine fixedL_char hl ?_ (digits_drop hs.dig _) hdl s2
  rw [← s1]
  refine strip_canon (digits_take hs.dig _) ?_
  intro h0
  have h5 : (s.take (1 + W.length)).length = 0 := by rw [h0]; rfl
  rw [List.length_take] at h5
  omega
/-- nought, by the document's way -/
theorem ref_zero {p : Nat} {out : List UInt8} (h : CutOk [48] (p + 1) out) : out = List.replicate (p + 1) 48 := by
  have hv : digVal out = 0 := by
    rw [h.val, show digVal [48] = 0 by decide, Nat.zero_mul]
    have := rnd_le_of (p10_pos ([48].length - (p + 1))) (show 0 ≤ 0 * 10 ^ ([48].length - (p + 1)) by omega)
    simpa using this
  refine digits_unique _ _ h.dig (digits_zeros _) ?_ (by rw [hv, digVal_noughts])
  rcases h.len with h1 | ⟨_, h1⟩
  · simpa using h1
  · rw [hv] at h1; have := p10_pos (p + 1); omega
theorem digVal_low {l : List UInt8} (h : Digits l) (hh : ∃ c r, l = c :: r ∧ c ≠ 48) : 10 ^ (l.length - 1) ≤ digVal l := by
  obtain ⟨c, r, rfl, hc⟩ := hh
  rw [digVal_cons]
  have h1 := h c (by simp)
  have h2 : c.toNat ≠ 48 := fun e => hc (UInt8.toNat_inj.1 e)
  have h3 : 1 * 10 ^ r.length ≤ (c.toNat - 48) * 10 ^ r.length := Nat.mul_le_mul_right _ (by omega)
  simp at h3 ⊢
  omega
theorem canon_of_low {l : List UInt8} {k N : Nat} (h : Digits l) (hl : l.length = k + 1) (hv : digVal l = N) (hN : 10 ^ k ≤ N) : Canon l N := by
  refine ⟨by intro h0; rw [h0] at hl; simp at hl, h, hv, fun c r e hc => ?_⟩
  rw [e, digVal_cons, hc] at hv
  have h2 := digVal_lt (l := r) (fun x hx => h x (by rw [e]; simp [hx]))
  rw [e] at hl
  simp at hl hv
  rw [hl] at h2
  omega
/-- Sci, by the document's way -/
theorem ref_sci {b p : Nat} {s out : List UInt8} {x : Int} (hm : mant b ≠ 0) (hd : Digits s) (hh : ∃ c r, s = c :: r ∧ c ≠ 48) (hv : digVal s = exN b) (hx : (s.length : Int) = x + 1 + exD b) (hs : CutOk s (p + 1) out) :
    (out.length = p + 1 → sciD b p = out ∧ sciE b p = x) ∧ (out.length ≠ p + 1 → out.length = p + 2 ∧ sciD b p = out.take (p + 1) ∧ sciE b p = x + 1) := by
  have hlo := digVal_low hd hh
  have hhi := digVal_lt hd
  rw [hv] at hlo hhi
  have hN := hs.val
  rw [hv, cut_scaled b _ _ ((p : Int) - x) (by omega)] at hN
  have hge : GeT (mant b * 2 ^ (expo b).toNat) (2 ^ (-(expo b)).toNat) ((p : Int) - x) (10 ^ p) := by
    have h1 : (10 : Nat) ^ (s.length - 1) * 10 ^ ((p : Int) - x).toNat ≤ exN b * 10 ^ ((p : Int) - x).toNat := Nat.mul_le_mul_right _ hlo
    have hL : 1 ≤ s.length := by obtain ⟨c, r, e, _⟩ := hh; rw [e]; simp
    rw [← Nat.pow_add] at h1
    have e1 : s.length - 1 + ((p : Int) - x).toNat = p + (-((p : Int) - x)).toNat + exD b := by omega
    rw [e1, Nat.pow_add, Nat.pow_add] at h1
    have e2 : (10 : Nat) ^ exD b = 5 ^ exD b * 2 ^ exD b := by rw [← Nat.mul_pow]
    unfold exN at h1
    rw [e2] at h1
    have h5 : 0 < 5 ^ exD b := Nat.pow_pos (by decide)
    unfold GeT
    refine Nat.le_of_mul_le_mul_right (c := 5 ^ exD b) ?_ h5
    calc 10 ^ p * (10 ^ (-((p : Int) - x)).toNat * 2 ^ exD b) * 5 ^ exD b = 10 ^ p * 10 ^ (-((p : Int) - x)).toNat * (5 ^ exD b * 2 ^ exD b) := by ac_rfl
      _ ≤ mant b * 2 ^ (expo b).toNat * 5 ^ exD b * 10 ^ ((p : Int) - x).toNat := h1
      _ = mant b * 2 ^ (expo b).toNat * 10 ^ ((p : Int) - x).toNat * 5 ^ exD b := by ac_rfl
  have hlt : ∀ (k : Int) (j : Nat), (s.length : Int) + k ≤ j + exD b → scaledN b k ≤ 10 ^ j := by
    intro k j hk
    have e3 := cut_scaled b (k.toNat + exD b - k.toNat + (-k).toNat) (k.toNat) k (by omega)
    rw [← e3]
    refine rnd_le_of (p10_pos _) (Nat.le_trans (Nat.mul_le_mul_right _ (Nat.le_of_lt hhi)) ?_)
    rw [← Nat.pow_add, ← Nat.pow_add]
    exact Nat.pow_le_pow_right (by decide) (by omega)
  refine ⟨fun hl => ?_, fun hl => ?_⟩
  · have h1 : SciAt b p x := by
      refine ⟨?_, ?_, x, Int.le_refl _, hge, fun y h1 h2 => by omega⟩
      · rw [scaled_rat]; exact ratN_ge (pow2_pos _) hge
      · rw [← hN, ← hl]; exact digVal_lt hs.dig
    have e1 : sciE b p = x := by unfold sciE; rw [if_neg hm, sciX_eq h1]
    have e2 : sciD b p = out := by
      unfold sciD
      rw [if_neg hm, sciX_eq h1]
      exact dl_eq (canon_of_low hs.dig hl hN h1.ge)
    exact ⟨e2, e1⟩
  · obtain ⟨hl2, hbig⟩ := hs.len.resolve_left hl
    rw [hN] at hbig
    have hup := hlt ((p : Int) - x) (p + 1) (by omega)
    have heq : scaledN b ((p : Int) - x) = 10 ^ (p + 1) := by omega
    have hup2 := hlt ((p : Int) - (x + 1)) p (by omega)
    have hdn : 10 ^ p ≤ scaledN b ((p : Int) - (x + 1)) := by
      rw [scaled_rat]
      refine sci_down (pow2_pos _) (.inr ?_)
      rw [← scaled_rat, show (p : Int) - (x + 1) + 1 = p - x by omega]
      omega
    have heq2 : scaledN b ((p : Int) - (x + 1)) = 10 ^ p := by omega
    have h1 : SciAt b p (x + 1) := by
      refine ⟨by omega, ?_, x, by omega, hge, fun y h1 h2 => ?_⟩
      · rw [heq2]; exact Nat.pow_lt_pow_right (by decide) (by omega)
      · rw [show y = x by omega]; omega
    have e1 : sciE b p = x + 1 := by unfold sciE; rw [if_neg hm, sciX_eq h1]
    refine ⟨hl2, ?_, e1⟩
    unfold sciD
    rw [if_neg hm, sciX_eq h1, heq2]
    obtain ⟨s1, s2⟩ := digVal_split out hs.dig (p + 1)
    have hdl : (out.drop (p + 1)).length = 1 := by simp; omega
    rw [hdl, hN, heq, Nat.pow_succ, Nat.pow_one, Nat.mul_div_cancel _ (by decide)] at s1
    exact dl_eq (canon_of_low (digits_take hs.dig _) (by simp; omega) s1 (Nat.le_refl _))
end Go.Proofs.YtcmpdamfeoaapaaGreatDoor
