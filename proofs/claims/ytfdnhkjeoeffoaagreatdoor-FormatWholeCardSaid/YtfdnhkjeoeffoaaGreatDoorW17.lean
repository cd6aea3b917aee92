/- Plain: whole numbers as floats, their digits in a base, and what digits write. -/
import Derived.Test.YtfdnhkjeoeffoaaGreatDoorW16
import Derived.Test.YtfdnhkjeoeffoaaGreatDoorR19
namespace Go.Proofs.YtfdnhkjeoeffoaaGreatDoor
open Go.RowKit
set_option linter.unusedVariables false

/-- what digits of a base write -/
def dvC (c : UInt8) : Nat := if 97 ≤ c.toNat then c.toNat - 97 + 10 else c.toNat - 48
def valB (B : Nat) (l : List UInt8) : Nat := l.foldl (fun n c => n * B + dvC c) 0
theorem valB_snoc (B : Nat) (l : List UInt8) (c : UInt8) : valB B (l ++ [c]) = valB B l * B + dvC c := by simp [valB]
theorem valB_zeros (B k : Nat) (l : List UInt8) : valB B (List.replicate k 48 ++ l) = valB B l := by
  induction k with
  | zero => simp
  | succ k ih =>
    rw [List.replicate_succ, List.cons_append]
    unfold valB at *
    rw [List.foldl_cons]
    have : (fun (n : Nat) (c : UInt8) => n * B + dvC c) 0 48 = 0 := by simp [dvC]
    rw [show (0 * B + dvC 48) = 0 by simp [dvC]]
    exact ih
theorem valB_mono {B : Nat} (hB : 1 ≤ B) : ∀ (l : List UInt8) (k : Nat), valB B (l.take k) ≤ valB B l := by
  intro l k
  rcases Nat.lt_or_ge k l.length with h | h
  · induction hd : l.length - k generalizing k with
    | zero => omega
    | succ d ih =>
      have e := List.take_succ_eq_append_getElem h
      rcases Nat.lt_or_ge (k + 1) l.length with h2 | h2
      · refine Nat.le_trans ?_ (ih (k + 1) h2 (by omega))
        rw [e, valB_snoc]
        exact Nat.le_trans (Nat.le_mul_of_pos_right _ hB) (Nat.le_add_right _ _)
      · have h3 := List.take_of_length_le h2
        rw [← h3, List.take_take, Nat.min_eq_left (by omega), e, valB_snoc]
        exact Nat.le_trans (Nat.le_mul_of_pos_right _ hB) (Nat.le_add_right _ _)
  · rw [List.take_of_length_le h]
    exact Nat.le_refl _
theorem valB_digits : ∀ (k : Nat) (l : List UInt8), l.length = k → Digits l → valB 10 l = digVal l
  | 0, l, hl, h => by rw [List.length_eq_zero_iff.1 hl]; rfl
  | k + 1, l, hl, h => by
    have hne : l ≠ [] := fun h0 => by rw [h0] at hl; cases hl
    have e := (List.dropLast_concat_getLast hne).symm
    have hd := h (l.getLast hne) (List.getLast_mem hne)
    rw [e, valB_snoc, digVal_snoc, valB_digits k l.dropLast (by rw [List.length_dropLast]; omega) (fun c hc => h c (List.dropLast_subset l hc))]
    unfold dvC
    rw [if_neg (by omega)]
    omega
theorem dvC_all : ((List.range 16).all fun k => dvC (UInt8.ofNat (ch hexB k)) == k) = true := by kernel_rfl
theorem valB_base {B : Nat} (hB : 2 ≤ B) (hB2 : B ≤ 16) : ∀ (f n : Nat), n ≤ f → valB B (baseD B n) = n := by
  intro f
  induction f with
  | zero => intro n h; obtain rfl : n = 0 := by omega
            rfl
  | succ f ih =>
    intro n h
    by_cases h0 : n = 0
    · subst h0; rfl
    · have hlt : n / B < n := Nat.div_lt_self (by omega) (by omega)
      have h5 : n % B < 16 := Nat.lt_of_lt_of_le (Nat.mod_lt _ (by omega)) hB2
      have h6 := List.all_eq_true.1 dvC_all (n % B) (List.mem_range.2 h5)
      rw [beq_iff_eq] at h6
      have e : baseD B n = baseD B (n / B) ++ [UInt8.ofNat (ch hexB (n % B))] := by
        unfold baseD
        rw [baseN_step hB h0, List.map_append]; rfl
      rw [e, valB_snoc, ih (n / B) (by omega), h6, Nat.mul_comm]
      exact Nat.div_add_mod n B
/-- are these digits of a base? -/
def DigB (l : List UInt8) : Prop := ∀ c ∈ l, 48 ≤ c.toNat ∧ (c.toNat ≤ 57 ∨ (97 ≤ c.toNat ∧ c.toNat ≤ 102))
theorem DigB.of {l : List UInt8} (h : Digits l) : DigB l := fun c hc => by have := h c hc; omega
theorem DigB.app {a b : List UInt8} (h : DigB a) (k : DigB b) : DigB (a ++ b) := fun c hc => (List.mem_append.1 hc).elim (h c) (k c)
theorem DigB.zeros (k : Nat) : DigB (List.replicate k 48) := fun c hc => by rw [List.eq_of_mem_replicate hc]; decide
theorem hexB_dig : ((List.range 16).all fun k => decide (48 ≤ (UInt8.ofNat (ch hexB k)).toNat) && (decide ((UInt8.ofNat (ch hexB k)).toNat ≤ 57) || (decide (97 ≤ (UInt8.ofNat (ch hexB k)).toNat) && decide ((UInt8.ofNat (ch hexB k)).toNat ≤ 102)))) = true := by kernel_rfl
theorem baseD_dig {B : Nat} (hB : 2 ≤ B) (hB2 : B ≤ 16) : ∀ (f n : Nat), n ≤ f → DigB (baseD B n) := by
  intro f
  induction f with
  | zero => intro n h; obtain rfl : n = 0 := by omega
            exact fun c hc => by cases hc
  | succ f ih =>
    intro n h
    by_cases h0 : n = 0
    · subst h0; exact fun c hc => by cases hc
    · have hlt : n / B < n := Nat.div_lt_self (by omega) (by omega)
      have h5 : n % B < 16 := Nat.lt_of_lt_of_le (Nat.mod_lt _ (by omega)) hB2
      have h6 := List.all_eq_true.1 hexB_dig (n % B) (List.mem_range.2 h5)
      simp only [Bool.and_eq_true, Bool.or_eq_true, decide_eq_true_iff] at h6
      have e : baseD B n = baseD B (n / B) ++ [UInt8.ofNat (ch hexB (n % B))] := by
        unfold baseD
        rw [baseN_step hB h0, List.map_append]; rfl
      rw [e]
      refine (ih (n / B) (by omega)).app fun c hc => ?_
      rw [List.mem_singleton] at hc
      subst hc
      exact h6
/-- a whole number below 2^53 as a float -/
theorem ofN_parts {n : Nat} (h : n < 9007199254740992) : fin (ofN n) = true ∧ truncB (ofN n) = ofN n ∧ wholeN (ofN n) = n ∧ wholeS (ofN n) = false := by
  obtain ⟨h1, h2⟩ := ofN_fin h
  have hf : fin (ofN n) = true := (fin_lt_inf (by omega)).2 h1
  obtain ⟨m1, m2, m3⟩ := mant_mof h1
  have ht : truncB (ofN n) = ofN n := by
    unfold truncB
    split
    · rfl
    · rename_i hc
      have hx : ¬ 0 ≤ expo (ofN n) := fun hh => hc (.inr hh)
      have hd : ofN n / 9223372036854775808 = 0 := Nat.div_eq_of_lt (by omega)
      rw [hd, Nat.zero_mul, Nat.add_zero]
      have e : mant (ofN n) / 2 ^ (-(expo (ofN n))).toNat = n := by
        refine Nat.div_eq_of_eq_mul_left (pow2_pos _) ?_
        rw [m1]
        unfold vl at h2
        rw [← m2] at h2
        refine Nat.eq_of_mul_eq_mul_right (pow2_pos (expo (ofN n) + 1074).toNat) ?_
        rw [h2]
        have := pow2_int m3
        have e0 : (expo (ofN n)).toNat = 0 := by omega
        rw [e0, Nat.pow_zero, Nat.mul_one] at this
        rw [Nat.mul_assoc, this]
      rw [e]
      rfl
  refine ⟨hf, ht, ?_, ?_⟩
  · unfold wholeN
    rw [ht]
    have := scaledN_whole (n := n) 0 h1 h2
    rw [Nat.pow_zero, Nat.mul_one] at this
    exact this
  · unfold wholeS
    rw [ht, order_fin h1 (by decide)]
    have : compare (ofN n) 0 ≠ .lt := by
      intro hc
      have := Nat.compare_eq_lt.1 hc
      omega
    generalize compare (ofN n) 0 = o at *
    cases o
    · exact absurd rfl this
    · rfl
    · rfl
theorem scaledN_mod (b : Nat) (k : Int) : scaledN (b % 9223372036854775808) k = scaledN b k := by
  obtain ⟨h1, h2, h3⟩ := mant_mod b
  unfold scaledN
  rw [h1, h2]
theorem neg_parts {n : Nat} (h : n < 9007199254740992) : fin (ofN n + 9223372036854775808) = true ∧ wholeN (ofN n + 9223372036854775808) = n ∧ wholeS (ofN n + 9223372036854775808) = decide (0 < n) := by
  obtain ⟨h1, h2⟩ := ofN_fin h
  obtain ⟨f1, t1, w1, s1⟩ := ofN_parts h
  have hm : (ofN n + 9223372036854775808) % 9223372036854775808 = ofN n := by rw [Nat.add_mod_right]; exact Nat.mod_eq_of_lt (by omega)
  have hd : (ofN n + 9223372036854775808) / 9223372036854775808 = 1 := by omega
  obtain ⟨m1, m2, m3⟩ := mant_mod (ofN n + 9223372036854775808)
  rw [hm] at m1 m2 m3
  have ht : truncB (ofN n + 9223372036854775808) = ofN n + 9223372036854775808 := by
    have h5 := t1
    unfold truncB at h5 ⊢
    rw [← m1, ← m2, ← m3, hd]
    split
    · rfl
    · rename_i hc
      rw [if_neg hc, Nat.div_eq_of_lt (show ofN n < 9223372036854775808 by omega), Nat.zero_mul, Nat.add_zero] at h5
      rw [h5, Nat.one_mul]
  refine ⟨by rw [← m3]; exact f1, ?_, ?_⟩
  · have h6 := w1
    unfold wholeN at h6 ⊢
    rw [t1] at h6
    rw [ht, ← scaledN_mod, hm, h6]
  · unfold wholeS
    rw [ht]
    have hr : FloatKind.f64.format.order (ofN n + 9223372036854775808) 0 = some (compare (sv (ofN n + 9223372036854775808)) (sv 0)) := order_sv (by omega) (by decide) (by omega) (by decide)
    rw [hr]
    have s0 : sv 0 = 0 := by unfold sv; rw [if_pos (by decide)]; rw [show (0 : Nat) % 9223372036854775808 = 0 by decide, vl_none]; rfl
    have s9 : sv (ofN n + 9223372036854775808) = -((n * kk : Nat) : Int) := by unfold sv; rw [if_neg (by omega), hm, h2]
    rw [s0, s9]
    have hq : (0 < n → 0 < n * kk) ∧ (n = 0 → n * kk = 0) := ⟨fun h => Nat.mul_pos h kk_pos, fun h => by rw [h, Nat.zero_mul]⟩
    generalize n * kk = q at hq ⊢
    clear h1 h2 f1 t1 w1 s1 hm hd m1 m2 m3 ht hr s0 s9 h
    by_cases hn : 0 < n
    · rw [decide_eq_true hn]
      have h0 := hq.1 hn
      rw [Int.compare_eq_lt.2 (by omega)]
      rfl
    · have h0 := hq.2 (by omega)
      rw [decide_eq_false hn, h0]
      rfl
end Go.Proofs.YtfdnhkjeoeffoaaGreatDoor
