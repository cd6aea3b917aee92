/- Plain: floats by their values with a sign; a whole number as a float. -/
import Derived.Test.YtcmpdamfeoaapaaGreatDoorK7
namespace Go.Proofs.YtcmpdamfeoaapaaGreatDoor
open Go.RowKit
set_option linter.unusedVariables false

/-- a float's value over the least step, with its sign -/
def sv (b : Nat) : Int := if b / 9223372036854775808 = 0 then (vl (b % 9223372036854775808) : Int) else -(vl (b % 9223372036854775808) : Int)

theorem read_sv {b : Nat} (hb : b < 18446744073709551616) (hf : b % 9223372036854775808 < 9218868437227405312) :
    ∃ s : Bool, FloatKind.f64.format.read b = .number s (mof (b % 9223372036854775808)) ((jof (b % 9223372036854775808) : Int) - 1074) ∧ sv b = if s then -(vl (b % 9223372036854775808) : Int) else (vl (b % 9223372036854775808) : Int) := by
  rcases Nat.lt_or_ge b 9223372036854775808 with h | h
  · have e := Nat.mod_eq_of_lt h
    refine ⟨false, ?_, ?_⟩
    · rw [e] at hf ⊢; exact read_fin hf
    · unfold sv; rw [if_pos (Nat.div_eq_of_lt h)]; exact (if_neg (by decide)).symm
  · obtain ⟨a, rfl⟩ : ∃ a, b = a + 9223372036854775808 := ⟨b - 9223372036854775808, by omega⟩
    have e : (a + 9223372036854775808) % 9223372036854775808 = a := by omega
    refine ⟨true, ?_, ?_⟩
    · rw [e] at hf ⊢; exact read_neg hf
    · unfold sv; rw [if_neg (by omega)]; exact (if_pos (by decide)).symm
theorem order_sv {a c : Nat} (ha : a < 18446744073709551616) (hc : c < 18446744073709551616) (fa : a % 9223372036854775808 < 9218868437227405312) (fc : c % 9223372036854775808 < 9218868437227405312) :
    FloatKind.f64.format.order a c = some (compare (sv a) (sv c)) := by
  obtain ⟨s, h1, h2⟩ := read_sv ha fa
  obtain ⟨t, h3, h4⟩ := read_sv hc fc
  unfold Ieee.Format.order
  rw [h1, h3, order_num, h2, h4]
theorem order_sv_eq {a c : Nat} (ha : a < 18446744073709551616) (hc : c < 18446744073709551616) (fa : a % 9223372036854775808 < 9218868437227405312) (fc : c % 9223372036854775808 < 9218868437227405312) (h : sv a = sv c) :
    FloatKind.f64.format.order a c = some .eq := by
  rw [order_sv ha hc fa fc, h, Int.compare_eq_eq.2 rfl]

theorem nearest_neg (m : Nat) (p : Int) : FloatKind.f64.format.nearest true m p = FloatKind.f64.format.nearest false m p + 9223372036854775808 := by
  have e1 : FloatKind.f64.format.signWeight = 9223372036854775808 := by decide
  have hc : ∀ n d, Ieee.Toward.even.cut true n d = Ieee.Toward.even.cut false n d := fun _ _ => rfl
  unfold Ieee.Format.nearest
  unfold Ieee.Format.word
  rw [e1]
  by_cases hm : m = 0
  · rw [if_pos hm, if_pos hm]; rfl
  · rw [if_neg hm, if_neg hm]
    simp only [hc]
    simp [Nat.add_comm]
theorem nearest_int (n : Int) : FloatKind.f64.nearest n = FloatKind.f64.nearest (n.natAbs : Int) + if n < 0 then 9223372036854775808 else 0 := by
  have e : ∀ k : Int, FloatKind.f64.nearest k = FloatKind.f64.format.nearest (decide (k < 0)) k.natAbs 0 := fun _ => rfl
  rw [e, e]
  have h2 : (decide ((n.natAbs : Int) < 0)) = false := decide_eq_false (by omega)
  rw [h2, Int.natAbs_natCast]
  by_cases h : n < 0
  · rw [decide_eq_true h, nearest_neg, if_pos h]
  · rw [decide_eq_false h, if_neg h]; rfl
theorem nearest_sv {n : Int} (h : n.natAbs < 9007199254740992) : FloatKind.f64.nearest n < 18446744073709551616 ∧ FloatKind.f64.nearest n % 9223372036854775808 < 9218868437227405312 ∧ sv (FloatKind.f64.nearest n) = n * (kk : Int) := by
  obtain ⟨h1, h2⟩ := whole_bits h
  rw [nearest_int]
  change vl _ = _ at h2
  generalize FloatKind.f64.nearest (n.natAbs : Int) = B at *
  by_cases hn : n < 0
  · rw [if_pos hn]
    refine ⟨by omega, by omega, ?_⟩
    unfold sv
    rw [if_neg (by omega), Nat.add_mod_right, Nat.mod_eq_of_lt (by omega), h2, Int.natCast_mul, ← Int.neg_mul]
    congr 1
    omega
  · rw [if_neg hn, Nat.add_zero]
    refine ⟨by omega, by omega, ?_⟩
    unfold sv
    rw [if_pos (by omega), Nat.mod_eq_of_lt (by omega), h2, Int.natCast_mul]
    congr 1
    omega

/-- what is left of a division of floats -/
def ModR (x y r : Nat) : Prop := ∃ B, B < 9218868437227405312 ∧ r = B + x / 9223372036854775808 * 9223372036854775808 ∧ vl B = vl (x % 9223372036854775808) % vl (y % 9223372036854775808)

theorem ModR_sv {x y r : Nat} (hx : x < 18446744073709551616) (h : ModR x y r) : r < 18446744073709551616 ∧ r % 9223372036854775808 < 9218868437227405312 ∧ sv r = (sv x).tmod (sv y) := by
  obtain ⟨B, h1, rfl, h3⟩ := h
  have hd : x / 9223372036854775808 = 0 ∨ x / 9223372036854775808 = 1 := by omega
  have hy : ∀ v : Int, v.tmod (sv y) = v.tmod (vl (y % 9223372036854775808) : Int) := by
    intro v; unfold sv; split
    · rfl
    · rw [Int.tmod_neg]
  rw [hy]
  unfold sv
  rcases hd with h4 | h4
  · rw [h4]
    refine ⟨by omega, by omega, ?_⟩
    rw [if_pos (by omega), if_pos rfl, Nat.zero_mul, Nat.add_zero, Nat.mod_eq_of_lt (by omega), h3]
    rfl
  · rw [h4]
    refine ⟨by omega, by omega, ?_⟩
    rw [if_neg (by omega), if_neg (by omega), Nat.one_mul, Nat.add_mod_right, Nat.mod_eq_of_lt (by omega), h3, Int.neg_tmod]
    rfl
theorem vl_inj {a b : Nat} (h : vl a = vl b) : a = b := by
  rcases Nat.lt_trichotomy a b with h1 | h1 | h1
  · exact absurd h (Nat.ne_of_lt (vl_lt h1))
  · exact h1
  · exact absurd h.symm (Nat.ne_of_lt (vl_lt h1))
theorem vl_parts {b : Nat} (hf : fin b = true) : mant b * 2 ^ (expo b + 1074).toNat = vl (b % 9223372036854775808) ∧ -1074 ≤ expo b := by
  rw [← (mant_mod b).2.2] at hf
  have h := (fin_lt_inf (Nat.mod_lt _ (by decide))).1 hf
  obtain ⟨h1, h2, h3⟩ := mant_mof h
  rw [(mant_mod b).1] at h1
  rw [(mant_mod b).2.1] at h2 h3
  exact ⟨by unfold vl; rw [h1, h2], h3⟩
end Go.Proofs.YtcmpdamfeoaapaaGreatDoor
