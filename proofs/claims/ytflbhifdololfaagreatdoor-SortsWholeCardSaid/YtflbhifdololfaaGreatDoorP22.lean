/- Plain: floats and bytes are ordered. -/
import Derived.Test.YtflbhifdololfaaGreatDoorP19
namespace Go.Proofs.YtflbhifdololfaaGreatDoor
open Go.RowKit

theorem cmpB_anti : ∀ a b : List UInt8, Lib.compareBytes b a = -Lib.compareBytes a b
  | [], [] => rfl
  | [], _ :: _ => rfl
  | _ :: _, [] => rfl
  | a :: l, b :: m => by
    have ih := cmpB_anti l m
    show (if b < a then (-1 : Int) else if a < b then 1 else Lib.compareBytes m l) = -(if a < b then (-1 : Int) else if b < a then 1 else Lib.compareBytes l m)
    by_cases h1 : a < b
    · have h2 : ¬ b < a := fun h => by have := UInt8.lt_iff_toNat_lt.1 h; have := UInt8.lt_iff_toNat_lt.1 h1; omega
      rw [if_neg h2, if_pos h1, if_pos h1]; rfl
    · by_cases h2 : b < a
      · rw [if_pos h2, if_neg h1, if_pos h2]
      · rw [if_neg h2, if_neg h1, if_neg h1, if_neg h2, ih]
theorem cmpB_self (a : List UInt8) : Lib.compareBytes a a = 0 := by
  have := cmpB_anti a a
  omega
theorem cmpB_trans : ∀ a b c : List UInt8, Lib.compareBytes a b ≤ 0 → Lib.compareBytes b c ≤ 0 → Lib.compareBytes a c ≤ 0 ∧ ((Lib.compareBytes a b = 0 ∧ Lib.compareBytes b c = 0) ↔ Lib.compareBytes a c = 0)
  | [], [], [] => by decide
  | [], [], _ :: _ => fun _ _ => ⟨by show (-1 : Int) ≤ 0; decide, ⟨fun h => absurd h.2 (by show ¬ ((-1 : Int) = 0); decide), fun h => absurd h (by show ¬ ((-1 : Int) = 0); decide)⟩⟩
  | [], _ :: _, [] => fun _ h => absurd h (by show ¬ ((1 : Int) ≤ 0); decide)
  | [], _ :: _, _ :: _ => fun _ _ => ⟨by show (-1 : Int) ≤ 0; decide, ⟨fun h => absurd h.1 (by show ¬ ((-1 : Int) = 0); decide), fun h => absurd h (by show ¬ ((-1 : Int) = 0); decide)⟩⟩
  | _ :: _, [], _ => fun h _ => absurd h (by show ¬ ((1 : Int) ≤ 0); decide)
  | _ :: _, _ :: _, [] => fun _ h => absurd h (by show ¬ ((1 : Int) ≤ 0); decide)
  | a :: l, b :: m, c :: n => by
    have ih := cmpB_trans l m n
    show (if a < b then (-1 : Int) else if b < a then 1 else Lib.compareBytes l m) ≤ 0 → (if b < c then (-1 : Int) else if c < b then 1 else Lib.compareBytes m n) ≤ 0 →
      (if a < c then (-1 : Int) else if c < a then 1 else Lib.compareBytes l n) ≤ 0 ∧ (((if a < b then (-1 : Int) else if b < a then 1 else Lib.compareBytes l m) = 0 ∧ (if b < c then (-1 : Int) else if c < b then 1 else Lib.compareBytes m n) = 0) ↔ (if a < c then (-1 : Int) else if c < a then 1 else Lib.compareBytes l n) = 0)
    simp only [UInt8.lt_iff_toNat_lt]
    generalize a.toNat = x
    generalize b.toNat = y
    generalize c.toNat = z
    generalize Lib.compareBytes l m = p at *
    generalize Lib.compareBytes m n = q at *
    generalize Lib.compareBytes l n = r at *
    intro h1 h2
    by_cases hp : p ≤ 0 <;> by_cases hq : q ≤ 0
    · have ih2 := ih hp hq
      constructor <;> (repeat' split at *) <;> omega
    all_goals
      clear ih
      constructor <;> (repeat' split at *) <;> omega

/-- a float's place among the floats -/
def keyF (b : Nat) : Int := if b < 9223372036854775808 then (b : Int) else -((b : Int) - 9223372036854775808)
theorem vl_zero : vl 0 = 0 := by decide
theorem vl_pos {a : Nat} (h : 0 < a) : 0 < vl a := by
  have := vl_lt h
  rw [vl_zero] at this
  exact this
theorem read_ninf : FloatKind.f64.format.read 18442240474082181120 = .infinity true := by decide
/-- the four ways that a float that is a number reads -/
theorem read_ways {x : Nat} (h1 : x < 18446744073709551616) (h2 : x % 9223372036854775808 ≤ 9218868437227405312) :
    (x < 9218868437227405312 ∧ FloatKind.f64.format.read x = .number false (mof x) ((jof x : Int) - 1074)) ∨
    (∃ a, a < 9218868437227405312 ∧ x = a + 9223372036854775808 ∧ FloatKind.f64.format.read x = .number true (mof a) ((jof a : Int) - 1074)) ∨
    (x = 9218868437227405312 ∧ FloatKind.f64.format.read x = .infinity false) ∨ (x = 18442240474082181120 ∧ FloatKind.f64.format.read x = .infinity true) := by
  rcases Nat.lt_or_ge x 9223372036854775808 with h | h
  · rcases Nat.lt_or_ge x 9218868437227405312 with h3 | h3
    · exact .inl ⟨h3, read_fin h3⟩
    · have e : x = 9218868437227405312 := by omega
      subst e
      exact .inr (.inr (.inl ⟨rfl, read_inf⟩))
  · obtain ⟨a, rfl⟩ : ∃ a, x = a + 9223372036854775808 := ⟨x - 9223372036854775808, by omega⟩
    rcases Nat.lt_or_ge a 9218868437227405312 with h3 | h3
    · exact .inr (.inl ⟨a, h3, rfl, read_neg h3⟩)
    · have e : a = 9218868437227405312 := by omega
      subst e
      exact .inr (.inr (.inr ⟨rfl, read_ninf⟩))
theorem cmp_int {a b c d : Int} (h1 : a < b ↔ c < d) (h2 : b < a ↔ d < c) : compare a b = compare c d := by
  rcases Int.lt_trichotomy a b with h | h | h
  · rw [Int.compare_eq_lt.2 h, Int.compare_eq_lt.2 (h1.1 h)]
  · subst h
    have e : c = d := by
      have := mt h1.2 (Int.lt_irrefl a)
      have := mt h2.2 (Int.lt_irrefl a)
      omega
    subst e
    rw [Int.compare_eq_eq.2 rfl, Int.compare_eq_eq.2 rfl]
  · rw [Int.compare_eq_gt.2 h, Int.compare_eq_gt.2 (h2.1 h)]
theorem vl_iff (a c : Nat) : (vl a < vl c ↔ a < c) := by
  constructor
  · intro h
    rcases Nat.lt_or_ge a c with h1 | h1
    · exact h1
    · rcases Nat.eq_or_lt_of_le h1 with h2 | h2
      · subst h2; exact absurd h (Nat.lt_irrefl _)
      · have := vl_lt h2; omega
  · exact vl_lt
theorem keyF_pos {b : Nat} (h : b < 9223372036854775808) : keyF b = (b : Int) := by unfold keyF; rw [if_pos h]
theorem keyF_neg (a : Nat) : keyF (a + 9223372036854775808) = -(a : Int) := by unfold keyF; rw [if_neg (by omega)]; omega
theorem keyF_inf : keyF 9218868437227405312 = 9218868437227405312 := by decide
theorem keyF_ninf : keyF 18442240474082181120 = -9218868437227405312 := by decide
theorem vl_sign (a : Nat) : 0 < vl a ↔ 0 < a := by
  have := vl_iff 0 a
  rw [vl_zero] at this
  exact this
theorem order_key {x y : Nat} (hx : x < 18446744073709551616) (hy : y < 18446744073709551616) (nx : x % 9223372036854775808 ≤ 9218868437227405312) (ny : y % 9223372036854775808 ≤ 9218868437227405312) :
    FloatKind.f64.format.order x y = some (compare (keyF x) (keyF y)) := by
  unfold Ieee.Format.order
  rcases read_ways hx nx with ⟨h1, e1⟩ | ⟨a, h1, rfl, e1⟩ | ⟨rfl, e1⟩ | ⟨rfl, e1⟩ <;> rcases read_ways hy ny with ⟨h2, e2⟩ | ⟨c, h2, rfl, e2⟩ | ⟨rfl, e2⟩ | ⟨rfl, e2⟩ <;> first | rw [e1, e2] | rw [e1]
  · rw [order_num, keyF_pos (show x < 9223372036854775808 by omega), keyF_pos (show y < 9223372036854775808 by omega)]
    have g1 := vl_iff x y
    have g2 := vl_iff y x
    refine congrArg some ?_
    apply cmp_int <;> simp <;> omega
  · rw [order_num, keyF_pos (show x < 9223372036854775808 by omega), keyF_neg c]
    have g1 := vl_sign x
    have g2 := vl_sign c
    refine congrArg some ?_
    apply cmp_int <;> simp <;> omega
  · rw [keyF_pos (show x < 9223372036854775808 by omega), keyF_inf, Int.compare_eq_lt.2 (by omega)]
    rfl
  · rw [keyF_pos (show x < 9223372036854775808 by omega), keyF_ninf, Int.compare_eq_gt.2 (by omega)]
    rfl
  · rw [order_num, keyF_neg a, keyF_pos (show y < 9223372036854775808 by omega)]
    have g1 := vl_sign y
    have g2 := vl_sign a
    refine congrArg some ?_
    apply cmp_int <;> simp <;> omega
  · rw [order_num, keyF_neg a, keyF_neg c]
    have g1 := vl_iff a c
    have g2 := vl_iff c a
    refine congrArg some ?_
    apply cmp_int <;> simp <;> omega
  · rw [keyF_neg a, keyF_inf, Int.compare_eq_lt.2 (by omega)]
    rfl
  · rw [keyF_neg a, keyF_ninf, Int.compare_eq_gt.2 (by omega)]
    rfl
  · rw [keyF_inf, keyF_pos (show y < 9223372036854775808 by omega), Int.compare_eq_gt.2 (by omega)]
    rfl
  · rw [keyF_inf, keyF_neg c, Int.compare_eq_gt.2 (by omega)]
    rfl
  · decide
  · decide
  · rw [keyF_ninf, keyF_pos (show y < 9223372036854775808 by omega), Int.compare_eq_lt.2 (by omega)]
    rfl
  · rw [keyF_ninf, keyF_neg c, Int.compare_eq_lt.2 (by omega)]
    rfl
  · decide
  · decide
theorem read_nanG {b : Nat} (h : 9218868437227405312 < b % 9223372036854775808) : ∃ s f, FloatKind.f64.format.read b = .nan s f := by
  have e1 : FloatKind.f64.format.signWeight = 9223372036854775808 := by decide
  have e2 : FloatKind.f64.format.binade = 4503599627370496 := by decide
  have e3 : FloatKind.f64.format.infRung = 9218868437227405312 := by decide
  unfold Ieee.Format.read
  simp only [e1, e2, e3]
  rw [if_neg (by omega), if_neg (by omega), if_neg (by omega)]
  exact ⟨_, _, rfl⟩
theorem nan_not {x : Nat} (h : nanF x = false) : x % 9223372036854775808 ≤ 9218868437227405312 := by
  rcases Nat.lt_or_ge 9218868437227405312 (x % 9223372036854775808) with h1 | h1
  · exfalso
    obtain ⟨s, f, hr⟩ := read_nanG h1
    unfold nanF Ieee.Format.order at h
    rw [hr] at h
    have e : (Ieee.Datum.nan s f).order (Ieee.Datum.nan s f) = none := rfl
    rw [e] at h
    exact absurd h (by decide)
  · exact h1
theorem ordN_val {x y : Nat} (hx : x < 18446744073709551616) (hy : y < 18446744073709551616) :
    ordN x y = if nanF x = true then (if nanF y = true then 0 else 1) else if nanF y = true then -1 else if keyF x < keyF y then -1 else if keyF y < keyF x then 1 else 0 := by
  unfold ordN
  cases h1 : nanF x
  · cases h2 : nanF y
    · show ordF x y = _
      unfold ordF
      rw [order_key hx hy (nan_not h1) (nan_not h2)]
      simp only [Bool.false_eq_true, if_false]
      rcases Int.lt_trichotomy (keyF x) (keyF y) with h | h | h
      · rw [Int.compare_eq_lt.2 h, if_pos h]; rfl
      · rw [h, Int.compare_eq_eq.2 rfl, if_neg (Int.lt_irrefl (keyF y)), if_neg (Int.lt_irrefl (keyF y))]; rfl
      · rw [Int.compare_eq_gt.2 h, if_neg (show ¬ keyF x < keyF y by omega), if_pos h]; rfl
    · rfl
  · cases h2 : nanF y
    · rfl
    · rfl
theorem ordN_anti {x y : Nat} (hx : x < 18446744073709551616) (hy : y < 18446744073709551616) : ordN y x = -ordN x y := by
  rw [ordN_val hx hy, ordN_val hy hx]
  cases nanF x <;> cases nanF y <;> simp only [Bool.false_eq_true, if_false, if_true] <;> (repeat' split) <;> omega
theorem ordN_self {x : Nat} (hx : x < 18446744073709551616) : ordN x x = 0 := by
  have := ordN_anti hx hx
  omega
theorem sgn_trans (a b c : Int) : (if a < b then (-1 : Int) else if b < a then 1 else 0) ≤ 0 → (if b < c then (-1 : Int) else if c < b then 1 else 0) ≤ 0 →
    (if a < c then (-1 : Int) else if c < a then 1 else 0) ≤ 0 ∧ (((if a < b then (-1 : Int) else if b < a then 1 else 0) = 0 ∧ (if b < c then (-1 : Int) else if c < b then 1 else 0) = 0) ↔ (if a < c then (-1 : Int) else if c < a then 1 else 0) = 0) := by
  intro h1 h2
  have g1 : a ≤ b := by
    rcases Int.lt_or_le b a with h | h
    · rw [if_neg (by omega), if_pos h] at h1; omega
    · exact h
  have g2 : b ≤ c := by
    rcases Int.lt_or_le c b with h | h
    · rw [if_neg (by omega), if_pos h] at h2; omega
    · exact h
  rw [if_neg (show ¬ c < a by omega), if_neg (show ¬ b < a by omega), if_neg (show ¬ c < b by omega)]
  constructor
  · split <;> omega
  · by_cases e1 : a < b <;> by_cases e2 : b < c <;> by_cases e3 : a < c <;> simp [e1, e2, e3] <;> omega
theorem ordN_trans {x y z : Nat} (hx : x < 18446744073709551616) (hy : y < 18446744073709551616) (hz : z < 18446744073709551616) : ordN x y ≤ 0 → ordN y z ≤ 0 →
    ordN x z ≤ 0 ∧ ((ordN x y = 0 ∧ ordN y z = 0) ↔ ordN x z = 0) := by
  rw [ordN_val hx hy, ordN_val hy hz, ordN_val hx hz]
  have h := sgn_trans (keyF x) (keyF y) (keyF z)
  generalize (if keyF x < keyF y then (-1 : Int) else if keyF y < keyF x then 1 else 0) = p at *
  generalize (if keyF y < keyF z then (-1 : Int) else if keyF z < keyF y then 1 else 0) = q at *
  generalize (if keyF x < keyF z then (-1 : Int) else if keyF z < keyF x then 1 else 0) = r at *
  cases nanF x <;> cases nanF y <;> cases nanF z <;> simp only [Bool.false_eq_true, if_false, if_true]
  · exact h
  all_goals
    intro h1 h2
    clear h
    first | (exfalso; omega) | (constructor <;> simp)
theorem prefB_lt (l : List UInt8) : prefB l < 18446744073709551616 := by
  have h : prefV l < 9223372036854775808 := by
    unfold prefV
    split
    · omega
    · exact readN_le _ _
  unfold prefB
  split <;> omega
theorem numC_lt (k : Int) {x : Nat} (s : ByteArray) (hx : x < 18446744073709551616) : numC k x s < 18446744073709551616 := by
  unfold numC
  split
  · exact hx
  · split
    · exact prefB_lt _
    · omega

section
variable {k1 k2 k3 : Int} {x1 x2 x3 : Nat} {s1 s2 s3 : ByteArray}
theorem cmpC_anti (h1 : x1 < 18446744073709551616) (h2 : x2 < 18446744073709551616) : cmpC k2 x2 s2 k1 x1 s1 = -cmpC k1 x1 s1 k2 x2 s2 := by
  unfold cmpC
  by_cases h : k1 ≠ 2 ∧ k2 ≠ 2
  · rw [if_pos h, if_pos ⟨h.2, h.1⟩]
    exact ordN_anti (numC_lt _ _ h1) (numC_lt _ _ h2)
  · rw [if_neg h, if_neg (fun g => h ⟨g.2, g.1⟩)]
    exact cmpB_anti _ _
theorem cmpC_self (h1 : x1 < 18446744073709551616) : cmpC k1 x1 s1 k1 x1 s1 = 0 := by
  have := cmpC_anti (k1 := k1) (k2 := k1) (s1 := s1) (s2 := s1) h1 h1
  omega
theorem cmpC_num {k1 k2 : Int} {x1 x2 : Nat} {s1 s2 : ByteArray} (h1 : k1 ≠ 2) (h2 : k2 ≠ 2) : cmpC k1 x1 s1 k2 x2 s2 = ordN (numC k1 x1 s1) (numC k2 x2 s2) := if_pos ⟨h1, h2⟩
theorem cmpC_str {x1 x2 : Nat} {s1 s2 : ByteArray} : cmpC 2 x1 s1 2 x2 s2 = Lib.compareBytes (strC 2 x1 s1).data.toList (strC 2 x2 s2).data.toList := if_neg (fun h => h.1 rfl)
theorem cmpC_trans (h1 : x1 < 18446744073709551616) (h2 : x2 < 18446744073709551616) (h3 : x3 < 18446744073709551616) (ht : (k1 = 2 ∧ k2 = 2 ∧ k3 = 2) ∨ (k1 ≠ 2 ∧ k2 ≠ 2 ∧ k3 ≠ 2))
    (hp : cmpC k1 x1 s1 k2 x2 s2 ≤ 0) (hq : cmpC k2 x2 s2 k3 x3 s3 ≤ 0) :
    cmpC k1 x1 s1 k3 x3 s3 ≤ 0 ∧ ((cmpC k1 x1 s1 k2 x2 s2 = 0 ∧ cmpC k2 x2 s2 k3 x3 s3 = 0) ↔ cmpC k1 x1 s1 k3 x3 s3 = 0) := by
  rcases ht with ⟨rfl, rfl, rfl⟩ | ⟨g1, g2, g3⟩
  · rw [cmpC_str] at hp hq
    rw [cmpC_str, cmpC_str, cmpC_str]
    exact cmpB_trans _ _ _ hp hq
  · rw [cmpC_num g1 g2] at hp
    rw [cmpC_num g2 g3] at hq
    rw [cmpC_num g1 g2, cmpC_num g2 g3, cmpC_num g1 g3]
    exact ordN_trans (numC_lt _ _ h1) (numC_lt _ _ h2) (numC_lt _ _ h3) hp hq
end
end Go.Proofs.YtflbhifdololfaaGreatDoor
