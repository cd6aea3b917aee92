/- Several texts in one (R19, K11, K3, K13, R20, Q24, X3, X4, X5, X7, G5). -/
import Derived.Test.YtkaelmbgfcehhaaDoorM4
import Derived.Laws.FloatArith
import Derived.Test.YtkaelmbgfcehhaaDoorM2
import Derived.Test.YtkaelmbgfcehhaaDoorM1
set_option linter.unusedVariables false
set_option linter.unusedSimpArgs false
section
/- Plain: sums and products that are floats are reckoned exactly. -/
namespace Go.Proofs.YtkaelmbgfcehhaaDoor
open Go
set_option linter.unusedVariables false

theorem vl_none : vl 0 = 0 := by unfold vl mof; simp
theorem nearest_none (p : Int) : FloatKind.f64.format.nearest false 0 p = 0 := by
  unfold Ieee.Format.nearest
  rw [if_pos rfl]
  rfl
theorem rnd_whole (m g : Nat) (hg : 0 < g) : rnd (m * g) g = m := by
  unfold rnd
  rw [Nat.mul_div_cancel _ hg, Nat.mul_mod_left]
  rw [if_neg (by omega)]
theorem cut_none (n : Nat) : Ieee.Toward.even.cut false n 0 = n := by
  rw [cut_rnd (by omega)]
  have := rnd_whole n 1 (by decide)
  rwa [Nat.mul_one] at this
/-- a value's greatest bit -/
theorem log_place {m P M J : Nat} (hm : m ≠ 0) (hM : M < 2 ^ 53) (hJ : J = 0 ∨ 2 ^ 52 ≤ M) (h : m * 2 ^ P = M * 2 ^ J) : P + m.log2 < 53 + J ∧ (J = 0 ∨ 52 + J ≤ P + m.log2) := by
  have h1 : 2 ^ m.log2 ≤ m := Nat.log2_self_le hm
  have h2 : m < 2 ^ (m.log2 + 1) := Nat.lt_log2_self
  refine ⟨?_, ?_⟩
  · have : 2 ^ (P + m.log2) < 2 ^ (53 + J) := by
      rw [Nat.pow_add, Nat.pow_add, Nat.mul_comm]
      exact Nat.lt_of_le_of_lt (Nat.mul_le_mul_right _ h1) (h ▸ Nat.mul_lt_mul_of_pos_right hM (pow2_pos _))
    exact (Nat.pow_lt_pow_iff_right (by decide)).1 this
  · rcases hJ with hJ | hJ
    · exact .inl hJ
    · right
      have : 2 ^ (52 + J) < 2 ^ (P + (m.log2 + 1)) := by
        rw [Nat.pow_add, Nat.pow_add 2 P, Nat.mul_comm (2 ^ P)]
        exact Nat.lt_of_le_of_lt (Nat.mul_le_mul_right _ hJ) (h ▸ Nat.mul_lt_mul_of_pos_right h2 (pow2_pos _))
      have := (Nat.pow_lt_pow_iff_right (by decide)).1 this
      omega
theorem pow_cancel {a b x y : Nat} (h : a * 2 ^ x = b * 2 ^ (y + x)) : a = b * 2 ^ y := by
  rw [Nat.pow_add, ← Nat.mul_assoc] at h
  exact Nat.eq_of_mul_eq_mul_right (pow2_pos x) h
theorem nearest_exact {m b : Nat} {p : Int} (hb : b < 9218868437227405312) (hp : -1074 ≤ p) (h : m * 2 ^ (p + 1074).toNat = vl b) : FloatKind.f64.format.nearest false m p = b := by
  by_cases h0 : m = 0
  · subst h0
    rw [nearest_none]
    rw [Nat.zero_mul] at h
    exact vl_inj (vl_none.trans h)
  have e2 : FloatKind.f64.format.binade = 4503599627370496 := by decide
  have e3 : FloatKind.f64.format.infRung = 9218868437227405312 := by decide
  have e4 : FloatKind.f64.format.leastPlace = -1074 := by decide
  have e5 : FloatKind.f64.format.fractionBits = 52 := by decide
  unfold Ieee.Format.nearest
  rw [if_neg h0]
  simp only [e2, e3, e4, e5]
  unfold vl at h
  obtain ⟨P, hP⟩ : ∃ P, P = (p + 1074).toNat := ⟨_, rfl⟩
  rw [← hP] at h
  obtain ⟨l1, l2⟩ := log_place h0 (mof_lt b) (mof_ge b) h
  have hbp := bits_parts b
  generalize mof b = M at *
  generalize jof b = J at *
  have h3 : (2 : Nat) ^ 52 = 4503599627370496 := by decide
  rw [h3] at hbp
  have e8 : max (p + (m.log2 : Int) - (52 : Nat)) (-1074) = (J : Int) - 1074 := by omega
  rw [e8]
  have e11 : ((J : Int) - 1074 - -1074).toNat = J := by omega
  rw [e11]
  have hc : Ieee.Toward.even.cut false (m <<< (p - ((J : Int) - 1074)).toNat) ((J : Int) - 1074 - p).toNat = M := by
    rcases Nat.le_total J P with hj | hj
    · obtain ⟨d, hd⟩ : ∃ d, d = P - J := ⟨_, rfl⟩
      have a1 : ((J : Int) - 1074 - p).toNat = 0 := by omega
      have a2 : (p - ((J : Int) - 1074)).toNat = d := by omega
      rw [a1, a2, cut_none, Nat.shiftLeft_eq]
      have a3 : P = d + J := by omega
      rw [a3] at h
      exact (pow_cancel h.symm).symm
    · obtain ⟨d, hd⟩ : ∃ d, d = J - P := ⟨_, rfl⟩
      have a1 : ((J : Int) - 1074 - p).toNat = d := by omega
      have a2 : (p - ((J : Int) - 1074)).toNat = 0 := by omega
      rw [a1, a2, Nat.shiftLeft_zero]
      have a3 : J = d + P := by omega
      rw [a3] at h
      have a4 := pow_cancel h
      rw [cut_rnd (by omega), a4]
      exact rnd_whole _ _ (pow2_pos _)
  rw [hc, ← hbp, Nat.min_eq_left (Nat.le_of_lt hb)]
  rfl
theorem add_exact {a b c : Nat} (ha : a < 9218868437227405312) (hb : b < 9218868437227405312) (hc : c < 9218868437227405312) (h : vl a + vl b = vl c) : FloatKind.f64.format.add a b = some c := by
  unfold Ieee.Format.add
  rw [read_fin ha, read_fin hb]
  unfold Ieee.Datum.sum Ieee.signed
  simp only [Bool.false_eq_true, if_false, Option.map_some, Option.some.injEq, Ieee.Format.write, Bool.and_self]
  have e1 : ∀ x y : Nat, decide ((x : Int) + (y : Int) < 0) = false := fun x y => decide_eq_false (by omega)
  have e2 : ∀ x y : Nat, ((x : Int) + (y : Int)).natAbs = x + y := fun x y => by omega
  rw [e1, ite_self, e2]
  refine nearest_exact hc (by omega) ?_
  rw [← h]
  unfold vl
  generalize mof a = A
  generalize mof b = B
  generalize jof a = i
  generalize jof b = j
  rw [Nat.shiftLeft_eq, Nat.shiftLeft_eq, Nat.add_mul, Nat.mul_assoc, Nat.mul_assoc, ← Nat.pow_add, ← Nat.pow_add]
  rw [show ((i : Int) - 1074 - min ((i : Int) - 1074) ((j : Int) - 1074)).toNat + (min ((i : Int) - 1074) ((j : Int) - 1074) + 1074).toNat = i by omega]
  rw [show ((j : Int) - 1074 - min ((i : Int) - 1074) ((j : Int) - 1074)).toNat + (min ((i : Int) - 1074) ((j : Int) - 1074) + 1074).toNat = j by omega]
theorem mul_exact {a b c : Nat} (ha : a < 9218868437227405312) (hb : b < 9218868437227405312) (hc : c < 9218868437227405312) (hj : bias ≤ jof a + jof b) (h : vl a * vl b = vl c * kk) : FloatKind.f64.format.mul a b = some c := by
  unfold Ieee.Format.mul
  rw [read_fin ha, read_fin hb]
  unfold Ieee.Datum.product
  simp only [Option.map_some, Option.some.injEq, Ieee.Format.write, Bool.xor_self]
  have hbi : bias = 1074 := rfl
  refine nearest_exact hc (by omega) ?_
  have e : ((jof a : Int) - 1074 + ((jof b : Int) - 1074) + 1074).toNat = jof a + jof b - bias := by omega
  rw [e]
  unfold kk at h
  unfold vl at h ⊢
  generalize mof a = A at *
  generalize mof b = B at *
  generalize mof c = C at *
  generalize jof a = i at *
  generalize jof b = j at *
  generalize jof c = k at *
  generalize bias = K at *
  obtain ⟨d, hd⟩ : ∃ d, d = i + j - K := ⟨_, rfl⟩
  rw [← hd]
  have e2 : i + j = d + K := by omega
  have e3 : A * 2 ^ i * (B * 2 ^ j) = A * B * 2 ^ d * 2 ^ K := by
    rw [show A * 2 ^ i * (B * 2 ^ j) = A * B * (2 ^ i * 2 ^ j) by ac_rfl, ← Nat.pow_add, e2, Nat.pow_add]
    ac_rfl
  rw [e3] at h
  exact Nat.eq_of_mul_eq_mul_right (pow2_pos K) h
theorem jof_whole {n b : Nat} (hn : 0 < n) (h : vl b = n * kk) : bias < jof b + 53 := by
  have h1 := mof_lt b
  unfold vl at h
  have h2 : 1 * kk ≤ n * kk := Nat.mul_le_mul_right _ hn
  rw [Nat.one_mul] at h2
  unfold kk at *
  generalize mof b = M at *
  generalize jof b = J at *
  generalize bias = K at *
  have h3 : 2 ^ K < 2 ^ (J + 53) := by
    rw [Nat.pow_add, Nat.mul_comm]
    exact Nat.lt_of_le_of_lt (Nat.le_trans h2 (Nat.le_of_eq h.symm)) (Nat.mul_lt_mul_of_pos_right h1 (pow2_pos _))
  exact (Nat.pow_lt_pow_iff_right (by decide)).1 h3
/-- a natural as a float -/
def ofN (n : Nat) : Nat := FloatKind.f64.nearest (n : Int)
theorem ofN_fin {n : Nat} (h : n < 9007199254740992) : ofN n < 9218868437227405312 ∧ vl (ofN n) = n * kk := whole_bits h
theorem add_whole {m n : Nat} (h : m + n < 9007199254740992) : FloatKind.f64.format.add (ofN m) (ofN n) = some (ofN (m + n)) := by
  obtain ⟨a1, a2⟩ := ofN_fin (n := m) (by omega)
  obtain ⟨b1, b2⟩ := ofN_fin (n := n) (by omega)
  obtain ⟨c1, c2⟩ := ofN_fin h
  exact add_exact a1 b1 c1 (by rw [a2, b2, c2, Nat.add_mul])
theorem ofN_zero : ofN 0 = 0 := by
  obtain ⟨a1, a2⟩ := ofN_fin (n := 0) (by decide)
  rw [Nat.zero_mul] at a2
  exact vl_inj (a2.trans vl_none.symm)
theorem mul_zero_left (b : Nat) (hb : b < 9218868437227405312) : FloatKind.f64.format.mul 0 b = some 0 := by
  unfold Ieee.Format.mul
  rw [read_fin (b := 0) (by decide), read_fin hb]
  unfold Ieee.Datum.product
  simp only [Option.map_some, Option.some.injEq, Ieee.Format.write, Bool.xor_self]
  have e : mof 0 = 0 := by unfold mof; simp
  rw [e, Nat.zero_mul, nearest_none]
theorem mul_whole {m n : Nat} (h : m * n < 9007199254740992) (hn : 0 < n) (hn3 : n < 9007199254740992) : FloatKind.f64.format.mul (ofN m) (ofN n) = some (ofN (m * n)) := by
  by_cases hm : m = 0
  · subst hm
    rw [Nat.zero_mul] at h ⊢
    rw [ofN_zero]
    by_cases hn2 : n < 9007199254740992
    · exact mul_zero_left _ (ofN_fin hn2).1
    · exact absurd hn3 hn2
  have hm2 : m ≤ m * n := Nat.le_mul_of_pos_right _ hn
  have hn2 : n ≤ m * n := Nat.le_mul_of_pos_left _ (by omega)
  obtain ⟨a1, a2⟩ := ofN_fin (n := m) (by omega)
  obtain ⟨b1, b2⟩ := ofN_fin (n := n) (by omega)
  obtain ⟨c1, c2⟩ := ofN_fin h
  refine mul_exact a1 b1 c1 ?_ ?_
  · have h1 := jof_whole (by omega) a2
    have h2 := jof_whole hn b2
    have h3 : 106 ≤ bias := of_decide_eq_true rfl
    clear a2 b2 c2
    generalize bias = K at *
    omega
  · rw [a2, b2, c2]
    generalize kk = K
    ac_rfl
end Go.Proofs.YtkaelmbgfcehhaaDoor
end

section
/- Package num: Pow, of valid operations. -/
namespace Go.Proofs.YtkaelmbgfcehhaaDoor
open Go.RowKit
set_option linter.unusedVariables false

/-- the power by squares; none: an operation is not valid -/
def powO : Nat → Nat → Nat → Nat → Option Nat
  | 0, _, _, _ => none
  | f + 1, k, out, x => if k = 0 then some out else
    (FloatKind.f64.format.mul x x).bind fun z =>
      (if k % 2 = 1 then FloatKind.f64.format.mul out x else some out).bind fun o => powO f (k / 2) o z

/-- the power's last step -/
def powR (y r : Nat) : Option Nat := if FloatKind.f64.format.order y 0 = some .lt then FloatKind.f64.format.div 4607182418800017408 r else some r
/-- a whole power's loop's count -/
def powK (y : Nat) : Option Int := floatToIntVal .f64 (y % 9223372036854775808) .u64
/-- is it a power? -/
def powOk (y : Nat) : Bool := (FloatKind.f64.format.order (y % 9223372036854775808) 4845873199050653696 == some .lt) && (FloatKind.f64.format.order (truncB y) y == some .eq)

end Go.Proofs.YtkaelmbgfcehhaaDoor
end

section
/- Package num: Prefix, Looks. -/
namespace Go.Proofs.YtkaelmbgfcehhaaDoor
open Go.RowKit
set_option linter.unusedVariables false

theorem lead_app_digits {l r : List UInt8} : Digits (lead l ++ lead r) := by
  intro c hc
  rcases List.mem_append.1 hc with h | h
  · exact lead_digits l c h
  · exact lead_digits r c h
theorem mantL_facts (l : List UInt8) : Digits (mantL l).1 ∧ -(l.length : Int) ≤ (mantL l).2.1 ∧ (mantL l).2.1 ≤ 0 ∧ (mantL l).2.2 ≤ l.length := by
  have hl := lead_le l
  by_cases h : ∃ r, l.drop (lead l).length = 46 :: r
  · obtain ⟨r, hr⟩ := h
    have h2 := lead_le r
    have h3 := congrArg List.length hr
    rw [List.length_drop, List.length_cons] at h3
    rw [mantL_dot hr]
    split
    · exact ⟨lead_app_digits, by simp only []; omega, by simp only []; omega, by simp only []; omega⟩
    · exact ⟨lead_digits l, by simp only []; omega, by simp only []; omega, hl⟩
  · rw [mantL_plain fun r hr => h ⟨r, hr⟩]
    exact ⟨lead_digits l, by simp only []; omega, by simp only []; omega, hl⟩
theorem expL_facts (q : List UInt8) : -100000 ≤ (expL q).1 ∧ (expL q).1 ≤ 100000 ∧ (expL q).2 ≤ q.length := by
  cases q with
  | nil => simp [expL]
  | cons c r =>
    unfold expL
    simp only []
    split
    · split
      · have h1 := powN_le (lead ((c :: r).drop (signK (c :: r)).1))
        have h2 := lead_le ((c :: r).drop (signK (c :: r)).1)
        rw [List.length_drop] at h2
        refine ⟨?_, ?_, ?_⟩
        · simp only []; unfold powL; split <;> omega
        · simp only []; unfold powL; split <;> omega
        · simp only []; omega
      · simp
    · simp
theorem numeralL_facts (l : List UInt8) : Digits (numeralL l).1 ∧ -(l.length : Int) - 100000 ≤ (numeralL l).2.1 ∧ (numeralL l).2.1 ≤ 100000 ∧ (numeralL l).2.2 ≤ l.length := by
  obtain ⟨h1, h2, h3, h4⟩ := mantL_facts l
  obtain ⟨e1, e2, e3⟩ := expL_facts (l.drop (mantL l).2.2)
  rw [List.length_drop] at e3
  unfold numeralL
  split
  · exact ⟨by intro c hc; simp at hc, by simp only []; omega, by simp only []; omega, by simp only []; omega⟩
  · exact ⟨h1, by simp only []; omega, by simp only []; omega, by simp only []; omega⟩

/-- blanks -/
def wsL : List UInt8 := [32, 9, 10]
def unblank (l : List UInt8) : List UInt8 := l.dropWhile (wsL.contains ·)
/-- how many bytes a sign takes, and whether it is a minus -/
def signB : List UInt8 → Nat × Bool
  | 45 :: _ => (1, true)
  | 43 :: _ => (1, false)
  | _ => (0, false)
@[go_sem] theorem run_neg64 (R : Nat) (w : World) : (Op.unary UnOp.neg (Value.float FloatKind.f64 R)).run Tryd.prog w = .ok (.float .f64 (Op.negFloat .f64 R)) w := rfl
theorem negF {R : Nat} (h : R < 9223372036854775808) : Op.negFloat .f64 R = R + 9223372036854775808 := by
  have e : Op.negFloat .f64 R = R ^^^ 2 ^ 63 := rfl
  rw [e, show (9223372036854775808 : Nat) = 2 ^ 63 by decide, Nat.add_comm]
  have h63 : R < 2 ^ 63 := h
  refine Nat.eq_of_testBit_eq fun i => ?_
  rw [Nat.testBit_xor, Nat.testBit_two_pow]
  rcases Nat.lt_trichotomy i 63 with hi | hi | hi
  · rw [Nat.testBit_two_pow_add_gt hi, decide_eq_false (by omega), Bool.xor_false]
  · subst hi
    rw [Nat.testBit_two_pow_add_eq, decide_eq_true rfl, Bool.xor_true]
  · rw [Nat.testBit_lt_two_pow (Nat.lt_of_lt_of_le h63 (p2_le (a := 63) (b := i) (by omega))), decide_eq_false (by omega), Nat.testBit_lt_two_pow (x := 2 ^ 63 + R) (i := i)]
    · rfl
    · have h2 := p2_le (a := 64) (b := i) (by omega)
      have h3 : (2 : Nat) ^ 64 = 2 ^ 63 + 2 ^ 63 := by decide
      omega
theorem readN_le (l : List UInt8) (e : Int) : readN l e < 9223372036854775808 := by
  have h : readN l e ≤ 9218868437227405312 := by
    unfold readN
    split
    · omega
    · split
      · exact readB_le _ _
      · split
        · exact readB_le _ _
        · exact readB_le _ _
  omega
theorem retF {x x' : Nat} {y y' : Int} (hx : x = x') (hy : y = y') : Ending.returned (.tuple #[.float .f64 x, .int .i64 y]) = Ending.returned (.tuple #[.float .f64 x', .int .i64 y']) := by
  subst hx; subst hy; rfl
theorem signB_other (c : UInt8) (r : List UInt8) (h1 : c ≠ 45) (h2 : c ≠ 43) : signB (c :: r) = (0, false) := by
  unfold signB
  split
  · rename_i h; injection h with h _; exact absurd h h1
  · rename_i h; injection h with h _; exact absurd h h2
  · rfl
theorem mantL_len (l : List UInt8) : (mantL l).1.length ≤ l.length := by
  have hl := lead_le l
  by_cases h : ∃ r, l.drop (lead l).length = 46 :: r
  · obtain ⟨r, hr⟩ := h
    have h2 := lead_le r
    have h3 := congrArg List.length hr
    rw [List.length_drop, List.length_cons] at h3
    rw [mantL_dot hr]
    split
    · simp only [List.length_append]; omega
    · exact hl
  · rw [mantL_plain fun r hr => h ⟨r, hr⟩]
    exact hl
theorem numeralL_len (l : List UInt8) : (numeralL l).1.length ≤ l.length := by
  unfold numeralL
  split
  · simp
  · exact mantL_len l
/-- what is read behind blanks and a sign -/
def coreL (l : List UInt8) : List UInt8 × Int × Nat := numeralL ((unblank l).drop (signB (unblank l)).1)
/-- how many bytes Prefix takes -/
def prefN (l : List UInt8) : Nat := if (coreL l).2.2 = 0 then 0 else l.length - (unblank l).length + (signB (unblank l)).1 + (coreL l).2.2
/-- the float of what is read, without its sign -/
def prefV (l : List UInt8) : Nat := if (coreL l).2.2 = 0 then 0 else readN (coreL l).1 (coreL l).2.1
/-- is it below nought -/
def prefM (l : List UInt8) : Bool := if (coreL l).2.2 = 0 then false else (signB (unblank l)).2

/-- the bits of what Prefix reads -/
def prefB (l : List UInt8) : Nat := if prefM l then prefV l + 9223372036854775808 else prefV l
theorem TrimLeft_ws (s : ByteArray) (w : World) :
    Calls Tryd.prog 49 #[.string s, .string ⟨#[32, 9, 10]⟩] w fun e w' => e = .returned (.string ⟨(unblank s.data.toList).toArray⟩) ∧ Below w.heap.size w w' :=
  Any.strings_TrimLeft_laid Tryd.lays161 (by kernel_rfl) s ⟨#[32, 9, 10]⟩ w (by decide) (ascii_of_all (by decide))
theorem Trim_ws (s : ByteArray) (w : World) (hs : s.size ≤ 9223372036854775807) :
    Calls Tryd.prog 50 #[.string s, .string ⟨#[32, 9, 10]⟩] w fun e w' => e = .returned (.string ⟨(Lib.trimS s.data.toList wsL).toArray⟩) ∧ Below w.heap.size w w' :=
  Any.strings_Trim_laid Tryd.lays160 (by kernel_rfl) s ⟨#[32, 9, 10]⟩ w hs (by decide) (ascii_of_all (by decide))

/-- does the whole text look like a number -/
def looksL (l : List UInt8) : Bool := decide (0 < prefN l) && (Lib.trimS (l.drop (prefN l)) wsL).isEmpty
theorem unblank_le (l : List UInt8) : (unblank l).length ≤ l.length := (List.dropWhile_sublist _).length_le
theorem signB_le : ∀ t : List UInt8, (signB t).1 ≤ t.length
  | [] => Nat.le_refl _
  | c :: r => by
    unfold signB
    split <;> simp
theorem prefN_le (l : List UInt8) : prefN l ≤ l.length := by
  unfold prefN
  split
  · exact Nat.zero_le _
  · have h1 := (numeralL_facts ((unblank l).drop (signB (unblank l)).1)).2.2.2
    have h2 := unblank_le l
    have h3 := signB_le (unblank l)
    rw [List.length_drop] at h1
    unfold coreL
    omega

end Go.Proofs.YtkaelmbgfcehhaaDoor
end

section
/- Package num: base, and Literal of a base of sixteen. -/
namespace Go.Proofs.YtkaelmbgfcehhaaDoor
open Go.RowKit
set_option linter.unusedVariables false

/-- the digits of base sixteen -/
def hexS : ByteArray := ⟨#[48, 49, 50, 51, 52, 53, 54, 55, 56, 57, 97, 98, 99, 100, 101, 102]⟩
/-- the digit that a byte is, or less than 0 -/
def hexD (c : UInt8) : Int := Lib.indexByte hexS.data.toList (c.toNat ||| 32).toUInt8
/-- the number of digits of base sixteen, and how many they are; none: an operation is not valid -/
def baseO : List UInt8 → Nat → Nat → Option (Nat × Nat)
  | [], x, n => some (x, n)
  | c :: l, x, n => if hexD c < 0 ∨ c.toNat < 48 then some (x, n) else
    (FloatKind.f64.format.mul x 4625196817309499392).bind fun y => (FloatKind.f64.format.add y (floatOfInt FloatKind.f64 (hexD c))).bind fun z => baseO l z (n + 1)

theorem indexByte_lt (l : List UInt8) (c : UInt8) : Lib.indexByte l c ≤ (l.length : Int) := by
  induction l with
  | nil => simp [Lib.indexByte]
  | cons b l ih =>
    unfold Lib.indexByte
    rw [List.length_cons]
    split
    · omega
    · split <;> omega
set_option maxRecDepth 100000 in
set_option maxHeartbeats 4000000 in
theorem base_any (s : ByteArray) (X N : Nat) (w : World) (hs : s.size ≤ 1000) (h : baseO s.data.toList 0 0 = some (X, N)) :
    Calls Tryd.prog 40 #[.string s, .string hexS, .int .i64 4] w fun e w' => e = .returned (.tuple #[.float .f64 X, .int .i64 N]) ∧ w = w' := by
  have HI := Lib.hid (fun c => Tryd.strings_IndexByte hexS c w)
  have e16 : floatOfInt FloatKind.f64 16 = 4625196817309499392 := by kernel_rfl
  generalize hS : hexS = S at *
  have HS := Lib.hid hS
  clear hS
  have H := Lib.hid h
  clear h
  go_enter Tryd.func40, Tryd.ntmps40
  go_wp2_with fail
  go_loop [8, 9] (fun xv nv => ∃ (x n : Nat), xv = .float .f64 x ∧ nv = .int .i64 n ∧ n ≤ s.size ∧ baseO (s.data.toList.drop n) x n = some (X, N)) (fun _ nv => s.size - (intOf nv).toNat)
  case atStart => exact ⟨0, 0, rfl, rfl, Nat.zero_le _, H.out⟩
  case round =>
    obtain ⟨x, n, rfl, rfl, h1, h2⟩ := hrel
    obtain ⟨sz, hsz⟩ : ∃ sz, sz = s.size := ⟨_, rfl⟩
    have hl : s.data.toList.length = s.size := (size_list s).symm
    rcases Nat.lt_or_ge n s.size with hn | hn
    · have hd : s.data.toList.drop n = s.data.toList[n]'(by omega) :: s.data.toList.drop (n + 1) := List.drop_eq_getElem_cons (by omega)
      have hc : s[n] = s.data.toList[n]'(by omega) := by
        apply at_list
        rw [List.getElem?_eq_getElem]
      rw [hd, ← hc] at h2
      generalize hC : s[n] = c at *
      have hcl : c.toNat < 256 := c.toNat_lt
      have b1 := u8_or_nat c.toNat 32 hcl (by decide)
      obtain ⟨o, ho⟩ : ∃ o, o = c.toNat ||| 32 := ⟨_, rfl⟩
      have b2 : bits .or .u8 (c.toNat : Int) 32 = (o : Int) := by rw [ho]; exact b1
      have HC := Lib.hid (HI.out (o : Int))
      have hx : Lib.indexByte S.data.toList ((o : Int).toNat.toUInt8) = hexD c := by
        unfold hexD; rw [HS.out, ho]; rfl
      rw [hx] at HC
      rw [baseO] at h2
      have hdb : -1 ≤ hexD c ∧ hexD c ≤ 16 := ⟨Lib.indexByte_ge _ _, indexByte_lt _ _⟩
      have hnI : (n : Int) < (s.size : Int) := by omega
      generalize hexD c = d at *
      clear hd hc b1 ho hx hl HI
      by_cases hb : d < 0 ∨ c.toNat < 48
      · rw [if_pos hb] at h2
        have h4 := Option.some.inj h2
        obtain ⟨rfl, rfl⟩ := Prod.mk.inj h4
        clear h2 h4
        rcases Int.lt_or_le d 0 with hd0 | hd0
        · go_wp2_with fail
          refine HC.out.mono ?_
          rintro e w1 ⟨rfl, rfl⟩
          go_wp2_with fail
          go_ret2
          exact ⟨rfl, rfl⟩
        · have hc48 : (c.toNat : Int) < 48 := by omega
          go_wp2_with fail
          refine HC.out.mono ?_
          rintro e w1 ⟨rfl, rfl⟩
          go_wp2_with fail
          go_ret2
          exact ⟨rfl, rfl⟩
      · rw [if_neg hb] at h2
        rw [Option.bind_eq_some_iff] at h2
        obtain ⟨y, h4, h5⟩ := h2
        rw [Option.bind_eq_some_iff] at h5
        obtain ⟨z, h6, h7⟩ := h5
        have H7 := Lib.hid h7
        have m1 : ∀ t w, (binOp .mul t (.float .f64 x) (.float .f64 4625196817309499392)).run Tryd.prog w = .ok (.float .f64 y) w := fun t w => run_float_arith w .mul t .f64 x _ y h4
        have m2 : ∀ t w, (binOp .add t (.float .f64 y) (.float .f64 (floatOfInt FloatKind.f64 d))).run Tryd.prog w = .ok (.float .f64 z) w := fun t w => run_float_arith w .add t .f64 y _ z h6
        have hd0 : 0 ≤ d := by omega
        have hc48 : 48 ≤ (c.toNat : Int) := by omega
        clear h4 h6 h7 hb
        go_wp2_with fail
        refine HC.out.mono ?_
        rintro e w1 ⟨rfl, rfl⟩
        go_wp2_with fail
        go_round
        case rel => exact ⟨z, n + 1, rfl, rfl, by omega, H7.out⟩
        case measure => simp only [intOf]; omega
    · have h3 : baseO (s.data.toList.drop n) x n = some (x, n) := by rw [List.drop_eq_nil_of_le (by omega)]; rfl
      rw [h3] at h2
      have h4 := Option.some.inj h2
      obtain ⟨rfl, rfl⟩ := Prod.mk.inj h4
      have hn2 : (s.size : Int) ≤ (n : Int) := by omega
      clear h2 h3 h4 hl
      go_wp2_with fail
      go_ret2
      exact ⟨rfl, rfl⟩

set_option maxRecDepth 100000 in
set_option maxHeartbeats 4000000 in
theorem Literal_hex (s : ByteArray) (X N : Nat) (w : World) (hs : s.size ≤ 1000000) (hp : Lib.hasPrefix s.data.toList [48, 120] = true) (h : baseO ((s.data.toList.take 15).drop 2) 0 0 = some (X, N)) (hN : 0 < N) (hN2 : N ≤ 1000) :
    Calls Tryd.prog 30 #[.string s] w fun e w' => e = .returned (.tuple #[.float .f64 X, .int .i64 (2 + (N : Int))]) ∧ w = w' := by
  have hP1 := Lib.hid (fun W => Tryd.strings_HasPrefix s ⟨#[48, 120]⟩ W)
  have hl : s.data.toList.length = s.size := (size_list s).symm
  have h2 : 2 ≤ s.size := by
    rw [← hl]
    unfold Lib.hasPrefix at hp
    have := (List.isPrefixOf_iff_prefix.1 hp).length_le
    simpa using this
  obtain ⟨z, hz⟩ : ∃ z, z = min s.size 15 := ⟨_, rfl⟩
  have hz2 : min (s.size : Int) 15 = (z : Int) := by omega
  have hs2 : 2 ≤ z := by omega
  have hs3 : z ≤ s.size := by omega
  have hd : (s.extract 2 z).data.toList = (s.data.toList.take 15).drop 2 := by
    rw [ByteArray.data_extract, Array.toList_extract, List.extract_eq_take_drop, hz, List.drop_take]
    rcases Nat.lt_or_ge s.size 15 with h5 | h5
    · rw [Nat.min_eq_left (by omega), List.take_of_length_le (by rw [List.length_drop]; omega), List.take_of_length_le (by rw [List.length_drop]; omega)]
    · rw [Nat.min_eq_right h5]
  rw [← hd] at h
  have HB := Lib.hid (base_any (s.extract 2 z) X N w (by rw [ByteArray.size_extract]; omega) h)
  rw [show hexS = ⟨#[48, 49, 50, 51, 52, 53, 54, 55, 56, 57, 97, 98, 99, 100, 101, 102]⟩ from rfl] at HB
  have hNi : 0 < (N : Int) := by omega
  clear h hd hl hN hz
  go_enter Tryd.func30, Tryd.ntmps30
  go_wp2_with fail
  refine (hP1.out _).mono ?_
  rintro e w1 ⟨rfl, rfl⟩
  rw [hp]
  clear hp hP1
  go_wp2_with fail
  refine HB.out.mono ?_
  rintro e w1 ⟨rfl, rfl⟩
  go_wp2_with fail
  go_ret2
  exact ⟨rfl, rfl⟩
end Go.Proofs.YtkaelmbgfcehhaaDoor
end

section
/- Plain: digits of base sixteen, as the document counts them. -/
namespace Go.Proofs.YtkaelmbgfcehhaaDoor
open Go
set_option linter.unusedVariables false

/-- the document's digit of base sixteen; less than nought: none -/
def hx (c : Nat) : Int := if 48 ≤ c ∧ c ≤ 57 then (c : Int) - 48 else if 97 ≤ c ∧ c ≤ 102 then (c : Int) - 87 else if 65 ≤ c ∧ c ≤ 70 then (c : Int) - 55 else -1
def hxAll : Bool := (List.range 256).all fun n => (if hexD (UInt8.ofNat n) < 0 ∨ n < 48 then (-1 : Int) else hexD (UInt8.ofNat n)) == hx n
theorem hx_all : hxAll = true := by kernel_rfl
theorem hexD_hx (c : UInt8) : (if hexD c < 0 ∨ c.toNat < 48 then (-1 : Int) else hexD c) = hx c.toNat := by
  have h := List.all_eq_true.1 hx_all c.toNat (List.mem_range.2 c.toNat_lt)
  have h2 := eq_of_beq h
  rwa [UInt8.ofNat_toNat] at h2
theorem hx_ge (c : Nat) : -1 ≤ hx c := by unfold hx; split <;> (try split) <;> (try split) <;> omega
theorem hx_le (c : Nat) : hx c ≤ 15 := by unfold hx; split <;> (try split) <;> (try split) <;> omega
/-- the number that digits of base sixteen write, and how many they are -/
def hexR : List UInt8 → Nat → Nat → Nat × Nat
  | [], m, n => (m, n)
  | c :: l, m, n => if hx c.toNat < 0 then (m, n) else hexR l (16 * m + (hx c.toNat).toNat) (n + 1)
theorem ofN_16 : ofN 16 = 4625196817309499392 := by kernel_rfl
theorem baseO_hexR : ∀ (l : List UInt8) (m n : Nat), (m + 1) * 16 ^ l.length ≤ 4503599627370496 → baseO l (ofN m) n = some (ofN (hexR l m n).1, (hexR l m n).2)
  | [], m, n, _ => rfl
  | c :: l, m, n, h => by
    have hx1 := hexD_hx c
    rw [baseO, hexR]
    by_cases hb : hexD c < 0 ∨ c.toNat < 48
    · rw [if_pos hb] at hx1 ⊢
      rw [if_pos (by omega)]
    · rw [if_neg hb] at hx1 ⊢
      obtain ⟨k, hk⟩ : ∃ k : Nat, hx c.toNat = (k : Int) := ⟨_, (Int.toNat_of_nonneg (by rw [← hx1]; omega)).symm⟩
      have hk2 := hx_le c.toNat
      rw [hx1, hk, if_neg (by omega)]
      rw [List.length_cons, Nat.pow_succ] at h
      have hp : 0 < 16 ^ l.length := Nat.pow_pos (by decide)
      have h2 : (m + 1) * 16 * 16 ^ l.length ≤ 4503599627370496 := by rw [Nat.mul_assoc, Nat.mul_comm 16]; exact h
      have h3 : (m + 1) * 16 ≤ 4503599627370496 := Nat.le_trans (Nat.le_mul_of_pos_right _ hp) h2
      have e1 : FloatKind.f64.format.mul (ofN m) 4625196817309499392 = some (ofN (m * 16)) := by rw [← ofN_16]; exact mul_whole (by omega) (by decide) (by decide)
      have e2 : FloatKind.f64.format.add (ofN (m * 16)) (floatOfInt FloatKind.f64 (k : Int)) = some (ofN (m * 16 + k)) := add_whole (by omega)
      rw [e1, Option.bind_some, e2, Option.bind_some, Int.toNat_natCast, Nat.mul_comm m 16]
      refine baseO_hexR l _ _ (Nat.le_trans (Nat.mul_le_mul_right _ ?_) h2)
      omega
/-- of base sixteen: the digits behind the first two bytes, fourteen at most -/
def hexL (l : List UInt8) : List UInt8 := (l.take 15).drop 2
theorem hexL_len (l : List UInt8) : (hexL l).length ≤ 13 := by unfold hexL; rw [List.length_drop, List.length_take]; omega
theorem base_hex (l : List UInt8) : baseO (hexL l) 0 0 = some (ofN (hexR (hexL l) 0 0).1, (hexR (hexL l) 0 0).2) := by
  have h := baseO_hexR (hexL l) 0 0 (by
    refine Nat.le_trans (Nat.mul_le_mul_left _ (Nat.pow_le_pow_right (by decide) (hexL_len l))) ?_
    decide)
  rwa [ofN_zero] at h
theorem hexR_ge : ∀ (l : List UInt8) (m n : Nat), n ≤ (hexR l m n).2 ∧ (hexR l m n).2 ≤ n + l.length
  | [], m, n => ⟨Nat.le_refl _, Nat.le_refl _⟩
  | c :: l, m, n => by
    rw [hexR]
    split
    · exact ⟨Nat.le_refl _, by omega⟩
    · have := hexR_ge l (16 * m + (hx c.toNat).toNat) (n + 1)
      rw [List.length_cons]; omega
/-- is a numeral of base sixteen there? -/
def isHex (l : List UInt8) : Bool := (Lib.hasPrefix l [48, 120] || Lib.hasPrefix l [48, 88]) && decide (0 < (hexR (hexL l) 0 0).2)
/-- what num.Literal tells -/
def litV (l : List UInt8) : Nat := if isHex l then ofN (hexR (hexL l) 0 0).1 else if (numeralL l).2.2 = 0 then 0 else readN (numeralL l).1 (numeralL l).2.1
def litN (l : List UInt8) : Nat := if isHex l then 2 + (hexR (hexL l) 0 0).2 else (numeralL l).2.2
end Go.Proofs.YtkaelmbgfcehhaaDoor
end

section
/- Package num: Literal at any text. -/
namespace Go.Proofs.YtkaelmbgfcehhaaDoor
open Go.RowKit
set_option linter.unusedVariables false

theorem two_len {l p : List UInt8} (h : Lib.hasPrefix l p = true) : p.length ≤ l.length := by
  unfold Lib.hasPrefix at h
  exact (List.isPrefixOf_iff_prefix.1 h).length_le
set_option maxRecDepth 100000 in
set_option maxHeartbeats 8000000 in
theorem Literal_any (s : ByteArray) (w : World) (hs : s.size ≤ 100000) :
    Calls Tryd.prog 30 #[.string s] w fun e w' => e = .returned (.tuple #[.float .f64 (litV s.data.toList), .int .i64 (litN s.data.toList : Nat)]) ∧ Below w.heap.size w w' := by
  have hl : s.data.toList.length = s.size := (size_list s).symm
  obtain ⟨A3, X3, M, hnum⟩ : ∃ A3 X3 M, numeralL s.data.toList = (A3, X3, M) := ⟨_, _, _, rfl⟩
  have hnf := numeralL_facts s.data.toList
  have hnl := numeralL_len s.data.toList
  obtain ⟨X, N, hhex⟩ : ∃ X N, hexR (hexL s.data.toList) 0 0 = (X, N) := ⟨_, _, rfl⟩
  have hbase := base_hex s.data.toList
  have hN13 := (hexR_ge (hexL s.data.toList) 0 0).2
  have hN14 := hexL_len s.data.toList
  have HNm := Lib.hid (fun W => numeral_any s W (by omega))
  rw [hhex] at hbase hN13
  simp only [hnum] at hnf hnl HNm
  have hN3 : N ≤ 1000 := by simp only [] at hN13; omega
  have HRd : Hid (∀ (a : ByteArray) (W : World), a.data.toList = A3 → Calls Tryd.prog 42 #[.string a, .int .i64 X3] W fun e w' => e = .returned (.float .f64 (readN A3 X3)) ∧ Below W.heap.size W w') := fun a W h => by
    have hz : a.size ≤ 140737488355328 := by rw [size_list, h]; omega
    have := read_any a X3 W (by rw [h]; exact hnf.1) hz (by omega) (by omega)
    rw [h] at this; exact this
  have HV1 : Hid ((Lib.hasPrefix s.data.toList [48, 120] || Lib.hasPrefix s.data.toList [48, 88]) = true → 0 < N → litV s.data.toList = ofN X ∧ litN s.data.toList = 2 + N) := fun h1 h2 => by
    have : isHex s.data.toList = true := by unfold isHex; rw [h1, hhex]; simpa using h2
    unfold litV litN
    rw [this, if_pos rfl, if_pos rfl, hhex]
    exact ⟨rfl, rfl⟩
  have HV2 : Hid (((Lib.hasPrefix s.data.toList [48, 120] || Lib.hasPrefix s.data.toList [48, 88]) = false ∨ N = 0) → litV s.data.toList = (if M = 0 then 0 else readN A3 X3) ∧ litN s.data.toList = M) := fun h1 => by
    have : isHex s.data.toList = false := by
      unfold isHex; rw [hhex]
      rcases h1 with h | h
      · rw [h]; rfl
      · rw [h]; simp
    unfold litV litN
    rw [this, if_neg Bool.false_ne_true, if_neg Bool.false_ne_true, hnum]
    exact ⟨rfl, rfl⟩
  generalize litV s.data.toList = LV at *
  generalize litN s.data.toList = LN at *
  have hP1 := Lib.hid (fun W => Tryd.strings_HasPrefix s ⟨#[48, 120]⟩ W)
  have hP2 := Lib.hid (fun W => Tryd.strings_HasPrefix s ⟨#[48, 88]⟩ W)
  obtain ⟨z, hz⟩ : ∃ z, z = min s.size 15 := ⟨_, rfl⟩
  have hz2 : min (s.size : Int) 15 = (z : Int) := by omega
  have hs3 : z ≤ s.size := by omega
  have hd : (s.extract 2 z).data.toList = hexL s.data.toList := by
    unfold hexL
    rw [ByteArray.data_extract, Array.toList_extract, List.extract_eq_take_drop, hz, List.drop_take]
    rcases Nat.lt_or_ge s.size 15 with h5 | h5
    · rw [Nat.min_eq_left (by omega), List.take_of_length_le (by rw [List.length_drop]; omega), List.take_of_length_le (by rw [List.length_drop]; omega)]
    · rw [Nat.min_eq_right h5]
  rw [← hd] at hbase
  have HB := Lib.hid (fun W => base_any (s.extract 2 z) (ofN X) N W (by rw [ByteArray.size_extract]; omega) hbase)
  rw [show hexS = ⟨#[48, 49, 50, 51, 52, 53, 54, 55, 56, 57, 97, 98, 99, 100, 101, 102]⟩ from rfl] at HB
  have H2 : ∀ b : Nat, b = 2 → (Lib.hasPrefix s.data.toList [48, 120] = true ∨ Lib.hasPrefix s.data.toList [48, 88] = true) → b ≤ z := by
    rintro b rfl h
    have : 2 ≤ s.data.toList.length := by rcases h with h | h <;> exact two_len h
    omega
  clear hbase hd hN13 hN14 hnum hhex hnf hnl hl hz
  cases ha : Lib.hasPrefix s.data.toList [48, 120]
  · cases hb : Lib.hasPrefix s.data.toList [48, 88]
    · by_cases hM : M = 0
      · have HV := Lib.hid (HV2.out (.inl (by rw [ha, hb]; rfl)))
        rw [if_pos hM] at HV
        have hMI : ((M : Int) == 0) = true := by rw [beq_iff_eq]; omega
        have hM2 : Hid (M = 0) := hM
        clear hM
        go_enter Tryd.func30, Tryd.ntmps30
        go_wp2_with fail
        refine (hP1.out _).mono ?_
        rintro e _ ⟨rfl, rfl⟩
        rw [ha]
        clear ha hP1
        go_wp2_with fail
        refine (hP2.out _).mono ?_
        rintro e _ ⟨rfl, rfl⟩
        rw [hb]
        clear hb hP2
        go_wp2_with fail
        refine (HNm.out _).mono ?_
        rintro e w1 ⟨a, rfl, ha3, hb1⟩
        have HA := Lib.hid (fun W => HRd.out a W ha3)
        have HB1 := Lib.hid hb1
        have hs1 := hb1.size
        clear hb1 ha3
        go_wp2_with fail
        go_ret2
        exact ⟨by rw [HV.out.1, HV.out.2, hM2.out]; rfl, HB1.out⟩
      · have HV := Lib.hid (HV2.out (.inl (by rw [ha, hb]; rfl)))
        rw [if_neg hM] at HV
        have hMI : ((M : Int) == 0) = false := beq_eq_false_iff_ne.2 (by omega)
        clear hM
        go_enter Tryd.func30, Tryd.ntmps30
        go_wp2_with fail
        refine (hP1.out _).mono ?_
        rintro e _ ⟨rfl, rfl⟩
        rw [ha]
        clear ha hP1
        go_wp2_with fail
        refine (hP2.out _).mono ?_
        rintro e _ ⟨rfl, rfl⟩
        rw [hb]
        clear hb hP2
        go_wp2_with fail
        refine (HNm.out _).mono ?_
        rintro e w1 ⟨a, rfl, ha3, hb1⟩
        have HA := Lib.hid (fun W => HRd.out a W ha3)
        have HB1 := Lib.hid hb1
        have hs1 := hb1.size
        clear hb1 ha3
        go_wp2_with fail
        refine (HA.out _).mono ?_
        rintro e w2 ⟨rfl, hb2⟩
        have HB2 := Lib.hid (HB1.out.trans (hb2.mono hs1))
        clear hb2
        go_wp2_with fail
        go_ret2
        exact ⟨by rw [HV.out.1, HV.out.2]; rfl, HB2.out⟩
    · have h2z : 2 ≤ z := H2 2 rfl (.inr hb)
      clear H2
      by_cases hN : N = 0
      · by_cases hM : M = 0
        · have HV := Lib.hid (HV2.out (.inr hN))
          rw [if_pos hM] at HV
          have hMI : ((M : Int) == 0) = true := by rw [beq_iff_eq]; omega
          have hM2 : Hid (M = 0) := hM
          clear hM
          have hNI : decide (0 < (N : Int)) = false := by simp; omega
          have hNJ : (N : Int) ≤ 0 := by omega
          clear hN
          go_enter Tryd.func30, Tryd.ntmps30
          go_wp2_with fail
          refine (hP1.out _).mono ?_
          rintro e _ ⟨rfl, rfl⟩
          rw [ha]
          clear ha hP1
          go_wp2_with fail
          refine (hP2.out _).mono ?_
          rintro e _ ⟨rfl, rfl⟩
          rw [hb]
          clear hb hP2
          go_wp2_with fail
          refine (HB.out _).mono ?_
          rintro e _ ⟨rfl, rfl⟩
          go_wp2_with fail
          refine (HNm.out _).mono ?_
          rintro e w1 ⟨a, rfl, ha3, hb1⟩
          have HA := Lib.hid (fun W => HRd.out a W ha3)
          have HB1 := Lib.hid hb1
          have hs1 := hb1.size
          clear hb1 ha3
          go_wp2_with fail
          go_ret2
          exact ⟨by rw [HV.out.1, HV.out.2, hM2.out]; rfl, HB1.out⟩
        · have HV := Lib.hid (HV2.out (.inr hN))
          rw [if_neg hM] at HV
          have hMI : ((M : Int) == 0) = false := beq_eq_false_iff_ne.2 (by omega)
          clear hM
          have hNI : decide (0 < (N : Int)) = false := by simp; omega
          have hNJ : (N : Int) ≤ 0 := by omega
          clear hN
          go_enter Tryd.func30, Tryd.ntmps30
          go_wp2_with fail
          refine (hP1.out _).mono ?_
          rintro e _ ⟨rfl, rfl⟩
          rw [ha]
          clear ha hP1
          go_wp2_with fail
          refine (hP2.out _).mono ?_
          rintro e _ ⟨rfl, rfl⟩
          rw [hb]
          clear hb hP2
          go_wp2_with fail
          refine (HB.out _).mono ?_
          rintro e _ ⟨rfl, rfl⟩
          go_wp2_with fail
          refine (HNm.out _).mono ?_
          rintro e w1 ⟨a, rfl, ha3, hb1⟩
          have HA := Lib.hid (fun W => HRd.out a W ha3)
          have HB1 := Lib.hid hb1
          have hs1 := hb1.size
          clear hb1 ha3
          go_wp2_with fail
          refine (HA.out _).mono ?_
          rintro e w2 ⟨rfl, hb2⟩
          have HB2 := Lib.hid (HB1.out.trans (hb2.mono hs1))
          clear hb2
          go_wp2_with fail
          go_ret2
          exact ⟨by rw [HV.out.1, HV.out.2]; rfl, HB2.out⟩
      · have hNI : 0 < (N : Int) := by omega
        have HV := Lib.hid (HV1.out (by rw [ha, hb]; rfl) (by omega))
        clear hN
        go_enter Tryd.func30, Tryd.ntmps30
        go_wp2_with fail
        refine (hP1.out _).mono ?_
        rintro e _ ⟨rfl, rfl⟩
        rw [ha]
        clear ha hP1
        go_wp2_with fail
        refine (hP2.out _).mono ?_
        rintro e _ ⟨rfl, rfl⟩
        rw [hb]
        clear hb hP2
        go_wp2_with fail
        refine (HB.out _).mono ?_
        rintro e _ ⟨rfl, rfl⟩
        go_wp2_with fail
        go_ret2
        exact ⟨by rw [HV.out.1, HV.out.2]; rfl, Below.refl _ _⟩
  · have h2z : 2 ≤ z := H2 2 rfl (.inl ha)
    clear H2
    by_cases hN : N = 0
    · by_cases hM : M = 0
      · have HV := Lib.hid (HV2.out (.inr hN))
        rw [if_pos hM] at HV
        have hMI : ((M : Int) == 0) = true := by rw [beq_iff_eq]; omega
        have hM2 : Hid (M = 0) := hM
        clear hM
        have hNI : decide (0 < (N : Int)) = false := by simp; omega
        have hNJ : (N : Int) ≤ 0 := by omega
        clear hN
        go_enter Tryd.func30, Tryd.ntmps30
        go_wp2_with fail
        refine (hP1.out _).mono ?_
        rintro e _ ⟨rfl, rfl⟩
        rw [ha]
        clear ha hP1
        go_wp2_with fail
        refine (HB.out _).mono ?_
        rintro e _ ⟨rfl, rfl⟩
        go_wp2_with fail
        refine (HNm.out _).mono ?_
        rintro e w1 ⟨a, rfl, ha3, hb1⟩
        have HA := Lib.hid (fun W => HRd.out a W ha3)
        have HB1 := Lib.hid hb1
        have hs1 := hb1.size
        clear hb1 ha3
        go_wp2_with fail
        go_ret2
        exact ⟨by rw [HV.out.1, HV.out.2, hM2.out]; rfl, HB1.out⟩
      · have HV := Lib.hid (HV2.out (.inr hN))
        rw [if_neg hM] at HV
        have hMI : ((M : Int) == 0) = false := beq_eq_false_iff_ne.2 (by omega)
        clear hM
        have hNI : decide (0 < (N : Int)) = false := by simp; omega
        have hNJ : (N : Int) ≤ 0 := by omega
        clear hN
        go_enter Tryd.func30, Tryd.ntmps30
        go_wp2_with fail
        refine (hP1.out _).mono ?_
        rintro e _ ⟨rfl, rfl⟩
        rw [ha]
        clear ha hP1
        go_wp2_with fail
        refine (HB.out _).mono ?_
        rintro e _ ⟨rfl, rfl⟩
        go_wp2_with fail
        refine (HNm.out _).mono ?_
        rintro e w1 ⟨a, rfl, ha3, hb1⟩
        have HA := Lib.hid (fun W => HRd.out a W ha3)
        have HB1 := Lib.hid hb1
        have hs1 := hb1.size
        clear hb1 ha3
        go_wp2_with fail
        refine (HA.out _).mono ?_
        rintro e w2 ⟨rfl, hb2⟩
        have HB2 := Lib.hid (HB1.out.trans (hb2.mono hs1))
        clear hb2
        go_wp2_with fail
        go_ret2
        exact ⟨by rw [HV.out.1, HV.out.2]; rfl, HB2.out⟩
    · have hNI : 0 < (N : Int) := by omega
      have HV := Lib.hid (HV1.out (by rw [ha]; rfl) (by omega))
      clear hN
      go_enter Tryd.func30, Tryd.ntmps30
      go_wp2_with fail
      refine (hP1.out _).mono ?_
      rintro e _ ⟨rfl, rfl⟩
      rw [ha]
      clear ha hP1
      go_wp2_with fail
      refine (HB.out _).mono ?_
      rintro e _ ⟨rfl, rfl⟩
      go_wp2_with fail
      go_ret2
      exact ⟨by rw [HV.out.1, HV.out.2]; rfl, Below.refl _ _⟩
end Go.Proofs.YtkaelmbgfcehhaaDoor
end

section
/- Package lex, plain: the lines of the tokens. -/
namespace Go.Proofs.YtkaelmbgfcehhaaDoor
open Go.RowKit
set_option linter.unusedVariables false

/-- what a numeral takes stands there, in one line -/
def LitOk (lit : List UInt8 → Nat × Nat) : Prop := ∀ R, (lit R).2 ≤ R.length ∧ (10 : UInt8) ∉ R.take (lit R).2
theorem signs_no : (signsL.all fun p => decide (0 < p.length) && !p.contains 10) = true := by decide
section
variable {lit : List UInt8 → Nat × Nat}
theorem tok_lines (hl : LitOk lit) {R : List UInt8} {last : Option TokT} {k l : Nat} {tok : Option (Nat × List UInt8 × Nat)} (h : tokR lit R last = .go k l tok) :
    1 ≤ k ∧ k ≤ R.length ∧ l = (R.take k).count 10 ∧ ∃ kd t x, tok = some (kd, t, x) ∧ 1 ≤ kd ∧ kd ≤ 7 := by
  cases R with
  | nil => cases h
  | cons b T =>
    unfold tokR at h
    simp only [] at h
    by_cases h1 : firstC b = true
    · rw [if_pos h1] at h
      injection h with e1 e2 e3
      obtain ⟨w1, w2, w3⟩ := word_lines (b :: T)
      have w4 := name_pos (T := T) h1
      subst e1 e2 e3
      refine ⟨by omega, w3, w1.symm, _, _, _, rfl, ?_, ?_⟩ <;> split <;> (try split) <;> decide
    rw [if_neg h1] at h
    by_cases h2 : ((decide (48 ≤ b.toNat) && decide (b.toNat ≤ 57) || b == 46) && decide (0 < (lit (b :: T)).2)) = true
    · rw [if_pos h2] at h
      have hp : 0 < (lit (b :: T)).2 := by rw [Bool.and_eq_true] at h2; exact of_decide_eq_true h2.2
      obtain ⟨l1, l2⟩ := hl (b :: T)
      by_cases h3 : (FloatKind.f64.format.order (lit (b :: T)).1 9218868437227405311 == some .gt) = true
      · rw [if_pos h3] at h; cases h
      · rw [if_neg h3] at h
        injection h with e1 e2 e3
        subst e1 e2 e3
        exact ⟨hp, l1, (count_zero l2).symm, _, _, _, rfl, by decide, by decide⟩
    rw [if_neg h2] at h
    by_cases h3 : b = 34
    · rw [if_pos h3] at h
      cases ht : textR (b :: T).length T with
      | none => rw [ht] at h; cases h
      | some q =>
        obtain ⟨o, n, l9⟩ := q
        rw [ht] at h
        simp only [] at h
        by_cases h4 : 1024 < o.length
        · rw [if_pos h4] at h; cases h
        · rw [if_neg h4] at h
          injection h with e1 e2 e3
          obtain ⟨t1, t2, t3⟩ := text_lines ht
          subst e1 e2 e3 h3
          refine ⟨by omega, by simp only [List.length_cons]; omega, ?_, _, _, _, rfl, by decide, by decide⟩
          rw [t1, show 1 + n = n + 1 by omega, List.take_succ_cons, List.count_cons_of_ne (by decide)]
    rw [if_neg h3] at h
    by_cases h4 : b = 47 ∧ dividesT last = false
    · rw [if_pos h4] at h
      cases ht : slashR (b :: T).length T with
      | none => rw [ht] at h; cases h
      | some q =>
        obtain ⟨o, n⟩ := q
        rw [ht] at h
        simp only [] at h
        by_cases h5 : 1024 < o.length
        · rw [if_pos h5] at h; cases h
        · rw [if_neg h5] at h
          injection h with e1 e2 e3
          obtain ⟨t1, t2, t3⟩ := slash_lines ht
          subst e1 e2 e3
          refine ⟨by omega, by simp only [List.length_cons]; omega, ?_, _, _, _, rfl, by decide, by decide⟩
          rw [show 1 + n = n + 1 by omega, List.take_succ_cons, h4.1, List.count_cons_of_ne (by decide), t1]
    rw [if_neg h4] at h
    cases hf : signsL.find? (fun p => p.isPrefixOf (b :: T)) with
    | none => rw [hf] at h; cases h
    | some p =>
      rw [hf] at h
      simp only [] at h
      injection h with e1 e2 e3
      subst e1 e2 e3
      have hm := List.mem_of_find?_eq_some hf
      have hp := List.find?_some hf
      simp only [List.isPrefixOf_iff_prefix] at hp
      have h9 := List.all_eq_true.1 signs_no p hm
      rw [Bool.and_eq_true, decide_eq_true_eq] at h9
      have h10 : (10 : UInt8) ∉ p := by simpa using h9.2
      refine ⟨h9.1, hp.length_le, ?_, _, _, _, rfl, by decide, by decide⟩
      rw [← List.prefix_iff_eq_take.1 hp, count_zero h10]
theorem step_lines (hl : LitOk lit) {R : List UInt8} {last : Option TokT} {k l : Nat} {tok : Option (Nat × List UInt8 × Nat)} (h : stepR lit R last = .go k l tok) :
    1 ≤ k ∧ k ≤ R.length ∧ l = (R.take k).count 10 ∧ ∀ kd t x, tok = some (kd, t, x) → 1 ≤ kd ∧ kd ≤ 8 ∧ (kd = 8 → l = 1) := by
  cases R with
  | nil => cases h
  | cons b T =>
    unfold stepR at h
    simp only [] at h
    by_cases h1 : b = 32 ∨ b = 9 ∨ b = 13
    · rw [if_pos h1] at h
      injection h with e1 e2 e3
      subst e1 e2 e3
      have hb : b ≠ 10 := by rcases h1 with rfl | rfl | rfl <;> decide
      exact ⟨Nat.le_refl _, by simp, by rw [List.take_succ_cons, List.take_zero, List.count_cons_of_ne hb]; rfl, fun _ _ _ h => by cases h⟩
    rw [if_neg h1] at h
    by_cases h2 : b = 10
    · rw [if_pos h2] at h
      injection h with e1 e2 e3
      subst e1 e2 e3 h2
      refine ⟨Nat.le_refl _, by simp, by simp, fun kd t x h => ?_⟩
      injection h with h; injection h with h _
      subst h
      exact ⟨by decide, by decide, fun _ => rfl⟩
    rw [if_neg h2] at h
    by_cases h3 : b = 35
    · rw [if_pos h3] at h
      injection h with e1 e2 e3
      subst e1 e2 e3 h3
      refine ⟨?_, takeWhile_le _ _, (takeWhile_no (by decide) _).symm, fun _ _ _ h => by cases h⟩
      rw [List.takeWhile_cons, if_pos (by decide)]
      simp
    rw [if_neg h3] at h
    by_cases h4 : b = 92 ∧ T.head? = some 10
    · rw [if_pos h4] at h
      injection h with e1 e2 e3
      subst e1 e2 e3
      obtain ⟨T', rfl⟩ : ∃ T', T = 10 :: T' := by
        cases T with
        | nil => cases h4.2
        | cons c T' => have := h4.2; simp at this; exact ⟨T', by rw [this]⟩
      refine ⟨by decide, by simp, ?_, fun _ _ _ h => by cases h⟩
      rw [h4.1]
      rfl
    rw [if_neg h4] at h
    by_cases h5 : b = 92 ∧ T.take 2 = [13, 10]
    · rw [if_pos h5] at h
      injection h with e1 e2 e3
      subst e1 e2 e3
      have hT := h5.2
      refine ⟨by decide, ?_, ?_, fun _ _ _ h => by cases h⟩
      · have := congrArg List.length hT
        rw [List.length_take] at this
        simp at this ⊢
        omega
      · rw [show (3 : Nat) = 2 + 1 from rfl, List.take_succ_cons, hT, h5.1]
        rfl
    rw [if_neg h5] at h
    obtain ⟨a1, a2, a3, kd, t, x, rfl, a4, a5⟩ := tok_lines hl h
    refine ⟨a1, a2, a3, fun kd2 t2 x2 h => ?_⟩
    injection h with h; injection h with h _
    subst h
    exact ⟨a4, by omega, fun h => by omega⟩
theorem tok_errs {R : List UInt8} {last : Option TokT} {e : Nat} (h : tokR lit R last = .bad e) : e = 200 ∨ e = 201 ∨ e = 202 := by
  cases R with
  | nil => injection h with h; exact .inl h.symm
  | cons b T =>
    unfold tokR at h
    simp only [] at h
    repeat' split at h
    all_goals first | (cases h; done) | (injection h with h; subst h; simp; done)
theorem step_errs {R : List UInt8} {last : Option TokT} {e : Nat} (h : stepR lit R last = .bad e) : e = 200 ∨ e = 201 ∨ e = 202 := by
  cases R with
  | nil => injection h with h; exact .inl h.symm
  | cons b T =>
    unfold stepR at h
    simp only [] at h
    repeat' split at h
    all_goals first | (cases h; done) | exact tok_errs h
/-- the tokens of a right text behind those that were there: their lines lie within the text's, and rise; the last is the end -/
theorem scan_lines (hl : LitOk lit) : ∀ (n : Nat) (R : List UInt8) (line : Nat) (toks L : List TokT), scanR lit n R line toks = .ok L →
    ∃ M, L = toks ++ (M ++ [(9, [], 0, line + R.count 10)]) ∧ (∀ m ∈ M, 1 ≤ m.1 ∧ m.1 ≤ 8 ∧ line ≤ m.2.2.2 ∧ m.2.2.2 ≤ line + R.count 10) ∧ M.Pairwise (fun a b => a.2.2.2 ≤ b.2.2.2) ∧ (M.filter fun m => m.1 == 8).length ≤ R.count 10 := by
  intro n
  induction n with
  | zero => intro R line toks L h; cases h
  | succ n ih =>
    intro R line toks L h
    unfold scanR at h
    by_cases hR : R = []
    · rw [if_pos hR] at h
      injection h with h
      subst h hR
      exact ⟨[], by simp, (fun m hm => by cases hm), List.Pairwise.nil, Nat.zero_le _⟩
    rw [if_neg hR] at h
    cases hs : stepR lit R toks.getLast? with
    | bad e => rw [hs] at h; cases h
    | go k l tok =>
      rw [hs] at h
      simp only [] at h
      obtain ⟨s1, s2, s3, s4⟩ := step_lines hl hs
      have hc : R.count 10 = l + (R.drop k).count 10 := by
        conv => lhs; rw [← List.take_append_drop k R]
        rw [List.count_append, s3]
      cases tok with
      | none =>
        simp only [] at h
        obtain ⟨M, m1, m2, m3, m4⟩ := ih _ _ _ _ h
        refine ⟨M, by rw [m1, hc, Nat.add_assoc], fun m hm => ?_, m3, by omega⟩
        obtain ⟨a1, a2, a3, a4⟩ := m2 m hm
        exact ⟨a1, a2, by omega, by omega⟩
      | some q =>
        obtain ⟨kd, t, x⟩ := q
        simp only [] at h
        obtain ⟨M, m1, m2, m3, m4⟩ := ih _ _ _ _ h
        obtain ⟨b1, b2, b3⟩ := s4 kd t x rfl
        refine ⟨(kd, t, x, line) :: M, by rw [m1, hc, Nat.add_assoc]; simp, fun m hm => ?_, ?_, ?_⟩
        · rcases List.mem_cons.1 hm with rfl | hm
          · exact ⟨b1, b2, Nat.le_refl _, by show line ≤ _; omega⟩
          · obtain ⟨a1, a2, a3, a4⟩ := m2 m hm
            exact ⟨a1, a2, by omega, by omega⟩
        · refine List.Pairwise.cons (fun m hm => ?_) m3
          have := (m2 m hm).2.2.1
          show line ≤ _
          omega
        · rw [List.filter_cons]
          split
          · rename_i h8
            have : kd = 8 := by simpa using h8
            have := b3 this
            simp only [List.length_cons]
            omega
          · omega
theorem scan_bad (hl : LitOk lit) : ∀ (n : Nat) (R : List UInt8) (line : Nat) (toks : List TokT) (ln e : Nat), R.length < n → scanR lit n R line toks = .error (ln, e) → line ≤ ln ∧ ln ≤ line + R.count 10 ∧ (e = 200 ∨ e = 201 ∨ e = 202) := by
  intro n
  induction n with
  | zero => intro R line toks ln e h; omega
  | succ n ih =>
    intro R line toks ln e hn h
    unfold scanR at h
    by_cases hR : R = []
    · rw [if_pos hR] at h; cases h
    rw [if_neg hR] at h
    cases hs : stepR lit R toks.getLast? with
    | bad e2 =>
      rw [hs] at h
      injection h with h; injection h with h1 h2
      subst h1 h2
      refine ⟨Nat.le_refl _, by omega, step_errs hs⟩
    | go k l tok =>
      rw [hs] at h
      simp only [] at h
      obtain ⟨s1, s2, s3, s4⟩ := step_lines hl hs
      have hc : R.count 10 = l + (R.drop k).count 10 := by
        conv => lhs; rw [← List.take_append_drop k R]
        rw [List.count_append, s3]
      obtain ⟨a1, a2, a3⟩ := ih _ _ _ _ _ (by rw [List.length_drop]; omega) h
      exact ⟨by omega, by omega, a3⟩
end
end Go.Proofs.YtkaelmbgfcehhaaDoor
end

section
/- Package lex, plain: a step looks no further than the line's end behind a right text. -/
namespace Go.Proofs.YtkaelmbgfcehhaaDoor
open Go.RowKit
set_option linter.unusedVariables false

theorem takeWhile_nl {p : UInt8 → Bool} (hp : p 10 = false) (X : List UInt8) : ∀ R : List UInt8, (R ++ 10 :: X).takeWhile p = R.takeWhile p
  | [] => by rw [List.nil_append, List.takeWhile_cons, hp]; rfl
  | a :: R => by
    rw [List.cons_append, List.takeWhile_cons, List.takeWhile_cons, takeWhile_nl hp X R]
theorem name_nl (R X : List UInt8) : nameN (R ++ 10 :: X) = nameN R := by unfold nameN; rw [takeWhile_nl letter_10]
theorem word_nl (R X : List UInt8) : wordN (R ++ 10 :: X) = wordN R := by
  obtain ⟨_, h2⟩ := name_lines R
  unfold wordN
  rw [name_nl, List.drop_append_of_le_length h2]
  match hr : R.drop (nameN R) with
  | [] => rfl
  | [a] =>
    by_cases h : a = 58
    · subst h; rfl
    · simp [h]
  | [a, b] =>
    by_cases h : a = 58
    · subst h
      by_cases h9 : b = 58
      · subst h9; rfl
      · simp [h9]
    · simp [h]
  | a :: b :: c :: T =>
    by_cases h : a = 58
    · subst h
      by_cases h9 : b = 58
      · subst h9
        show (if firstC c then nameN R + 2 + nameN (c :: T ++ 10 :: X) else nameN R) = if firstC c then nameN R + 2 + nameN (c :: T) else nameN R
        rw [name_nl]
      · simp [h9]
    · simp [h]
theorem octs_more {R : List UInt8} (X : List UInt8) (h : (octs R).length < R.length) : octs (R ++ X) = octs R := by
  unfold octs at h ⊢
  match R, h with
  | [a], h =>
    simp only [List.take, List.takeWhile_cons, List.takeWhile_nil] at h ⊢
    cases hp : (decide (48 ≤ a.toNat) && decide (a.toNat ≤ 55))
    · simp [List.takeWhile_cons, hp]
    · rw [hp] at h; simp at h
  | [a, b], h =>
    simp only [List.take, List.takeWhile_cons, List.takeWhile_nil] at h ⊢
    cases hp : (decide (48 ≤ a.toNat) && decide (a.toNat ≤ 55))
    · simp [List.takeWhile_cons, hp]
    · cases hq : (decide (48 ≤ b.toNat) && decide (b.toNat ≤ 55))
      · simp [List.takeWhile_cons, hp, hq]
      · rw [hp, hq] at h; simp at h
  | a :: b :: c :: T, h => rfl
theorem hexs_more {R : List UInt8} (X : List UInt8) (h : (hexs R).length < R.length) : hexs (R ++ X) = hexs R := by
  unfold hexs at h ⊢
  match R, h with
  | [a], h =>
    cases hp : hexC a with
    | none => simp [List.takeWhile_cons, hp]
    | some v => simp [hp] at h
  | a :: b :: T, h => rfl
theorem esc_more {R : List UInt8} (X : List UInt8) (hR : R ≠ []) (h : (escR R).2.1 < R.length) : escR (R ++ X) = escR R := by
  cases R with
  | nil => exact absurd rfl hR
  | cons b T =>
    rw [List.cons_append]
    have key : (¬ (b = 10) → 48 ≤ b.toNat ∧ b.toNat ≤ 55 → octs (b :: T ++ X) = octs (b :: T)) ∧ (b = 120 → hexs (T ++ X) = hexs T) := by
      rw [escR] at h
      constructor
      · intro h10 h8
        have hn : ∀ c : UInt8, 55 < c.toNat → b ≠ c := fun c hc e => by rw [e] at h8; omega
        rw [if_neg (hn 110 (by decide)), if_neg (hn 116 (by decide)), if_neg (hn 114 (by decide)), if_neg (hn 97 (by decide)), if_neg (hn 98 (by decide)), if_neg (hn 102 (by decide)), if_neg (hn 118 (by decide)), if_neg h10, if_pos h8] at h
        exact octs_more X h
      · intro hx
        subst hx
        rw [if_neg (by decide), if_neg (by decide), if_neg (by decide), if_neg (by decide), if_neg (by decide), if_neg (by decide), if_neg (by decide), if_neg (by decide), if_neg (by decide), if_pos rfl] at h
        by_cases he : hexs T = []
        · cases T with
          | nil => rw [if_pos he] at h; simp at h
          | cons c T' => exact hexs_more X (by rw [he]; simp)
        · rw [if_neg he] at h
          simp only [List.length_cons] at h
          exact hexs_more X (by omega)
    rw [escR, escR]
    by_cases h10 : b = 10
    · subst h10; rfl
    by_cases h8 : 48 ≤ b.toNat ∧ b.toNat ≤ 55
    · rw [show b :: (T ++ X) = b :: T ++ X from rfl, key.1 h10 h8, if_pos h8, if_pos h8]
    by_cases hx : b = 120
    · rw [key.2 hx, if_neg h8, if_neg h8]
    · rw [if_neg h8, if_neg h8, if_neg hx, if_neg hx]
theorem text_more (X : List UInt8) : ∀ {n : Nat} {R : List UInt8} {q : List UInt8 × Nat × Nat}, textR n R = some q → ∀ m, n ≤ m → textR m (R ++ X) = some q := by
  intro n
  induction n with
  | zero => intro R q h; cases h
  | succ n ih =>
    intro R q h m hm
    obtain ⟨m, rfl⟩ : ∃ k, m = k + 1 := ⟨m - 1, by omega⟩
    cases R with
    | nil => cases h
    | cons b T =>
      unfold textR at h
      rw [List.cons_append]
      unfold textR
      by_cases h34 : b = 34
      · rw [if_pos h34] at h ⊢; exact h
      rw [if_neg h34] at h ⊢
      by_cases h10 : b = 10
      · rw [if_pos h10] at h; cases h
      rw [if_neg h10] at h ⊢
      by_cases he : b = 92 ∧ T ≠ []
      · rw [if_pos he] at h
        obtain ⟨q2, hq, e⟩ := Option.map_eq_some_iff.1 h
        obtain ⟨o2, k2, l2⟩ := q2
        have h3 := (text_lines hq).2
        rw [List.length_drop] at h3
        have he2 := esc_more X he.2 (by omega)
        rw [if_pos ⟨he.1, by simp [he.2]⟩, he2, List.drop_append_of_le_length (by omega), ih hq m (by omega)]
        exact congrArg some e
      · rw [if_neg he] at h
        obtain ⟨q2, hq, e⟩ := Option.map_eq_some_iff.1 h
        have hT : T ≠ [] := fun h0 => by
          subst h0
          have := (text_lines (o := q2.1) (k := q2.2.1) (l := q2.2.2) hq).2
          simp at this
          omega
        rw [if_neg (fun h9 => he ⟨h9.1, hT⟩), ih hq m (by omega)]
        exact congrArg some e
theorem slash_more (X : List UInt8) : ∀ {n : Nat} {R : List UInt8} {q : List UInt8 × Nat}, slashR n R = some q → ∀ m, n ≤ m → slashR m (R ++ X) = some q := by
  intro n
  induction n with
  | zero => intro R q h; cases h
  | succ n ih =>
    intro R q h m hm
    obtain ⟨m, rfl⟩ : ∃ k, m = k + 1 := ⟨m - 1, by omega⟩
    cases R with
    | nil => cases h
    | cons b T =>
      unfold slashR at h
      rw [List.cons_append]
      unfold slashR
      by_cases h47 : b = 47
      · rw [if_pos h47] at h ⊢; exact h
      rw [if_neg h47] at h ⊢
      by_cases h10 : b = 10
      · rw [if_pos h10] at h; cases h
      rw [if_neg h10] at h ⊢
      by_cases h92 : b = 92
      · rw [if_pos h92] at h ⊢
        cases T with
        | nil => cases h
        | cons c T' =>
          rw [List.cons_append]
          simp only [] at h ⊢
          by_cases hc : c = 10
          · rw [if_pos hc] at h; cases h
          rw [if_neg hc] at h ⊢
          obtain ⟨q2, hq, e⟩ := Option.map_eq_some_iff.1 h
          rw [ih hq m (by omega)]
          exact congrArg some e
      · rw [if_neg h92] at h ⊢
        obtain ⟨q2, hq, e⟩ := Option.map_eq_some_iff.1 h
        rw [ih hq m (by omega)]
        exact congrArg some e
end Go.Proofs.YtkaelmbgfcehhaaDoor
end

section
/- Package lex, plain: the scan of two texts, joined by the end of a line. -/
namespace Go.Proofs.YtkaelmbgfcehhaaDoor
open Go.RowKit
set_option linter.unusedVariables false

theorem prefix_nl {p : List UInt8} (hp : (10 : UInt8) ∉ p) (X : List UInt8) : ∀ R : List UInt8, p.isPrefixOf (R ++ 10 :: X) = p.isPrefixOf R := by
  induction p with
  | nil => intro R; simp
  | cons a p ih =>
    intro R
    cases R with
    | nil =>
      rw [List.nil_append, List.isPrefixOf_cons_cons]
      have : a ≠ 10 := fun h => hp (h ▸ List.mem_cons_self)
      simp [this]
    | cons b T =>
      rw [List.cons_append, List.isPrefixOf_cons_cons, List.isPrefixOf_cons_cons, ih (fun h => hp (List.mem_cons_of_mem _ h))]
theorem find_nl (R X : List UInt8) : (signsL.find? fun p => p.isPrefixOf (R ++ 10 :: X)) = signsL.find? fun p => p.isPrefixOf R := by
  have : ∀ l : List (List UInt8), (∀ p ∈ l, (10 : UInt8) ∉ p) → (l.find? fun p => p.isPrefixOf (R ++ 10 :: X)) = l.find? fun p => p.isPrefixOf R := by
    intro l
    induction l with
    | nil => intro _; rfl
    | cons p l ih =>
      intro h
      rw [List.find?_cons, List.find?_cons, prefix_nl (h p List.mem_cons_self), ih fun q hq => h q (List.mem_cons_of_mem _ hq)]
  refine this signsL fun p hp => ?_
  have h9 := List.all_eq_true.1 signs_no p hp
  rw [Bool.and_eq_true, decide_eq_true_eq] at h9
  simpa using h9.2
section
variable {lit : List UInt8 → Nat × Nat}
theorem tok_92 (T : List UInt8) (last : Option TokT) : tokR lit (92 :: T) last = .bad 200 := by
  unfold tokR
  simp only []
  rw [if_neg (by decide), if_neg (by simp), if_neg (by decide), if_neg (fun h => absurd h.1 (by decide))]
  have : (signsL.find? fun p => p.isPrefixOf (92 :: T)) = none := by
    rw [List.find?_eq_none]
    intro p hp
    have h9 := List.all_eq_true.1 (show (signsL.all fun p => p.head? != some 92 && p != []) = true by decide) p hp
    cases p with
    | nil => simp at h9
    | cons a p =>
      simp at h9
      simp [h9]
  rw [this]
/-- a numeral looks no further than the line's end -/
def LitNl (lit : List UInt8 → Nat × Nat) : Prop := ∀ R X, R ≠ [] → lit (R ++ 10 :: X) = lit R
theorem tok_local (hl : LitNl lit) {R : List UInt8} {last : Option TokT} {k l : Nat} {tok : Option (Nat × List UInt8 × Nat)} (X : List UInt8) (h : tokR lit R last = .go k l tok) :
    tokR lit (R ++ 10 :: X) last = .go k l tok := by
  cases R with
  | nil => cases h
  | cons b T =>
    have hlit := hl (b :: T) X (by simp)
    rw [List.cons_append] at hlit
    unfold tokR at h
    rw [List.cons_append]
    unfold tokR
    simp only [] at h ⊢
    rw [hlit]
    by_cases h1 : firstC b = true
    · rw [if_pos h1] at h ⊢
      have hw := word_nl (b :: T) X
      obtain ⟨_, _, w3⟩ := word_lines (b :: T)
      rw [List.cons_append] at hw
      rw [hw, show b :: (T ++ 10 :: X) = (b :: T) ++ 10 :: X from rfl, List.take_append_of_le_length w3, List.drop_append_of_le_length w3]
      have : ((b :: T).drop (wordN (b :: T)) ++ 10 :: X).head? = some 40 ↔ ((b :: T).drop (wordN (b :: T))).head? = some 40 := by
        cases (b :: T).drop (wordN (b :: T)) with
        | nil => simp
        | cons c Y => simp
      simp only [this]
      exact h
    rw [if_neg h1] at h ⊢
    by_cases h2 : ((decide (48 ≤ b.toNat) && decide (b.toNat ≤ 57) || b == 46) && decide (0 < (lit (b :: T)).2)) = true
    · rw [if_pos h2] at h ⊢; exact h
    rw [if_neg h2] at h ⊢
    by_cases h3 : b = 34
    · rw [if_pos h3] at h ⊢
      cases ht : textR (b :: T).length T with
      | none => rw [ht] at h; cases h
      | some q => rw [text_more (10 :: X) ht (b :: (T ++ 10 :: X)).length (by simp)]; rw [ht] at h; exact h
    rw [if_neg h3] at h ⊢
    by_cases h4 : b = 47 ∧ dividesT last = false
    · rw [if_pos h4] at h ⊢
      cases ht : slashR (b :: T).length T with
      | none => rw [ht] at h; cases h
      | some q => rw [slash_more (10 :: X) ht (b :: (T ++ 10 :: X)).length (by simp)]; rw [ht] at h; exact h
    rw [if_neg h4] at h ⊢
    have hf := find_nl (b :: T) X
    rw [List.cons_append] at hf
    rw [hf]
    exact h
theorem step_local (hl : LitNl lit) {R : List UInt8} {last : Option TokT} {k l : Nat} {tok : Option (Nat × List UInt8 × Nat)} (X : List UInt8) (h : stepR lit R last = .go k l tok) :
    stepR lit (R ++ 10 :: X) last = .go k l tok := by
  cases R with
  | nil => cases h
  | cons b T =>
    unfold stepR at h
    rw [List.cons_append]
    unfold stepR
    simp only [] at h ⊢
    by_cases h1 : b = 32 ∨ b = 9 ∨ b = 13
    · rw [if_pos h1] at h ⊢; exact h
    rw [if_neg h1] at h ⊢
    by_cases h2 : b = 10
    · rw [if_pos h2] at h ⊢; exact h
    rw [if_neg h2] at h ⊢
    by_cases h3 : b = 35
    · rw [if_pos h3] at h ⊢
      rw [show b :: (T ++ 10 :: X) = (b :: T) ++ 10 :: X from rfl, takeWhile_nl (by decide) X]
      exact h
    rw [if_neg h3] at h ⊢
    by_cases h4 : b = 92
    · subst h4
      by_cases h5 : T.head? = some 10
      · obtain ⟨T', rfl⟩ : ∃ T', T = 10 :: T' := by
          cases T with
          | nil => cases h5
          | cons c T' => simp at h5; exact ⟨T', by rw [h5]⟩
        exact h
      by_cases h6 : T.take 2 = [13, 10]
      · match T, h6, h with
        | c :: d :: T', h6, h =>
          simp only [List.take, List.cons.injEq, and_true] at h6
          obtain ⟨rfl, rfl⟩ := h6
          exact h
      rw [if_neg fun h => h5 h.2, if_neg fun h => h6 h.2, tok_92] at h
      cases h
    rw [if_neg fun h => h4 h.1, if_neg fun h => h4 h.1] at h ⊢
    exact tok_local hl X h
/-- enough is enough -/
theorem scan_fuel (hl : LitOk lit) : ∀ (n m : Nat) (R : List UInt8) (line : Nat) (toks : List TokT), R.length < n → R.length < m → scanR lit n R line toks = scanR lit m R line toks := by
  intro n
  induction n with
  | zero => intro m R line toks h; omega
  | succ n ih =>
    intro m R line toks hn hm
    obtain ⟨m, rfl⟩ : ∃ k, m = k + 1 := ⟨m - 1, by omega⟩
    unfold scanR
    by_cases hR : R = []
    · rw [if_pos hR, if_pos hR]
    rw [if_neg hR, if_neg hR]
    cases hs : stepR lit R toks.getLast? with
    | bad e => rfl
    | go k l tok =>
      obtain ⟨s1, s2, _, _⟩ := step_lines hl hs
      exact ih _ _ _ _ (by rw [List.length_drop]; omega) (by rw [List.length_drop]; omega)
theorem tok_last {R : List UInt8} {l1 l2 : Option TokT} (h : dividesT l1 = dividesT l2) : tokR lit R l1 = tokR lit R l2 := by unfold tokR; rw [h]
theorem step_last {R : List UInt8} {l1 l2 : Option TokT} (h : dividesT l1 = dividesT l2) : stepR lit R l1 = stepR lit R l2 := by
  cases R with
  | nil => rfl
  | cons b T => unfold stepR; simp only []; rw [tok_last h]
/-- a token so many lines further down -/
def downT (d : Nat) (t : TokT) : TokT := (t.1, t.2.1, t.2.2.1, t.2.2.2 + d)
theorem divides_down (d : Nat) : ∀ t : Option TokT, dividesT (t.map (downT d)) = dividesT t
  | none => rfl
  | some _ => rfl
def downE (d : Nat) (P : List TokT) : Except (Nat × Nat) (List TokT) → Except (Nat × Nat) (List TokT)
  | .ok L => .ok (P ++ L.map (downT d))
  | .error q => .error (q.1 + d, q.2)
theorem scan_down (hl : LitOk lit) (d : Nat) (P : List TokT) (hP : dividesT P.getLast? = false) : ∀ (n : Nat) (R : List UInt8) (line : Nat) (toks : List TokT), R.length < n →
    scanR lit n R (line + d) (P ++ toks.map (downT d)) = downE d P (scanR lit n R line toks) := by
  intro n
  induction n with
  | zero => intro R line toks h; omega
  | succ n ih =>
    intro R line toks hn
    have hd : dividesT (P ++ toks.map (downT d)).getLast? = dividesT toks.getLast? := by
      by_cases ht : toks = []
      · subst ht; rw [List.map_nil, List.append_nil, hP]; rfl
      · rw [List.getLast?_append, List.getLast?_map, ← divides_down d toks.getLast?]
        cases h : toks.getLast? with
        | none => exact absurd (List.getLast?_eq_none_iff.1 h) ht
        | some t => rfl
    unfold scanR
    by_cases hR : R = []
    · rw [if_pos hR, if_pos hR]
      simp [downT, downE]
    rw [if_neg hR, if_neg hR, step_last hd]
    cases hs : stepR lit R toks.getLast? with
    | bad e => rfl
    | go k l tok =>
      obtain ⟨s1, s2, _, _⟩ := step_lines hl hs
      simp only []
      have h2 : (R.drop k).length < n := by rw [List.length_drop]; omega
      rw [show line + d + l = line + l + d by omega]
      cases tok with
      | none => exact ih _ _ _ h2
      | some q =>
        obtain ⟨kd, t, x⟩ := q
        have := ih (R.drop k) (line + l) (toks ++ [(kd, t, x, line)]) h2
        rw [List.map_append, ← List.append_assoc] at this
        exact this
/-- a right text, the end of a line and another -/
theorem scan_front (hl : LitOk lit) (hn : LitNl lit) (X : List UInt8) : ∀ (n m : Nat) (R : List UInt8) (line : Nat) (toks L : List TokT), R.length < n → (R ++ 10 :: X).length < m → scanR lit n R line toks = .ok L →
    ∃ P ln, L = P ++ [(9, [], 0, ln)] ∧ scanR lit m (R ++ 10 :: X) line toks = scanR lit (X.length + 1) X (ln + 1) (P ++ [(8, [], 0, ln)]) := by
  intro n
  induction n with
  | zero => intro m R line toks L h; omega
  | succ n ih =>
    intro m R line toks L h1 h2 h
    obtain ⟨m, rfl⟩ : ∃ k, m = k + 1 := ⟨m - 1, by omega⟩
    unfold scanR at h
    by_cases hR : R = []
    · rw [if_pos hR] at h
      injection h with h
      subst h hR
      refine ⟨toks, line, rfl, ?_⟩
      rw [List.nil_append] at h2 ⊢
      rw [List.length_cons] at h2
      conv => lhs; unfold scanR
      rw [if_neg (by simp)]
      show scanR lit m X (line + 1) (toks ++ [(8, [], 0, line)]) = _
      exact scan_fuel hl _ _ _ _ _ (by omega) (by omega)
    rw [if_neg hR] at h
    cases hs : stepR lit R toks.getLast? with
    | bad e => rw [hs] at h; cases h
    | go k l tok =>
      rw [hs] at h
      simp only [] at h
      obtain ⟨s1, s2, _, _⟩ := step_lines hl hs
      rw [List.length_append, List.length_cons] at h2
      obtain ⟨P, ln, e1, e2⟩ := ih m _ _ _ _ (by rw [List.length_drop]; omega) (by rw [List.length_append, List.length_drop, List.length_cons]; omega) h
      refine ⟨P, ln, e1, ?_⟩
      rw [← e2]
      conv => lhs; unfold scanR
      rw [if_neg (by simp), step_local hn X hs]
      simp only []
      rw [List.drop_append_of_le_length s2]
/-- LexJoins -/
theorem scan_joins (hl : LitOk lit) (hn : LitNl lit) {A B : List UInt8} {L : List TokT} (h : scanR lit (A.length + 1) A 1 [] = .ok L) :
    ∃ P n, L = P ++ [(9, [], 0, n)] ∧ scanR lit ((A ++ 10 :: B).length + 1) (A ++ 10 :: B) 1 [] = downE n (P ++ [(8, [], 0, n)]) (scanR lit (B.length + 1) B 1 []) := by
  obtain ⟨P, n, e1, e2⟩ := scan_front hl hn B _ ((A ++ 10 :: B).length + 1) A 1 [] L (Nat.lt_succ_self _) (Nat.lt_succ_self _) h
  refine ⟨P, n, e1, ?_⟩
  have := scan_down hl n (P ++ [(8, [], 0, n)]) (by simp [dividesT]) (B.length + 1) B 1 [] (Nat.lt_succ_self _)
  rw [e2, ← this, Nat.add_comm 1 n]
  simp
end
end Go.Proofs.YtkaelmbgfcehhaaDoor
end

section
/- Package lex, plain: a numeral stands in one line, and looks no further. -/
namespace Go.Proofs.YtkaelmbgfcehhaaDoor
open Go Go.RowKit
set_option linter.unusedVariables false
set_option linter.unusedSimpArgs false

def litL (l : List UInt8) : Nat × Nat := (litV l, litN l)
theorem dig_10 : digs.contains (10 : UInt8) = false := by decide
theorem lead_nl (R X : List UInt8) : lead (R ++ 10 :: X) = lead R := takeWhile_nl dig_10 X R
theorem lead_no (R : List UInt8) : (10 : UInt8) ∉ lead R := fun h => by
  have := (lead_digits R 10 h).1
  exact absurd this (by decide)
theorem lead_le7 (R : List UInt8) : (lead R).length ≤ R.length := (List.takeWhile_sublist _).length_le
theorem hx_10 : hx (10 : UInt8).toNat < 0 := by decide
theorem hexR_nl (B : List UInt8) : ∀ (A : List UInt8) (m n : Nat), hexR (A ++ 10 :: B) m n = hexR A m n
  | [], m, n => by
    show (if hx (10 : UInt8).toNat < 0 then (m, n) else _) = (m, n)
    exact if_pos hx_10
  | c :: A, m, n => by rw [List.cons_append, hexR, hexR, hexR_nl B A]
theorem hexR_no : ∀ (A : List UInt8) (m n : Nat), (10 : UInt8) ∉ A.take ((hexR A m n).2 - n)
  | [], m, n => by simp
  | c :: A, m, n => by
    rw [hexR]
    split
    · simp
    · rename_i hc
      have h1 := hexR_no A (16 * m + (hx c.toNat).toNat) (n + 1)
      have h2 := hexR_ge A (16 * m + (hx c.toNat).toNat) (n + 1)
      obtain ⟨k, hk⟩ : ∃ k, (hexR A (16 * m + (hx c.toNat).toNat) (n + 1)).2 - n = k + 1 := ⟨_, (Nat.sub_add_cancel (by omega)).symm⟩
      rw [hk, List.take_succ_cons]
      rw [show (hexR A (16 * m + (hx c.toNat).toNat) (n + 1)).2 - (n + 1) = k by omega] at h1
      intro hm
      rcases List.mem_cons.1 hm with h | h
      · subst h; exact hc hx_10
      · exact h1 h
theorem pre_nl {p : List UInt8} (hp : (10 : UInt8) ∉ p) (R X : List UInt8) : Lib.hasPrefix (R ++ 10 :: X) p = Lib.hasPrefix R p := prefix_nl hp X R
theorem pre_two {R : List UInt8} (h : (Lib.hasPrefix R [48, 120] || Lib.hasPrefix R [48, 88]) = true) : ∃ c T, R = 48 :: c :: T ∧ (c = 120 ∨ c = 88) := by
  rw [Bool.or_eq_true] at h
  unfold Lib.hasPrefix at h
  rcases h with h | h
  · obtain ⟨T, h⟩ := List.isPrefixOf_iff_prefix.1 h
    exact ⟨120, T, h.symm, .inl rfl⟩
  · obtain ⟨T, h⟩ := List.isPrefixOf_iff_prefix.1 h
    exact ⟨88, T, h.symm, .inr rfl⟩
theorem hexL_nl (c : UInt8) (T X : List UInt8) (m n : Nat) : hexR (hexL (48 :: c :: T ++ 10 :: X)) m n = hexR (hexL (48 :: c :: T)) m n := by
  unfold hexL
  show hexR ((T ++ 10 :: X).take 13) m n = hexR (T.take 13) m n
  by_cases h : 13 ≤ T.length
  · rw [List.take_append_of_le_length h]
  · rw [List.take_append, List.take_of_length_le (by omega : T.length ≤ 13)]
    obtain ⟨k, hk⟩ : ∃ k, 13 - T.length = k + 1 := ⟨12 - T.length, by omega⟩
    rw [hk, List.take_succ_cons, hexR_nl]
theorem isHex_nl (R X : List UInt8) : isHex (R ++ 10 :: X) = isHex R := by
  unfold isHex
  rw [pre_nl (by decide), pre_nl (by decide)]
  cases h : (Lib.hasPrefix R [48, 120] || Lib.hasPrefix R [48, 88]) with
  | false => rfl
  | true =>
    obtain ⟨c, T, rfl, _⟩ := pre_two h
    rw [hexL_nl]
theorem drop_lead (R X : List UInt8) : (R ++ 10 :: X).drop (lead R).length = R.drop (lead R).length ++ 10 :: X := List.drop_append_of_le_length (lead_le7 R)
theorem mantL_nl (R X : List UInt8) : mantL (R ++ 10 :: X) = mantL R := by
  unfold mantL
  rw [lead_nl, drop_lead]
  cases hr : R.drop (lead R).length with
  | nil => rfl
  | cons c T =>
    by_cases h : c = 46
    · subst h
      have e : lead (T.append (10 :: X)) = lead T := lead_nl T X
      show (if 0 < (lead R).length + (lead (T.append (10 :: X))).length then (lead R ++ lead (T.append (10 :: X)), -((lead (T.append (10 :: X))).length : Int), (lead R).length + 1 + (lead (T.append (10 :: X))).length) else (lead R, 0, (lead R).length)) = _
      rw [e]
      rfl
    · simp [h]
theorem mantL_lines (R : List UInt8) : (mantL R).2.2 ≤ R.length ∧ (10 : UInt8) ∉ R.take (mantL R).2.2 := by
  have h1 := lead_le7 R
  have h2 : (10 : UInt8) ∉ R.take (lead R).length := by
    have : R.take (lead R).length = lead R := takeWhile_take R
    rw [this]
    exact lead_no R
  unfold mantL
  cases hr : R.drop (lead R).length with
  | nil => exact ⟨h1, h2⟩
  | cons c T =>
    by_cases h : c = 46
    · subst h
      simp only []
      split
      · have hl := congrArg List.length hr
        rw [List.length_drop, List.length_cons] at hl
        have h3 := lead_le7 T
        refine ⟨by simp only []; omega, ?_⟩
        show (10 : UInt8) ∉ R.take ((lead R).length + 1 + (lead T).length)
        rw [Nat.add_assoc, List.take_add, hr, Nat.add_comm 1, List.take_succ_cons]
        intro hm
        rcases List.mem_append.1 hm with hm | hm
        · exact h2 hm
        · rcases List.mem_cons.1 hm with hm | hm
          · cases hm
          · have : T.take (lead T).length = lead T := takeWhile_take T
            rw [this] at hm
            exact lead_no T hm
      · exact ⟨h1, h2⟩
    · simp [h]
      exact ⟨h1, h2⟩
theorem signK_nl (R X : List UInt8) (hR : R ≠ []) : signK (R ++ 10 :: X) = signK R := by
  match R, hR with
  | [a], _ => rfl
  | a :: b :: T, _ =>
    by_cases h3 : b = 43
    · subst h3; rfl
    by_cases h4 : b = 45
    · subst h4; rfl
    rw [signK_other a b T h3 h4]
    exact signK_other a b (T ++ 10 :: X) h3 h4
theorem signK_le (a : UInt8) (T : List UInt8) : 1 ≤ (signK (a :: T)).1 ∧ (signK (a :: T)).1 ≤ (a :: T).length ∧ (a ≠ 10 → (10 : UInt8) ∉ (a :: T).take (signK (a :: T)).1) := by
  cases T with
  | nil => exact ⟨Nat.le_refl _, Nat.le_refl _, fun h => by simp [signK]; exact fun h2 => h h2.symm⟩
  | cons b T =>
    by_cases h3 : b = 43
    · subst h3; exact ⟨by simp [signK], by simp [signK], fun h => by simp [signK]; exact fun h2 => h h2.symm⟩
    by_cases h4 : b = 45
    · subst h4; exact ⟨by simp [signK], by simp [signK], fun h => by simp [signK]; exact fun h2 => h h2.symm⟩
    rw [signK_other a b T h3 h4]
    exact ⟨Nat.le_refl _, by simp, fun h => by simp; exact fun h2 => h h2.symm⟩
theorem expL_nl (R X : List UInt8) : expL (R ++ 10 :: X) = expL R := by
  cases R with
  | nil => rfl
  | cons c T =>
    obtain ⟨s1, s2, _⟩ := signK_le c T
    have hs := signK_nl (c :: T) X (by simp)
    show (if c = 101 ∨ c = 69 then _ else _) = _
    unfold expL
    rw [hs, List.drop_append_of_le_length s2, lead_nl]
theorem expL_lines (R : List UInt8) : (expL R).2 ≤ R.length ∧ (10 : UInt8) ∉ R.take (expL R).2 := by
  cases R with
  | nil => exact ⟨Nat.le_refl _, by simp⟩
  | cons c T =>
    obtain ⟨s1, s2, s3⟩ := signK_le c T
    unfold expL
    simp only []
    split
    · rename_i hc
      have hc10 : c ≠ 10 := by rcases hc with rfl | rfl <;> decide
      split
      · have h3 := lead_le7 ((c :: T).drop (signK (c :: T)).1)
        refine ⟨by rw [List.length_drop] at h3; simp only []; omega, ?_⟩
        show (10 : UInt8) ∉ (c :: T).take ((signK (c :: T)).1 + (lead ((c :: T).drop (signK (c :: T)).1)).length)
        rw [List.take_add]
        intro hm
        rcases List.mem_append.1 hm with hm | hm
        · exact s3 hc10 hm
        · have : ((c :: T).drop (signK (c :: T)).1).take (lead ((c :: T).drop (signK (c :: T)).1)).length = lead ((c :: T).drop (signK (c :: T)).1) := takeWhile_take _
          rw [this] at hm
          exact lead_no _ hm
      · exact ⟨Nat.zero_le _, by simp⟩
    · exact ⟨Nat.zero_le _, by simp⟩
theorem numeralL_nl (R X : List UInt8) : numeralL (R ++ 10 :: X) = numeralL R := by
  unfold numeralL
  rw [mantL_nl, List.drop_append_of_le_length (mantL_lines R).1, expL_nl]
theorem numeralL_lines (R : List UInt8) : (numeralL R).2.2 ≤ R.length ∧ (10 : UInt8) ∉ R.take (numeralL R).2.2 := by
  unfold numeralL
  obtain ⟨m1, m2⟩ := mantL_lines R
  split
  · exact ⟨Nat.zero_le _, by simp⟩
  · obtain ⟨e1, e2⟩ := expL_lines (R.drop (mantL R).2.2)
    rw [List.length_drop] at e1
    refine ⟨by simp only []; omega, ?_⟩
    show (10 : UInt8) ∉ R.take ((mantL R).2.2 + (expL (R.drop (mantL R).2.2)).2)
    rw [List.take_add]
    intro hm
    rcases List.mem_append.1 hm with hm | hm
    · exact m2 hm
    · exact e2 hm
theorem litL_hex {R : List UInt8} (h : isHex R = true) : litL R = (ofN (hexR (hexL R) 0 0).1, 2 + (hexR (hexL R) 0 0).2) := by
  unfold litL litV litN
  rw [if_pos h, if_pos h]
theorem litL_dec {R : List UInt8} (h : ¬ isHex R = true) : litL R = (if (numeralL R).2.2 = 0 then 0 else readN (numeralL R).1 (numeralL R).2.1, (numeralL R).2.2) := by
  unfold litL litV litN
  rw [if_neg h, if_neg h]
theorem litL_nl : LitNl litL := by
  intro R X _
  by_cases h : isHex R = true
  · rw [litL_hex h, litL_hex (by rw [isHex_nl]; exact h)]
    unfold isHex at h
    rw [Bool.and_eq_true] at h
    obtain ⟨c, T, rfl, _⟩ := pre_two h.1
    rw [hexL_nl]
  · rw [litL_dec h, litL_dec (by rw [isHex_nl]; exact h), numeralL_nl]
theorem litL_ok : LitOk litL := by
  intro R
  by_cases h : isHex R = true
  · rw [litL_hex h]
    unfold isHex at h
    rw [Bool.and_eq_true] at h
    obtain ⟨c, T, rfl, hc⟩ := pre_two h.1
    have e : hexL (48 :: c :: T) = T.take 13 := rfl
    have h1 := hexR_no (T.take 13) 0 0
    have h2 := hexR_ge (T.take 13) 0 0
    rw [List.length_take] at h2
    simp only [e]
    refine ⟨by simp only [List.length_cons]; omega, ?_⟩
    rw [Nat.add_comm 2, List.take_succ_cons, List.take_succ_cons]
    rw [Nat.sub_zero, List.take_take, Nat.min_eq_left (by omega)] at h1
    intro hm
    rcases List.mem_cons.1 hm with hm | hm
    · cases hm
    · rcases List.mem_cons.1 hm with hm | hm
      · rcases hc with rfl | rfl <;> cases hm
      · exact h1 hm
  · rw [litL_dec h]
    exact numeralL_lines R
end Go.Proofs.YtkaelmbgfcehhaaDoor
end

section
/- A region that draws its order, with guards, by an invariant: each operation is walked once; what a guard passes over too. -/
namespace Go.Proofs.YtkaelmbgfcehhaaDoor
open Go.RowKit

theorem wp_region_guarded {P : Program} {ops : Array Oper} {Q : Exit → Act → World → Prop} {id : Nat} {a : Act} {w : World} (hm : P.follows .mixedOrders = true) (hord : orderedOps ops = true)
    (I : Act → World → (Nat → Bool) → Act → World → Prop) (h0 : I a w (fun _ => false) a w.drew)
    (hstep : AllOps (fun i o => ∀ (L : Nat → Bool) (a' : Act) (W : World), I a w L a' W → L i = false → (∀ j ∈ depsOf o, L j = true) → ∀ K : Act → World → Prop, (∀ a'' W', I a w (upd L i) a'' W' → K a'' W') →
      if Region.wanted o (yielded ops a'.tmps) = true then Oper.wp P o a' W K Q else K (a'.put o.dst undef) W) ops.toList 0)
    (hdone : ∀ (L : Nat → Bool) (a' : Act) (W : World), (∀ i, i < ops.size → L i = true) → I a w L a' W → Q .normal a' W) : (Code.region id ops true).wp P Q a w := by
  refine wp_region_inv hm hord (I a w) h0 ?_ hdone
  intro L a' W i o ho hI hL hd
  have ho' : ops.toList[i]? = some o := by simpa using ho
  have h := AllOps.get _ 0 i o hstep ho'
  rw [Nat.zero_add] at h
  have hdd : ∀ j ∈ depsOf o, L j = true := by
    intro j hj
    obtain ⟨e, he, rfl⟩ := List.mem_map.1 hj
    obtain ⟨he1, he2⟩ := List.mem_filter.1 he
    exact hd e (by simpa using he1) he2
  have h1 := h L a' W hI hL hdd (I a w (upd L i)) (fun _ _ h => h)
  unfold wpOp
  rw [ho]
  show if Region.wanted o (yielded ops a'.tmps) then _ else _
  by_cases hw : Region.wanted o (yielded ops a'.tmps) = true
  · rw [if_pos hw] at h1 ⊢
    exact .inl h1
  · rw [if_neg hw] at h1 ⊢
    exact h1
/-- u with the value of operation k -/
def withVal (u : Nat → Value) (k : Nat) (v : Value) : Nat → Value := fun i => if i = k then v else u i
theorem withVal_next {L : Nat → Bool} {u vals : Nat → Value} (E : Hid (∀ i, L i = true → u i = vals i)) (k : Nat) (v : Value) (hv : vals k = v) : Hid (∀ i, upd L k i = true → withVal u k v i = vals i) := by
  intro i hi
  unfold withVal
  by_cases h : i = k
  · rw [if_pos h, h, hv]
  · rw [if_neg h]
    rw [upd_other _ h] at hi
    exact E.out i hi
theorem withVal_same {L : Nat → Bool} {u vals : Nat → Value} (E : Hid (∀ i, L i = true → u i = vals i)) (k : Nat) (v : Value) (hv : vals k = v) : Hid (∀ i, L i = true → withVal u k v i = vals i) := by
  intro i hi
  unfold withVal
  by_cases h : i = k
  · rw [if_pos h, h, hv]
  · rw [if_neg h]
    exact E.out i hi
theorem ite_skip {c A B : Prop} [Decidable c] (hc : ¬ c) (h : B) : if c then A else B := by
  rw [if_neg hc]
  exact h
theorem ite_take {c A B : Prop} [Decidable c] (hc : c) (h : A) : if c then A else B := by
  rw [if_pos hc]
  exact h
/-- the i-th of a list of values -/
def valAt (l : List Value) (i : Nat) : Value := (l[i]?).getD undef
theorem valAt_set (l : List Value) (k : Nat) (x : Value) {i : Nat} (h : i ≠ k) : valAt (l.set k x) i = valAt l i := by
  unfold valAt
  rw [List.getElem?_set_ne (Ne.symm h)]
theorem valAt_other {l m : List Value} {i : Nat} (k : Nat) (h : i ≠ k) (e : m.set k undef = l.set k undef) : valAt l i = valAt m i := by
  rw [← valAt_set l k undef h, ← valAt_set m k undef h, e]
end Go.Proofs.YtkaelmbgfcehhaaDoor
end
