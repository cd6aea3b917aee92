/- Several texts in one (K4, K5, K1, K6, B1, P5, P6, P15, P16, W0, P17). -/
import Derived.Test.YtfdnhkjeoeffoaaGreatDoorM4
import Derived.Test.YtfdnhkjeoeffoaaGreatDoorM3
import Derived.Test.YtfdnhkjeoeffoaaGreatDoorShelf
import Derived.Test.YtfdnhkjeoeffoaaGreatDoorM1
import Derived.Shelf.Strings.Builder1
import Derived.Lib.AppendIntMem
import Derived.Lib.IndexLaws
section
/- Package num: signed, Trunc. -/
namespace Go.Proofs.YtfdnhkjeoeffoaaGreatDoor
open Go.RowKit
set_option linter.unusedVariables false

theorem top_bit {b : Nat} (h : b < 18446744073709551616) : b &&& 2 ^ 63 = b / 9223372036854775808 * 9223372036854775808 := by
  have e63 : (2 : Nat) ^ 63 = 9223372036854775808 := by decide
  refine Nat.eq_of_testBit_eq fun i => ?_
  rw [Nat.testBit_and, Nat.testBit_two_pow]
  rcases Nat.lt_or_ge b 9223372036854775808 with h1 | h1
  · rw [Nat.div_eq_of_lt h1, Nat.zero_mul, Nat.zero_testBit]
    by_cases hi : 63 = i
    · subst hi
      rw [Nat.testBit_lt_two_pow (by omega)]; rfl
    · rw [decide_eq_false hi, Bool.and_false]
  · have h2 : b / 9223372036854775808 = 1 := by omega
    rw [h2, Nat.one_mul, ← e63, Nat.testBit_two_pow]
    by_cases hi : 63 = i
    · subst hi
      obtain ⟨r, hr⟩ : ∃ r, b = 2 ^ 63 + r := ⟨b - 2 ^ 63, by omega⟩
      rw [hr, Nat.testBit_two_pow_add_eq, Nat.testBit_lt_two_pow (by omega)]; rfl
    · rw [decide_eq_false hi, Bool.and_false]
theorem and63 (b : Nat) (h : b < 18446744073709551616) : bits .and .u64 (b : Int) 9223372036854775808 = ((b / 9223372036854775808 * 9223372036854775808 : Nat) : Int) := by
  have h1 := u64_and_nat b 9223372036854775808 h (by decide)
  rw [show b &&& 9223372036854775808 = b / 9223372036854775808 * 9223372036854775808 from top_bit h] at h1
  exact h1
theorem or63 (x s : Nat) (h : x < 9223372036854775808) (hs : s < 2) : bits .or .u64 (x : Int) ((s * 9223372036854775808 : Nat) : Int) = ((x + s * 9223372036854775808 : Nat) : Int) := by
  have h1 := u64_or_nat x (s * 9223372036854775808) (by omega) (by omega)
  rw [h1]
  congr 1
  rw [Nat.or_comm, Nat.add_comm, Nat.mul_comm, show (9223372036854775808 : Nat) = 2 ^ 63 by decide]
  exact (Nat.two_pow_add_eq_or_of_lt h s).symm

theorem Abs_any (b : Nat) (w : World) (h : b < 18446744073709551616) : Calls Tryz.prog 50 #[.float .f64 b] w fun e w' => e = .returned (.float .f64 (b % 9223372036854775808)) ∧ w = w' := by
  have hm := mask63 b h
  generalize b % 9223372036854775808 = c at *
  clear h
  go_enter Tryz.func50, Tryz.ntmps50
  go_wp2_with fail
  go_ret
  exact ⟨rfl, rfl⟩
theorem signed_any (x like : Nat) (w : World) (hx : x < 9223372036854775808) (hl : like < 18446744073709551616) :
    Calls Tryz.prog 56 #[.float .f64 x, .float .f64 like] w fun e w' => e = .returned (.float .f64 (x + like / 9223372036854775808 * 9223372036854775808)) ∧ w = w' := by
  have h1 := and63 like hl
  have h2 := or63 x (like / 9223372036854775808) hx (by omega)
  generalize like / 9223372036854775808 * 9223372036854775808 = c at *
  generalize x + c = d at *
  clear hx hl
  go_enter Tryz.func56, Tryz.ntmps56
  go_wp2_with fail
  go_ret
  exact ⟨rfl, rfl⟩

/-- what stands ahead of the point -/
def truncB (b : Nat) : Nat :=
  if fin b = false ∨ 0 ≤ expo b then b
  else FloatKind.f64.nearest ((mant b / 2 ^ (-(expo b)).toNat : Nat) : Int) + b / 9223372036854775808 * 9223372036854775808
theorem shr_min {m k : Nat} (h : m < 9007199254740992) : m / 2 ^ (min k 63) = m / 2 ^ k := by
  rcases Nat.lt_or_ge k 64 with h1 | h1
  · rw [Nat.min_eq_left (by omega)]
  · rw [Nat.min_eq_right (by omega)]
    have h2 := p2_le (a := 53) (b := 63) (by omega)
    have h3 := p2_le (a := 53) (b := k) (by omega)
    have h4 : (2 : Nat) ^ 53 = 9007199254740992 := by decide
    rw [Nat.div_eq_of_lt (by omega), Nat.div_eq_of_lt (by omega)]

set_option maxRecDepth 100000 in
set_option maxHeartbeats 4000000 in
theorem Trunc_any (b : Nat) (w : World) (hb : b < 18446744073709551616) :
    Calls Tryz.prog 19 #[.float .f64 b] w fun e w' => e = .returned (.float .f64 (truncB b)) ∧ w = w' := by
  have HP := Lib.hid (Parts_any b w hb)
  have hm := mant_lt b
  have hx := expo_bounds (b := b)
  have hT : Hid (truncB b = if fin b = false ∨ 0 ≤ expo b then b else FloatKind.f64.nearest ((mant b / 2 ^ (-(expo b)).toNat : Nat) : Int) + b / 9223372036854775808 * 9223372036854775808) := rfl
  generalize truncB b = T at *
  generalize mant b = m at *
  generalize expo b = x at *
  generalize fin b = f at *
  go_enter Tryz.func19, Tryz.ntmps19
  go_wp2_with fail
  refine HP.out.mono ?_
  rintro e w1 ⟨rfl, rfl⟩
  clear HP
  cases f
  · have hT2 : Hid (T = b) := by show _ = _; rw [hT.out, if_pos (.inl rfl)]
    clear hT
    go_wp2_with fail
    go_ret
    exact ⟨by rw [hT2.out]; rfl, rfl⟩
  · rcases Int.lt_or_le x 0 with h0 | h0
    · obtain ⟨q, hq⟩ : ∃ q, q = m / 2 ^ (-x).toNat := ⟨_, rfl⟩
      have hT2 : Hid (T = FloatKind.f64.nearest (q : Int) + b / 9223372036854775808 * 9223372036854775808) := by
        show _ = _; rw [hT.out, if_neg (by simp; omega), hq]
      obtain ⟨k, hk⟩ : ∃ k : Nat, k = (-x).toNat := ⟨_, rfl⟩
      have ek : -x = (k : Int) := by omega
      obtain ⟨k2, hk2⟩ : ∃ k2 : Nat, k2 = min k 63 := ⟨_, rfl⟩
      have ek2 : min (k : Int) 63 = (k2 : Int) := by omega
      have hq2 : m / 2 ^ k2 = q := by rw [hk2, shr_min hm, hq, hk]
      have eF : (m : Int) / 2 ^ k2 = (q : Int) := by rw [← hq2, Int.natCast_ediv, Int.natCast_pow]; rfl
      have hqm : q < 9007199254740992 := by rw [← hq2]; exact Nat.lt_of_le_of_lt (Nat.div_le_self _ _) hm
      obtain ⟨F, hF⟩ : ∃ F, F = floatOfInt FloatKind.f64 (q : Int) := ⟨_, rfl⟩
      have eF2 : floatOfInt FloatKind.f64 (q : Int) = F := hF.symm
      have hFl : F < 9223372036854775808 := by
        have h := (whole_bits hqm).1
        rw [hF]
        exact Nat.lt_trans h (by decide)
      have HS := Lib.hid (signed_any F b w hFl hb)
      have hT3 : Hid (T = F + b / 9223372036854775808 * 9223372036854775808) := by show _ = _; rw [hT2.out, hF]; rfl
      clear hT hq hk hk2 hq2 hT2 hF
      go_wp2_with fail
      refine HS.out.mono ?_
      rintro e w1 ⟨rfl, rfl⟩
      go_wp2_with fail
      go_ret
      exact ⟨by rw [hT3.out]; rfl, rfl⟩
    · have hT2 : Hid (T = b) := by show _ = _; rw [hT.out, if_pos (.inr h0)]
      clear hT
      go_wp2_with fail
      go_ret
      exact ⟨by rw [hT2.out]; rfl, rfl⟩
end Go.Proofs.YtfdnhkjeoeffoaaGreatDoor
end

section
/- Package num: Whole; floats with a sign compared. -/
namespace Go.Proofs.YtfdnhkjeoeffoaaGreatDoor
open Go.RowKit
set_option linter.unusedVariables false

theorem read_neg {a : Nat} (h : a < 9218868437227405312) : FloatKind.f64.format.read (a + 9223372036854775808) = .number true (mof a) ((jof a : Int) - 1074) := by
  have e1 : FloatKind.f64.format.signWeight = 9223372036854775808 := by decide
  have e2 : FloatKind.f64.format.binade = 4503599627370496 := by decide
  have e3 : FloatKind.f64.format.infRung = 9218868437227405312 := by decide
  have e4 : FloatKind.f64.format.leastPlace = -1074 := by decide
  have e5 : ((a + 9223372036854775808) / 9223372036854775808 % 2 == 1) = true := by
    rw [Nat.add_div_right _ (by decide), Nat.div_eq_of_lt (by omega)]; rfl
  have e6 : (a + 9223372036854775808) % 9223372036854775808 = a := by rw [Nat.add_mod_right]; exact Nat.mod_eq_of_lt (by omega)
  unfold Ieee.Format.read
  simp only [e1, e2, e3, e4, e5, e6]
  have e7 : (2 : Nat) ^ 52 = 4503599627370496 := by decide
  unfold mof jof
  rw [e7]
  clear e5 e6
  by_cases hs : a < 4503599627370496
  · rw [if_pos hs, if_pos (Nat.div_eq_of_lt hs), Nat.div_eq_of_lt hs]
    rfl
  · have h8 : 4503599627370496 + a % 4503599627370496 = a % 4503599627370496 + 4503599627370496 := Nat.add_comm _ _
    have h9 : -1074 + ((a / 4503599627370496 - 1 : Nat) : Int) = ((a / 4503599627370496 - 1 : Nat) : Int) - 1074 := by omega
    have h10 : a / 4503599627370496 ≠ 0 := by omega
    rw [if_neg hs, if_pos h, if_neg h10, h8, h9]
/-- how a datum's number compares: the values over the least step -/
theorem order_num (s t : Bool) (a c : Nat) : Ieee.Datum.order (.number s (mof a) ((jof a : Int) - 1074)) (.number t (mof c) ((jof c : Int) - 1074)) = some (compare (if s then -(vl a : Int) else (vl a : Int)) (if t then -(vl c : Int) else (vl c : Int))) := by
  unfold Ieee.Datum.order
  simp only
  congr 1
  obtain ⟨d, hd⟩ : ∃ d, d = min (jof a) (jof c) := ⟨_, rfl⟩
  have e1 : ((jof a : Int) - 1074 - min ((jof a : Int) - 1074) ((jof c : Int) - 1074)).toNat = jof a - d := by omega
  have e2 : ((jof c : Int) - 1074 - min ((jof a : Int) - 1074) ((jof c : Int) - 1074)).toNat = jof c - d := by omega
  rw [e1, e2]
  unfold Ieee.signed
  rw [Nat.shiftLeft_eq, Nat.shiftLeft_eq]
  have h1 : mof a * 2 ^ (jof a - d) * 2 ^ d = vl a := by unfold vl; rw [Nat.mul_assoc, ← Nat.pow_add, Nat.sub_add_cancel (by omega)]
  have h2 : mof c * 2 ^ (jof c - d) * 2 ^ d = vl c := by unfold vl; rw [Nat.mul_assoc, ← Nat.pow_add, Nat.sub_add_cancel (by omega)]
  have hp := pow2_pos d
  generalize mof a * 2 ^ (jof a - d) = x at *
  generalize mof c * 2 ^ (jof c - d) = y at *
  generalize 2 ^ d = P at *
  have key : ∀ u v : Int, compare (u * P) (v * P) = compare u v := by
    intro u v
    have hP : (0 : Int) < (P : Int) := by omega
    rcases Int.lt_trichotomy u v with h | h | h
    · rw [Int.compare_eq_lt.2 h, Int.compare_eq_lt.2 (Int.mul_lt_mul_of_pos_right h hP)]
    · rw [h, Int.compare_eq_eq.2 rfl, Int.compare_eq_eq.2 rfl]
    · rw [Int.compare_eq_gt.2 h, Int.compare_eq_gt.2 (Int.mul_lt_mul_of_pos_right h hP)]
  rw [← key, ← h1, ← h2]
  congr 1
  · cases s
    · simp
    · simp [Int.neg_mul]
  · cases t
    · simp
    · simp [Int.neg_mul]
theorem mant_mod (b : Nat) : mant (b % 9223372036854775808) = mant b ∧ expo (b % 9223372036854775808) = expo b ∧ fin (b % 9223372036854775808) = fin b := by
  refine ⟨?_, ?_, ?_⟩
  · unfold mant; rw [Nat.mod_mod]
    have e : b % 9223372036854775808 % 4503599627370496 = b % 4503599627370496 := Nat.mod_mod_of_dvd _ (by decide)
    rw [e]
  · unfold expo; rw [Nat.mod_mod]
  · unfold fin; rw [Nat.mod_mod]
end Go.Proofs.YtfdnhkjeoeffoaaGreatDoor
end

section
/- Package num: digits, power, read. -/
namespace Go.Proofs.YtfdnhkjeoeffoaaGreatDoor
open Go.RowKit
set_option linter.unusedVariables false

/-- the digits ahead -/
def lead (l : List UInt8) : List UInt8 := l.takeWhile (digs.contains ·)
/-- the number of digits, no greater than 100000 -/
def powN (l : List UInt8) : Nat := l.foldl (fun n c => min (10 * n + (c.toNat - 48)) 100000) 0
def powL (l : List UInt8) (minus : Bool) : Int := if minus then -(powN l : Int) else (powN l : Int)

theorem ext_list (s : ByteArray) (i j : Nat) : (s.extract i j).data.toList = (s.data.toList.drop i).take (j - i) := by
  simp [ByteArray.data_extract, List.extract_eq_take_drop]
theorem size_list (s : ByteArray) : s.size = s.data.toList.length := by simp
/-- what read answers: of very many digits the first 900 count, and one behind them, if any that follows is no nought -/
def readN (l : List UInt8) (e : Int) : Nat :=
  if bare l = [] then 0
  else if (bare l).length ≤ 900 then readB (bare l) e
  else if Lib.trimB ((bare l).drop 900) 48 = [] then readB ((bare l).take 900) (e + (bare l).length - 900)
  else readB ((bare l).take 900 ++ [49]) (e + (bare l).length - 900 - 1)

end Go.Proofs.YtfdnhkjeoeffoaaGreatDoor
end

section
/- Package num: Whole. -/
namespace Go.Proofs.YtfdnhkjeoeffoaaGreatDoor
open Go.RowKit
set_option linter.unusedVariables false

/-- is the float whole, and below 10^16 -/
def wholeOk (b : Nat) : Bool := decide (b % 9223372036854775808 < 4846369599423283200) && (FloatKind.f64.format.order (truncB b) b == some .eq)

/-- the text of a whole number -/
def WholeT (t : List UInt8) (b : Nat) (S : Bool) : Prop := ∃ l, Canon l (scaledN b 0) ∧ t = if S = true then 45 :: l else l

set_option maxRecDepth 100000 in
set_option maxHeartbeats 4000000 in
theorem Whole_no (b : Nat) (w : World) (hb : b < 18446744073709551616) (h : wholeOk b = false) :
    Calls Tryz.prog 14 #[.float .f64 b] w fun e w' => e = .returned (.tuple #[.string ⟨#[]⟩, .bool false]) ∧ w = w' := by
  have HA := Lib.hid (Abs_any b w hb)
  have HT := Lib.hid (Trunc_any b w hb)
  have hal : b % 9223372036854775808 < 9223372036854775808 := Nat.mod_lt _ (by decide)
  unfold wholeOk at h
  generalize truncB b = T at *
  generalize b % 9223372036854775808 = a at *
  by_cases h1 : a < 4846369599423283200
  · have ho := order_lt (x := a) (y := 4846369599423283200) (by omega) (by decide) h1
    have ho2 : (FloatKind.f64.format.order T b == some .eq) = false := by rw [decide_eq_true h1] at h; simpa using h
    have ho3 : (FloatKind.f64.format.order T b != some .eq) = true := by unfold bne; rw [ho2]; rfl
    clear h h1 hal hb
    go_enter Tryz.func14, Tryz.ntmps14
    go_wp2_with fail
    refine HA.out.mono ?_
    rintro e w1 ⟨rfl, rfl⟩
    go_wp2_with fail
    refine HT.out.mono ?_
    rintro e w1 ⟨rfl, rfl⟩
    go_wp2_with fail
    go_ret2
    exact ⟨rfl, rfl⟩
  · have ho : (FloatKind.f64.format.order a 4846369599423283200 == some .lt) = false := by
      rcases Nat.lt_or_ge 9218868437227405312 a with h2 | h2
      · rw [order_nan _ h2 hal]; rfl
      · rcases Nat.eq_or_lt_of_le (Nat.le_of_not_lt h1) with h3 | h3
        · rw [← h3, order_eq (by decide)]; rfl
        · rw [order_gt h2 (by decide) h3]; rfl
    clear h h1 hal hb HT
    go_enter Tryz.func14, Tryz.ntmps14
    go_wp2_with fail
    refine HA.out.mono ?_
    rintro e w1 ⟨rfl, rfl⟩
    go_wp2_with fail
    go_ret2
    exact ⟨rfl, rfl⟩

set_option maxRecDepth 100000 in
set_option maxHeartbeats 4000000 in
theorem Whole_yes (b : Nat) (w : World) (hb : b < 18446744073709551616) (h : wholeOk b = true) :
    Calls Tryz.prog 14 #[.float .f64 b] w fun e w' => ∃ s : ByteArray, e = .returned (.tuple #[.string s, .bool true]) ∧ WholeT s.data.toList b (FloatKind.f64.format.order b 0 == some .lt) ∧ Below w.heap.size w w' := by
  have HA := Lib.hid (Abs_any b w hb)
  have HT := Lib.hid (Trunc_any b w hb)
  unfold wholeOk at h
  rw [Bool.and_eq_true, decide_eq_true_eq] at h
  obtain ⟨h1, ho2⟩ := h
  have hfin : fin b = true := by
    rw [← (mant_mod b).2.2]
    exact (fin_lt_inf (Nat.mod_lt _ (by decide))).2 (by omega)
  have HF := Lib.hid (Fixed_ok b 0 w hb hfin (by decide))
  have ho := order_lt (x := b % 9223372036854775808) (y := 4846369599423283200) (by omega) (by decide) h1
  have ho3 : (FloatKind.f64.format.order (truncB b) b != some .eq) = false := by unfold bne; rw [ho2]; rfl
  obtain ⟨S, hS⟩ : ∃ S : Bool, S = (FloatKind.f64.format.order b 0 == some .lt) := ⟨_, rfl⟩
  have hS2 : (FloatKind.f64.format.order b 0 == some .lt) = S := hS.symm
  rw [hS2]
  have ho2' : FloatKind.f64.format.order (truncB b) b = some .eq := by simpa using ho2
  generalize truncB b = T at *
  generalize b % 9223372036854775808 = a at *
  clear h1 hb hfin hS ho2
  cases S
  · go_enter Tryz.func14, Tryz.ntmps14
    go_wp2_with fail
    refine HA.out.mono ?_
    rintro e w1 ⟨rfl, rfl⟩
    go_wp2_with fail
    refine HT.out.mono ?_
    rintro e w1 ⟨rfl, rfl⟩
    go_wp2_with fail
    refine HF.out.mono ?_
    rintro e w1 ⟨s, l, rfl, hc, hs, hb⟩
    have HC := Lib.hid hc
    have HS : Hid (s.data.toList = l) := by show _ = _; rw [hs]; exact fixedL_zero hc.ne
    have HB := Lib.hid hb
    clear hc hs hb
    go_wp2_with fail
    go_ret2
    exact ⟨s, rfl, ⟨l, HC.out, HS.out⟩, HB.out⟩
  · go_enter Tryz.func14, Tryz.ntmps14
    go_wp2_with fail
    refine HA.out.mono ?_
    rintro e w1 ⟨rfl, rfl⟩
    go_wp2_with fail
    refine HT.out.mono ?_
    rintro e w1 ⟨rfl, rfl⟩
    go_wp2_with fail
    refine HF.out.mono ?_
    rintro e w1 ⟨s, l, rfl, hc, hs, hb⟩
    have HC := Lib.hid hc
    have HS : Hid ((⟨#[45]⟩ ++ s : ByteArray).data.toList = 45 :: l) := by show _ = _; rw [ByteArray.data_append, Array.toList_append, hs, fixedL_zero hc.ne]; rfl
    have HB := Lib.hid hb
    have hsz : s.size ≤ 5000 := by
      rw [size_list, hs, fixedL_zero hc.ne]
      have h2 := canon_len (k := 4001) hc (Nat.lt_of_lt_of_le (nbits_le.1 (scaledN_lt (b := b) (k := 0) (by decide) (by decide))) (two_ten 4001)) (by decide)
      omega
    clear hc hs hb
    go_wp2_with fail
    go_ret2
    exact ⟨_, rfl, ⟨l, HC.out, HS.out⟩, HB.out⟩
end Go.Proofs.YtfdnhkjeoeffoaaGreatDoor
end

section
/- strings.Builder: copyCheck, WriteByte, WriteString, at a dump whose copyCheck refuses a copied builder. (The library's own walk of these, turned to this dump.) -/
namespace Go.Proofs.YtfdnhkjeoeffoaaGreatDoor
open Go.RowKit Go.Shelf
set_option linter.unusedVariables false

theorem sizeBuilder : (Tryz.prog.info? 122).map (·.size) = some 2 := by kernel_rfl
theorem liesBuilder : liesAt Tryz.prog Tryz.prog.depth 122 (2 / Tryz.prog.cellsOf 122) 0 122 1 = true := by kernel_rfl
theorem infoByte : (Tryz.prog.info? 5).map (fun i => (i.zero, i.size, i.bytes)) = some (some (.int .u8 0), 1, 1) := by kernel_rfl

set_option maxHeartbeats 1000000 in
set_option maxRecDepth 100000 in
theorem copyCheck_used (b : Nat) (w : World) (h0 : w.cell? ⟨b, 0, none⟩ = some (.pointer (some ⟨b, 0, none⟩))) :
    Calls Tryz.prog 139 #[.pointer (some ⟨b, 0, none⟩)] w fun e w' => e = .returned (.tuple #[]) ∧ w' = w := by
  obtain ⟨j, hj, _⟩ := Option.map_eq_some_iff.1 sizeBuilder
  go_enter Tryz.func139, Tryz.ntmps139
  go_wp2
  rw [Lib.run_neq_ptr_same w _ Tryz.underlying120 hj]
  go_wp2
  go_end0
  exact ⟨rfl, rfl⟩

set_option maxHeartbeats 1000000 in
set_option maxRecDepth 100000 in
theorem copyCheck_fresh (b : Nat) (w : World) (h0 : w.cell? ⟨b, 0, none⟩ = some (.pointer none)) (hsh : w.shape? b = some (122, 2)) (hfz : w.frozen? ⟨b, 0, none⟩ = false) :
    Calls Tryz.prog 139 #[.pointer (some ⟨b, 0, none⟩)] w fun e w' => e = .returned (.tuple #[]) ∧ w' = w.setCell ⟨b, 0, none⟩ (.pointer (some ⟨b, 0, none⟩)) := by
  obtain ⟨j, hj, hjs⟩ := Option.map_eq_some_iff.1 sizeBuilder
  go_enter Tryz.func139, Tryz.ntmps139
  go_wp2
  rw [Lib.run_to_unsafe w ⟨b, 0, none⟩ Tryz.underlying120 Tryz.underlying255 hj (by rw [hjs]; decide) hsh (Nat.zero_lt_succ 1)]
  simp only [Result.andThen]
  rw [Oper.upon_value]
  go_wp2
  rw [run_callFunc_extern Tryz.func206 (by kernel_rfl) (by kernel_rfl) (by kernel_rfl) (e := Extern.AbiNoEscape.same) (by kernel_rfl)]
  rw [Lib.run_noEscape]
  simp only [Result.andThen]
  rw [Oper.upon_value]
  go_wp2
  rw [Lib.run_from_unsafe w ⟨b, 0, none⟩ Tryz.underlying255 Tryz.underlying120 hj hsh liesBuilder]
  simp only [Result.andThen]
  rw [Oper.upon_value]
  go_wp2
  go_end0
  exact ⟨rfl, rfl⟩

theorem copyCheck_any (B b : Nat) (bs : List Value) (w : World) (h : Lib.IsBuilder 122 5 B b bs w) :
    Calls Tryz.prog 139 #[.pointer (some ⟨b, 0, none⟩)] w fun e w' => e = .returned (.tuple #[]) ∧ (Lib.BuilderAt 122 5 B b (.pointer (some ⟨b, 0, none⟩)) bs w' ∧ Below B w w') := by
  rcases h with h | h
  · refine (copyCheck_fresh b w h.cell0 h.shape h.frozen0).mono ?_
    rintro e w' ⟨rfl, rfl⟩
    exact ⟨rfl, h.used _, (Below.refl B w).setCell (p := ⟨b, 0, none⟩) h.1 _⟩
  · refine (copyCheck_used b w h.cell0).mono ?_
    rintro e w' ⟨rfl, rfl⟩
    exact ⟨rfl, h, Below.refl B _⟩

set_option maxHeartbeats 2000000 in
set_option maxRecDepth 100000 in
theorem WriteString_any (B b : Nat) (bs : List Value) (s : ByteArray) (w : World) (h : Lib.IsBuilder 122 5 B b bs w) (hlen : bs.length + s.size ≤ 140737488355328) (hBw : B ≤ w.heap.size) :
    Calls Tryz.prog 88 #[.pointer (some ⟨b, 0, none⟩), .string s] w fun e w' => e = .returned (.tuple #[.int .i64 s.size, .nilIface]) ∧ (Lib.BuilderAt 122 5 B b (.pointer (some ⟨b, 0, none⟩)) (bs ++ Lib.strCells s) w' ∧ Below B w w') := by
  obtain ⟨i0, hi, hz0, hz1, hz2⟩ := info_parts infoByte
  go_enter Tryz.func88, Tryz.ntmps88
  go_wp2_with fail
  refine (copyCheck_any B b bs _ h).mono ?_
  rintro e w1 ⟨rfl, h1, hb1⟩
  obtain ⟨hB, v, hbk, hown, hne⟩ := h1
  have c0 : w1.cell? ⟨b, 0, none⟩ = some (.pointer (some ⟨b, 0, none⟩)) := by rw [Lib.cell_of_heap hbk]; rfl
  have c1 : w1.cell? ⟨b, 1, none⟩ = some v := by rw [Lib.cell_of_heap hbk]; rfl
  go_wp2_with (at_builtin; refine Lib.wpList_append_own_string _ rfl _ _ 64 9 rfl B 5 i0 Tryz.underlying64 Tryz.underlying9 hi hz0 hz1 hz2 _ _ _ rfl hown s rfl ?c3 ?c4 ?c5 ?_)
  case c3 => unfold maxLen; omega
  case c4 => omega
  case c5 => have := hb1.size; omega
  intro v' w2 hown' hgrow _
  have hlt : b < w1.heap.size := by
    rcases Nat.lt_or_ge b w1.heap.size with h' | h'
    · exact h'
    · simp [Array.getElem?_eq_none h'] at hbk
  have hb2 : w2.heap[b]? = some (.cells #[.pointer (some ⟨b, 0, none⟩), v] 122 (0, 0)) := by
    rw [hgrow.block b hlt (fun e => hne e.symm)]
    exact hbk
  have d0 : w2.cell? ⟨b, 0, none⟩ = some (.pointer (some ⟨b, 0, none⟩)) := by rw [Lib.cell_of_heap hb2]; rfl
  have d1 : w2.cell? ⟨b, 1, none⟩ = some v := by rw [Lib.cell_of_heap hb2]; rfl
  have f1 : w2.frozen? ⟨b, 1, none⟩ = false := Lib.frozen_of_heap hb2 1
  obtain ⟨ao, n', cap, rfl⟩ : ∃ ao n' cap, v' = .slice ao n' cap := by
    rcases hown'.2 with ⟨hv, _⟩ | ⟨g, cap, cur, hv, _⟩
    · exact ⟨_, _, _, hv⟩
    · exact ⟨_, _, _, hv⟩
  go_wp2_with fail
  go_ret2
  refine ⟨rfl, ?_, ?_⟩
  · exact Lib.BuilderAt.put (T := 122) (e := 5) hB hb2 (bs' := bs ++ Lib.strCells s) (by simpa [Lib.strCells_length] using hown') (by decide)
  · exact (hb1.grown hgrow (by have := hb1.size; omega) (fun k hk => (hown.lt k hk).1)).setCell (p := ⟨b, 1, none⟩) hB _
end Go.Proofs.YtfdnhkjeoeffoaaGreatDoor
end

section
/- Package format: Check, sign, padded. -/
namespace Go.Proofs.YtfdnhkjeoeffoaaGreatDoor
open Go.RowKit
set_option linter.unusedVariables false

/-- a spec as a value -/
def specA (m p b a z : Bool) (wd pr : Int) (vb : Nat) : Array Value := #[.bool m, .bool p, .bool b, .bool a, .bool z, .int .i64 wd, .int .i64 pr, .int .u8 (vb : Int)]
/-- may the spec be -/
def okS (wd pr : Int) (vb : Nat) : Bool := (vb != 0) && decide (0 ≤ ixB verbsB vb) && decide (0 ≤ wd) && decide (wd ≤ 1024) && decide (-1 ≤ pr) && decide (pr ≤ 190)

set_option maxHeartbeats 4000000 in
set_option maxRecDepth 100000 in
theorem Check_ok (m p b a z : Bool) (wd pr : Int) (vb : Nat) (w : World) (h : okS wd pr vb = true) :
    Calls Tryz.prog 68 #[.agg (specA m p b a z wd pr vb)] w fun e w' => e = .returned (.int .i64 0) ∧ Below w.heap.size w w' := by
  unfold okS at h
  simp only [Bool.and_eq_true, decide_eq_true_eq, bne_iff_ne] at h
  obtain ⟨⟨⟨⟨⟨h1, h2⟩, h3⟩, h4⟩, h5⟩, h6⟩ := h
  have HI : Hid (∀ W, Calls Tryz.prog 69 #[.string ⟨#[100, 105, 111, 120, 88, 117, 101, 69, 102, 70, 103, 71, 99, 115, 37]⟩, .int .u8 (vb : Int)] W fun e w' => e = .returned (.int .i64 (ixB verbsB vb)) ∧ w' = W) :=
      fun W => Tryz.strings_IndexByte verbsB (vb : Int) W
  generalize ixB verbsB vb = J at *
  have hv : ((vb : Int) == 0) = false := by simp; omega
  have j2 : decide (J < 0) = false := by simp; omega
  have j3 : decide (wd < 0) = false := by simp; omega
  have j4 : decide (1024 < wd) = false := by simp; omega
  have j5 : decide (pr < -1) = false := by simp; omega
  have j6 : decide (190 < pr) = false := by simp; omega
  unfold specA
  clear h1 h2 h3 h4 h5 h6
  go_enter Tryz.func68, Tryz.ntmps68
  go_wp2_with fail
  refine (HI.out _).mono ?_
  rintro e _ ⟨rfl, rfl⟩
  go_wp2_with fail
  go_ret
  exact ⟨rfl, (Below.refl _ _).alloc (Nat.le_refl _) _⟩

/-- the sign ahead -/
def signL (p b minus : Bool) : List UInt8 := if minus then [45] else if p then [43] else if b then [32] else []
set_option maxRecDepth 100000 in
theorem sign_any (m p b a z minus : Bool) (wd pr : Int) (vb : Nat) (w : World) :
    Calls Tryz.prog 128 #[.agg (specA m p b a z wd pr vb), .bool minus] w fun e w' => e = .returned (.string ⟨(signL p b minus).toArray⟩) ∧ Below w.heap.size w w' := by
  unfold specA
  cases minus
  · cases p
    · cases b
      · go_enter Tryz.func128, Tryz.ntmps128
        go_wp2_with fail
        go_ret
        exact ⟨rfl, (Below.refl _ _).alloc (Nat.le_refl _) _⟩
      · go_enter Tryz.func128, Tryz.ntmps128
        go_wp2_with fail
        go_ret
        exact ⟨rfl, (Below.refl _ _).alloc (Nat.le_refl _) _⟩
    · go_enter Tryz.func128, Tryz.ntmps128
      go_wp2_with fail
      go_ret
      exact ⟨rfl, (Below.refl _ _).alloc (Nat.le_refl _) _⟩
  · go_enter Tryz.func128, Tryz.ntmps128
    go_wp2_with fail
    go_ret
    exact ⟨rfl, (Below.refl _ _).alloc (Nat.le_refl _) _⟩

/-- head and rest, as wide as it should be -/
def padL (m z : Bool) (wd : Int) (h s : List UInt8) : List UInt8 :=
  if m then h ++ s ++ List.replicate (wd - h.length - s.length).toNat 32
  else if z then h ++ List.replicate (wd - h.length - s.length).toNat 48 ++ s
  else List.replicate (wd - h.length - s.length).toNat 32 ++ h ++ s
theorem Repeat_one (c : UInt8) (n : Nat) (w : World) (hn : n ≤ 1000000000) :
    Calls Tryz.prog 114 #[.string ⟨#[c]⟩, .int .i64 (n : Int)] w fun e w' => e = .returned (.string ⟨(List.replicate n c).toArray⟩) ∧ Below w.heap.size w w' := by
  have h := Tryz.strings_Repeat ⟨#[c]⟩ n w (by omega) (by show 1 * n ≤ _; omega)
  rw [show (⟨#[c]⟩ : ByteArray).data.toList = [c] from rfl, repeatL_one] at h
  exact h

set_option maxHeartbeats 4000000 in
set_option maxRecDepth 100000 in
theorem padded_any (m p b a z0 zero : Bool) (wd pr : Int) (vb : Nat) (h s : ByteArray) (w : World) (hw : 0 ≤ wd) (hw2 : wd ≤ 1024) (hh : h.size ≤ 1000000) (hs : s.size ≤ 1000000) :
    Calls Tryz.prog 70 #[.agg (specA m p b a z0 wd pr vb), .string h, .string s, .bool zero] w fun e w' => e = .returned (.string ⟨(padL m zero wd h.data.toList s.data.toList).toArray⟩) ∧ Below w.heap.size w w' := by
  have e1 : h.size = h.data.toList.length := sz_list h
  have e2 : s.size = s.data.toList.length := sz_list s
  have hP : padL m zero wd h.data.toList s.data.toList = (if m then h.data.toList ++ s.data.toList ++ List.replicate (wd - h.size - s.size).toNat 32
      else if zero then h.data.toList ++ List.replicate (wd - h.size - s.size).toNat 48 ++ s.data.toList else List.replicate (wd - h.size - s.size).toNat 32 ++ h.data.toList ++ s.data.toList) := by
    unfold padL
    rw [← e1, ← e2]
  rw [hP]
  clear hP e1 e2
  obtain ⟨n, hn⟩ : ∃ n, n = (wd - h.size - s.size).toNat := ⟨_, rfl⟩
  rw [← hn]
  have HN := Lib.hid (show max 0 (wd - (h.size : Int) - (s.size : Int)) = (n : Int) from by omega)
  have hn2 : n ≤ 1000000000 := by omega
  have HRep := Lib.hid (fun (c : UInt8) (W : World) => Repeat_one c n W hn2)
  clear hn
  unfold specA
  cases m
  · cases zero
    · obtain ⟨R, hR⟩ : ∃ R : ByteArray, R = ⟨(List.replicate n 32).toArray⟩ := ⟨_, rfl⟩
      have hRs : R.size ≤ 1000000000 := by rw [sz_list, hR]; simpa using hn2
      have HRp := Lib.hid (fun (W : World) => HRep.out 32 W)
      rw [← hR] at HRp
      have HPO := Lib.hid (show R ++ h ++ s = ⟨(List.replicate n 32 ++ h.data.toList ++ s.data.toList).toArray⟩ from toBytes (by rw [hR]; simp [ByteArray.data_append]))
      show Calls _ _ _ _ fun e w' => e = .returned (.string ⟨(List.replicate n 32 ++ h.data.toList ++ s.data.toList).toArray⟩) ∧ Below w.heap.size w w'
      rw [← HPO.out]
      clear hR
      go_enter Tryz.func70, Tryz.ntmps70
      go_wp2_with fail
      rw [HN.out]
      refine (HRp.out _).mono ?_
      rintro e w1 ⟨rfl, hb⟩
      have HB := Lib.hid (((Below.refl w.heap.size w).alloc (Nat.le_refl _) (.cells #[.bool false, .bool p, .bool b, .bool a, .bool z0, .int .i64 wd, .int .i64 pr, .int .u8 (vb : Int)] 35)).trans (hb.mono (by simp)))
      clear hb
      go_wp2_with fail
      go_ret
      exact ⟨rfl, HB.out⟩
    · obtain ⟨R, hR⟩ : ∃ R : ByteArray, R = ⟨(List.replicate n 48).toArray⟩ := ⟨_, rfl⟩
      have hRs : R.size ≤ 1000000000 := by rw [sz_list, hR]; simpa using hn2
      have HRp := Lib.hid (fun (W : World) => HRep.out 48 W)
      rw [← hR] at HRp
      have HPO := Lib.hid (show h ++ R ++ s = ⟨(h.data.toList ++ List.replicate n 48 ++ s.data.toList).toArray⟩ from toBytes (by rw [hR]; simp [ByteArray.data_append]))
      show Calls _ _ _ _ fun e w' => e = .returned (.string ⟨(h.data.toList ++ List.replicate n 48 ++ s.data.toList).toArray⟩) ∧ Below w.heap.size w w'
      rw [← HPO.out]
      clear hR
      go_enter Tryz.func70, Tryz.ntmps70
      go_wp2_with fail
      rw [HN.out]
      refine (HRp.out _).mono ?_
      rintro e w1 ⟨rfl, hb⟩
      have HB := Lib.hid (((Below.refl w.heap.size w).alloc (Nat.le_refl _) (.cells #[.bool false, .bool p, .bool b, .bool a, .bool z0, .int .i64 wd, .int .i64 pr, .int .u8 (vb : Int)] 35)).trans (hb.mono (by simp)))
      clear hb
      go_wp2_with fail
      go_ret
      exact ⟨rfl, HB.out⟩
  · obtain ⟨R, hR⟩ : ∃ R : ByteArray, R = ⟨(List.replicate n 32).toArray⟩ := ⟨_, rfl⟩
    have hRs : R.size ≤ 1000000000 := by rw [sz_list, hR]; simpa using hn2
    have HRp := Lib.hid (fun (W : World) => HRep.out 32 W)
    rw [← hR] at HRp
    have HPO := Lib.hid (show h ++ s ++ R = ⟨(h.data.toList ++ s.data.toList ++ List.replicate n 32).toArray⟩ from toBytes (by rw [hR]; simp [ByteArray.data_append]))
    show Calls _ _ _ _ fun e w' => e = .returned (.string ⟨(h.data.toList ++ s.data.toList ++ List.replicate n 32).toArray⟩) ∧ Below w.heap.size w w'
    rw [← HPO.out]
    clear hR
    go_enter Tryz.func70, Tryz.ntmps70
    go_wp2_with fail
    rw [HN.out]
    refine (HRp.out _).mono ?_
    rintro e w1 ⟨rfl, hb⟩
    have HB := Lib.hid (((Below.refl w.heap.size w).alloc (Nat.le_refl _) (.cells #[.bool true, .bool p, .bool b, .bool a, .bool z0, .int .i64 wd, .int .i64 pr, .int .u8 (vb : Int)] 35)).trans (hb.mono (by simp)))
    clear hb
    go_wp2_with fail
    go_ret
    exact ⟨rfl, HB.out⟩
end Go.Proofs.YtfdnhkjeoeffoaaGreatDoor
end

section
/- Package format: float and Number by the verb f. -/
namespace Go.Proofs.YtfdnhkjeoeffoaaGreatDoor
open Go.RowKit
set_option linter.unusedVariables false

theorem cell_lt {w : World} {p : Addr} {v : Value} (h : w.cell? p = some v) : p.block < w.heap.size := by
  rcases Nat.lt_or_ge p.block w.heap.size with h' | h'
  · exact h'
  · exfalso
    unfold World.cell? at h
    rw [Array.getElem?_eq_none h'] at h
    cases h
theorem cell_next {w w' : World} (hb : Below w.heap.size w w') {p : Addr} {v : Value} (h : w.cell? p = some v) : w'.cell? p = some v := (hb.cell (cell_lt h)).trans h
theorem below_next {n : Nat} {w w1 w1' w2 : World} (hn : n ≤ w.heap.size) (h : Below n w w1) (hb : Below w1'.heap.size w1' w2) (e : w1' = w1 ∨ w1' = w1.drew) : Below n w w2 := by
  rcases e with rfl | rfl
  · exact h.trans (hb.mono (Nat.le_trans hn h.size))
  · exact h.drew.trans (hb.mono (Nat.le_trans hn h.size))

theorem Fixed_at (b p : Nat) (l0 : List UInt8) (w : World) (hb : b < 18446744073709551616) (hf : fin b = true) (hp : p ≤ 200) (hc : Canon l0 (scaledN b p)) :
    Calls Tryz.prog 51 #[.float .f64 b, .int .i64 p] w fun e w' => e = .returned (.tuple #[.string ⟨(fixedL l0 p).toArray⟩, .int .i64 0]) ∧ Below w.heap.size w w' := by
  refine (Fixed_ok b p w hb hf hp).mono ?_
  rintro e w' ⟨s, l, rfl, hc2, hs, hbw⟩
  obtain rfl := canon_unique hc2 hc
  rw [toBytes hs]
  exact ⟨rfl, hbw⟩

set_option maxHeartbeats 8000000 in
set_option maxRecDepth 1000000 in
/-- float by the verb f, without the flag '#' -/
theorem float_f (m p bl z : Bool) (wd : Int) (pr b : Nat) (l0 : List UInt8) (w : World) (hb : b < 18446744073709551616) (hf : fin b = true) (hp : pr ≤ 190) (hc : Canon l0 (scaledN b pr)) (hw : 0 ≤ wd) (hw2 : wd ≤ 1024) (hl : (fixedL l0 pr).length ≤ 1000000) :
    Calls Tryz.prog 73 #[.agg (specA m p bl false z wd pr 102), .float .f64 b] w fun e w' => e = .returned (.string ⟨(padL m z wd (signL p bl (decide (9223372036854775808 ≤ b))) (fixedL l0 pr)).toArray⟩) ∧ Below w.heap.size w w' := by
  have HFx := Lib.hid (fun W => Fixed_at b pr l0 W hb hf (by omega) hc)
  have HSg := Lib.hid (fun W => sign_any m p bl false z (decide (9223372036854775808 ≤ b)) wd pr 102 W)
  obtain ⟨sg, hsg⟩ : ∃ sg : ByteArray, sg = ⟨(signL p bl (decide (9223372036854775808 ≤ b))).toArray⟩ := ⟨_, rfl⟩
  obtain ⟨fx, hfx⟩ : ∃ fx : ByteArray, fx = ⟨(fixedL l0 pr).toArray⟩ := ⟨_, rfl⟩
  have hsg1 : sg.size ≤ 1000000 := by
    rw [sz_list, hsg]
    show (signL _ _ _).length ≤ _
    unfold signL
    split
    · decide
    · split
      · decide
      · split <;> decide
  have hfx1 : fx.size ≤ 1000000 := by rw [sz_list, hfx]; exact hl
  have HPd := Lib.hid (fun W => padded_any m p bl false z z wd pr 102 sg fx W hw hw2 hsg1 hfx1)
  rw [show sg.data.toList = signL p bl (decide (9223372036854775808 ≤ b)) from by rw [hsg], show fx.data.toList = fixedL l0 pr from by rw [hfx]] at HPd
  rw [← hsg] at HSg
  rw [← hfx] at HFx
  generalize padL m z wd (signL p bl (decide (9223372036854775808 ≤ b))) (fixedL l0 pr) = out at *
  have hsh : (((b : Int) / 9223372036854775808) == 1) = decide (9223372036854775808 ≤ b) := by
    by_cases h9 : 9223372036854775808 ≤ b
    · rw [decide_eq_true h9, beq_iff_eq]; omega
    · rw [decide_eq_false h9, beq_eq_false_iff_ne]; omega
  generalize decide (9223372036854775808 ≤ b) = neg at *
  unfold specA at HSg HPd ⊢
  have hpr0 : (0 : Int) ≤ (pr : Int) := by omega
  clear hsg hfx hsg1 hfx1 hc hl
  go_enter Tryz.func73, Tryz.ntmps73
  go_wp2_with fail
  refine (HFx.out _).mono ?_
  rintro e w1 ⟨rfl, hb1⟩
  have HB1 := Lib.hid (((Below.refl w.heap.size w).alloc (Nat.le_refl _) (.cells #[.bool m, .bool p, .bool bl, .bool false, .bool z, .int .i64 wd, .int .i64 pr, .int .u8 102] 35)).trans (hb1.mono (by simp)))
  have k0 : w1.cell? ⟨w.heap.size, 0, none⟩ = some (.bool m) := by rw [hb1.cell (by simp)]; simp [go_sem]
  have k1 : w1.cell? ⟨w.heap.size, 1, none⟩ = some (.bool p) := by rw [hb1.cell (by simp)]; simp [go_sem]
  have k2 : w1.cell? ⟨w.heap.size, 2, none⟩ = some (.bool bl) := by rw [hb1.cell (by simp)]; simp [go_sem]
  have k3 : w1.cell? ⟨w.heap.size, 3, none⟩ = some (.bool false) := by rw [hb1.cell (by simp)]; simp [go_sem]
  have k4 : w1.cell? ⟨w.heap.size, 4, none⟩ = some (.bool z) := by rw [hb1.cell (by simp)]; simp [go_sem]
  have k5 : w1.cell? ⟨w.heap.size, 5, none⟩ = some (.int .i64 wd) := by rw [hb1.cell (by simp)]; simp [go_sem]
  have k6 : w1.cell? ⟨w.heap.size, 6, none⟩ = some (.int .i64 pr) := by rw [hb1.cell (by simp)]; simp [go_sem]
  have k7 : w1.cell? ⟨w.heap.size, 7, none⟩ = some (.int .u8 102) := by rw [hb1.cell (by simp)]; simp [go_sem]
  have hz1 := hb1.size
  rw [World.size_alloc] at hz1
  clear hb1
  go_wp2_with fail
  go_region_held3 (fun w' => w'.cell? ⟨w.heap.size, 0, none⟩ = some (.bool m) ∧ w'.cell? ⟨w.heap.size, 1, none⟩ = some (.bool p) ∧ w'.cell? ⟨w.heap.size, 2, none⟩ = some (.bool bl) ∧ w'.cell? ⟨w.heap.size, 3, none⟩ = some (.bool false) ∧ w'.cell? ⟨w.heap.size, 4, none⟩ = some (.bool z) ∧ w'.cell? ⟨w.heap.size, 5, none⟩ = some (.int .i64 wd) ∧ w'.cell? ⟨w.heap.size, 6, none⟩ = some (.int .i64 pr) ∧ w'.cell? ⟨w.heap.size, 7, none⟩ = some (.int .u8 102)) (first | exact ⟨k0, k1, k2, k3, k4, k5, k6, k7⟩ | exact ⟨j0, j1, j2, j3, j4, j5, j6, j7⟩)
    (first
      | (go_at_call 128; refine (HSg.out _).mono ?_; rintro e w2 ⟨rfl, hb2⟩; have j0 := cell_next hb2 k0; have j1 := cell_next hb2 k1; have j2 := cell_next hb2 k2; have j3 := cell_next hb2 k3; have j4 := cell_next hb2 k4; have j5 := cell_next hb2 k5; have j6 := cell_next hb2 k6; have j7 := cell_next hb2 k7; have HB2 := Lib.hid (below_next (Nat.le_refl _) HB1.out hb2 (by first | exact .inl rfl | exact .inr rfl)))
      | (go_at_call 70; refine (HPd.out _).mono ?_; rintro e w3 ⟨rfl, hb3⟩; have j0 := cell_next hb3 j0; have j1 := cell_next hb3 j1; have j2 := cell_next hb3 j2; have j3 := cell_next hb3 j3; have j4 := cell_next hb3 j4; have j5 := cell_next hb3 j5; have j6 := cell_next hb3 j6; have j7 := cell_next hb3 j7; have HB3 := Lib.hid (below_next (Nat.le_refl _) HB2.out hb3 (by first | exact .inl rfl | exact .inr rfl))))
  all_goals go_wp2_with fail
  all_goals go_ret
  all_goals exact ⟨rfl, HB3.out⟩

theorem Index_nums (w : World) : Calls Tryz.prog 69 #[.string ⟨#[100, 105, 111, 120, 88, 117, 101, 69, 102, 70, 103, 71]⟩, .int .u8 102] w fun e w' => e = .returned (.int .i64 8) ∧ w' = w :=
  Tryz.strings_IndexByte ⟨#[100, 105, 111, 120, 88, 117, 101, 69, 102, 70, 103, 71]⟩ 102 w
theorem Index_whole (w : World) : Calls Tryz.prog 69 #[.string ⟨#[100, 105, 111, 120, 88, 117]⟩, .int .u8 102] w fun e w' => e = .returned (.int .i64 (-1)) ∧ w' = w :=
  Tryz.strings_IndexByte ⟨#[100, 105, 111, 120, 88, 117]⟩ 102 w

set_option maxHeartbeats 4000000 in
set_option maxRecDepth 1000000 in
/-- Number by the verb f, without the flag '#' -/
theorem Number_f (m p bl z : Bool) (wd : Int) (pr b : Nat) (l0 : List UInt8) (w : World) (hb : b < 18446744073709551616) (hf : fin b = true) (hp : pr ≤ 190) (hc : Canon l0 (scaledN b pr)) (hw : 0 ≤ wd) (hw2 : wd ≤ 1024) (hl : (fixedL l0 pr).length ≤ 1000000) :
    Calls Tryz.prog 24 #[.agg (specA m p bl false z wd pr 102), .float .f64 b] w fun e w' => e = .returned (.tuple #[.string ⟨(padL m z wd (signL p bl (decide (9223372036854775808 ≤ b))) (fixedL l0 pr)).toArray⟩, .int .i64 0]) ∧ Below w.heap.size w w' := by
  have HFl := Lib.hid (fun W => float_f m p bl z wd pr b l0 W hb hf hp hc hw hw2 hl)
  have HCk := Lib.hid (fun W => Check_ok m p bl false z wd pr 102 W (by
    unfold okS
    rw [show ixB verbsB 102 = 8 from by decide, decide_eq_true hw, decide_eq_true hw2, decide_eq_true (show (-1 : Int) ≤ (pr : Int) by omega), decide_eq_true (show (pr : Int) ≤ 190 by omega)]
    rfl))
  have HPt := Lib.hid (fun W => Parts_any b W hb)
  rw [hf] at HPt
  generalize padL m z wd (signL p bl (decide (9223372036854775808 ≤ b))) (fixedL l0 pr) = out at *
  unfold specA at HFl HCk ⊢
  clear hc hl
  go_enter Tryz.func24, Tryz.ntmps24
  go_wp2_with fail
  refine (HCk.out _).mono ?_
  rintro e w1 ⟨rfl, hb1⟩
  have HB1 := Lib.hid (((Below.refl w.heap.size w).alloc (Nat.le_refl _) (.cells #[.bool m, .bool p, .bool bl, .bool false, .bool z, .int .i64 wd, .int .i64 pr, .int .u8 102] 35)).trans (hb1.mono (by simp)))
  have k0 : w1.cell? ⟨w.heap.size, 0, none⟩ = some (.bool m) := by rw [hb1.cell (by simp)]; simp [go_sem]
  have k1 : w1.cell? ⟨w.heap.size, 1, none⟩ = some (.bool p) := by rw [hb1.cell (by simp)]; simp [go_sem]
  have k2 : w1.cell? ⟨w.heap.size, 2, none⟩ = some (.bool bl) := by rw [hb1.cell (by simp)]; simp [go_sem]
  have k3 : w1.cell? ⟨w.heap.size, 3, none⟩ = some (.bool false) := by rw [hb1.cell (by simp)]; simp [go_sem]
  have k4 : w1.cell? ⟨w.heap.size, 4, none⟩ = some (.bool z) := by rw [hb1.cell (by simp)]; simp [go_sem]
  have k5 : w1.cell? ⟨w.heap.size, 5, none⟩ = some (.int .i64 wd) := by rw [hb1.cell (by simp)]; simp [go_sem]
  have k6 : w1.cell? ⟨w.heap.size, 6, none⟩ = some (.int .i64 pr) := by rw [hb1.cell (by simp)]; simp [go_sem]
  have k7 : w1.cell? ⟨w.heap.size, 7, none⟩ = some (.int .u8 102) := by rw [hb1.cell (by simp)]; simp [go_sem]
  clear hb1
  go_wp2_with fail
  refine (Index_nums _).mono ?_
  rintro e _ ⟨rfl, rfl⟩
  go_wp2_with fail
  refine (HPt.out _).mono ?_
  rintro e _ ⟨rfl, rfl⟩
  go_wp2_with fail
  refine (Index_whole _).mono ?_
  rintro e _ ⟨rfl, rfl⟩
  go_wp2_with fail
  refine (HFl.out _).mono ?_
  rintro e w2 ⟨rfl, hb2⟩
  have HB2 := Lib.hid (HB1.out.trans (hb2.mono HB1.out.size))
  clear hb2
  go_wp2_with fail
  go_ret2
  exact ⟨rfl, HB2.out⟩
end Go.Proofs.YtfdnhkjeoeffoaaGreatDoor
end

section
/- Package format: sci. -/
namespace Go.Proofs.YtfdnhkjeoeffoaaGreatDoor
open Go.RowKit
set_option linter.unusedVariables false

/-- the library's table of powers -/
def PowOk (w : World) : Prop := Lib.TabIs Tryz.prog w "internal/strconv.uint64pow10" .u64 Lib.pow10Tab
theorem PowOk.below {w w' : World} (h : PowOk w) (hb : Below w.heap.size w w') : PowOk w' := Lib.tabBelow_of_tabIs h w' hb
theorem itoa_325 : ((List.range 326).all fun n => decide ((Lib.itoa (n : Int)).length ≤ 10)) = true := by kernel_rfl
theorem itoa_short {n : Nat} (h : n ≤ 325) : (Lib.itoa (n : Int)).length ≤ 10 := by
  have := List.all_eq_true.1 itoa_325 n (List.mem_range.2 (by omega))
  simpa using this

/-- a float with one digit ahead of the point, and a power -/
noncomputable def sciO (b p : Nat) (alt : Bool) : ByteArray :=
  let D : ByteArray := ⟨(sciD b p).toArray⟩
  let s := if 0 < p ∨ alt = true then D.extract 0 1 ++ ⟨#[46]⟩ else D.extract 0 1
  let s := s ++ (D.extract 1 D.size ++ ⟨#[101]⟩)
  let s := if sciE b p < 0 then s ++ ⟨#[45]⟩ else s ++ ⟨#[43]⟩
  let s := if (sciE b p).natAbs < 10 then s ++ ⟨#[48]⟩ else s
  s ++ ⟨(Lib.itoa ((sciE b p).natAbs : Int)).toArray⟩

set_option maxHeartbeats 8000000 in
set_option maxRecDepth 1000000 in
theorem sci_any (b p : Nat) (alt : Bool) (w : World) (hb : b < 18446744073709551616) (hf : fin b = true) (hp : p ≤ 200) (hT : PowOk w) :
    Calls Tryz.prog 131 #[.float .f64 b, .int .i64 p, .bool alt] w fun e w' => e = .returned (.string (sciO b p alt)) ∧ Below w.heap.size w w' := by
  have HS := Lib.hid (fun W => Sci_det b p W hb hf hp)
  have HT := Lib.hid hT
  have hO : sciO b p alt = (let D : ByteArray := ⟨(sciD b p).toArray⟩
    let s := if 0 < p ∨ alt = true then D.extract 0 1 ++ ⟨#[46]⟩ else D.extract 0 1
    let s := s ++ (D.extract 1 D.size ++ ⟨#[101]⟩)
    let s := if sciE b p < 0 then s ++ ⟨#[45]⟩ else s ++ ⟨#[43]⟩
    let s := if (sciE b p).natAbs < 10 then s ++ ⟨#[48]⟩ else s
    s ++ ⟨(Lib.itoa ((sciE b p).natAbs : Int)).toArray⟩) := rfl
  have HO := Lib.hid hO
  clear hO hT
  generalize sciO b p alt = O at *
  obtain ⟨D, hD⟩ : ∃ D : ByteArray, D = ⟨(sciD b p).toArray⟩ := ⟨_, rfl⟩
  rw [← hD] at HS HO
  have hDs : D.size = (sciD b p).length := by rw [hD, sz_list]
  have HDs := Lib.hid hDs
  clear hDs hD
  go_enter Tryz.func131, Tryz.ntmps131
  go_wp2_with fail
  refine (HS.out _).mono ?_
  rintro e w1 ⟨rfl, hok, hb1⟩
  have HB1 := Lib.hid hb1
  have HT1 := Lib.hid (HT.out.below hb1)
  have hz1 := hb1.size
  have h1 := hok.lo
  have h2 := hok.hi
  have h3 : D.size = p + 1 := HDs.out.trans hok.len
  clear hok hb1 HS
  have HI : Hid (∀ (n : Nat) (W : World), n ≤ 325 → PowOk W → Calls Tryz.prog 196 #[.int .i64 (n : Int)] W fun e w' => e = .returned (.string ⟨(Lib.itoa (n : Int)).toArray⟩) ∧ Below W.heap.size W w') := fun n W hn hp => by
    refine (Tryz.strconv_Itoa (n : Int) (by omega) (by omega) W hp).mono ?_
    rintro e w' ⟨rfl, q, os, rfl⟩
    exact ⟨rfl, Lib.below_grow _ _ (Nat.le_refl _) _ _⟩
  have H1 : (1 : Int) ≤ (D.size : Int) := by omega
  have H2 : (D.size : Int) ≤ 201 := by omega
  generalize sciE b p = E at *
  -- CASES
  obtain ⟨H, hH⟩ : ∃ H : ByteArray, D.extract 0 1 = H := ⟨_, rfl⟩
  obtain ⟨R, hR⟩ : ∃ R : ByteArray, D.extract 1 D.size = R := ⟨_, rfl⟩
  have hHs : H.size ≤ 201 := by rw [← hH]; simp; omega
  have hRs : R.size ≤ 201 := by rw [← hR]; simp; omega
  rw [hH, hR] at HO
  clear h3 HDs
  by_cases hd : 0 < p
  · have hpI : (0 : Int) < (p : Int) := by omega
    rw [if_pos (show 0 < p ∨ alt = true from .inl hd)] at HO
    clear hd
    rcases Int.lt_or_le E 0 with hE | hE
    · obtain ⟨n, rfl⟩ : ∃ n : Nat, E = -(n : Int) := ⟨E.natAbs, by omega⟩
      have hn : n ≤ 325 := by omega
      have hn0 : 0 < n := by omega
      rw [if_pos hE, show (-(n : Int)).natAbs = n by omega] at HO
      clear hE h1 h2
      by_cases hs : n < 10
      · have hsm : decide ((n : Int) < 10) = true := by simp; omega
        rw [if_pos hs] at HO
        clear hs
        go_wp2_with fail
        refine (HI.out n _ hn HT1.out).mono ?_
        rintro e w2 ⟨rfl, hb2⟩
        have HB2 := Lib.hid (HB1.out.trans (hb2.mono hz1))
        clear hb2
        obtain ⟨T, hT⟩ : ∃ T : ByteArray, T = ⟨(Lib.itoa (n : Int)).toArray⟩ := ⟨_, rfl⟩
        have hTs : T.size ≤ 10 := by rw [hT, sz_list]; exact itoa_short hn
        rw [← hT] at HO ⊢
        clear hT
        go_wp2_with fail
        go_ret
        rw [HO.out]
        exact ⟨rfl, HB2.out⟩
      · have hsm : decide ((n : Int) < 10) = false := by simp; omega
        rw [if_neg hs] at HO
        clear hs
        go_wp2_with fail
        refine (HI.out n _ hn HT1.out).mono ?_
        rintro e w2 ⟨rfl, hb2⟩
        have HB2 := Lib.hid (HB1.out.trans (hb2.mono hz1))
        clear hb2
        obtain ⟨T, hT⟩ : ∃ T : ByteArray, T = ⟨(Lib.itoa (n : Int)).toArray⟩ := ⟨_, rfl⟩
        have hTs : T.size ≤ 10 := by rw [hT, sz_list]; exact itoa_short hn
        rw [← hT] at HO ⊢
        clear hT
        go_wp2_with fail
        go_ret
        rw [HO.out]
        exact ⟨rfl, HB2.out⟩
    · obtain ⟨n, rfl⟩ : ∃ n : Nat, E = (n : Int) := ⟨E.toNat, by omega⟩
      have hn : n ≤ 325 := by omega
      have hneg : decide ((n : Int) < 0) = false := by simp
      rw [if_neg (show ¬ ((n : Int) < 0) by omega), show ((n : Int)).natAbs = n by omega] at HO
      clear hE h1 h2
      by_cases hs : n < 10
      · have hsm : decide ((n : Int) < 10) = true := by simp; omega
        rw [if_pos hs] at HO
        clear hs
        go_wp2_with fail
        refine (HI.out n _ hn HT1.out).mono ?_
        rintro e w2 ⟨rfl, hb2⟩
        have HB2 := Lib.hid (HB1.out.trans (hb2.mono hz1))
        clear hb2
        obtain ⟨T, hT⟩ : ∃ T : ByteArray, T = ⟨(Lib.itoa (n : Int)).toArray⟩ := ⟨_, rfl⟩
        have hTs : T.size ≤ 10 := by rw [hT, sz_list]; exact itoa_short hn
        rw [← hT] at HO ⊢
        clear hT
        go_wp2_with fail
        go_ret
        rw [HO.out]
        exact ⟨rfl, HB2.out⟩
      · have hsm : decide ((n : Int) < 10) = false := by simp; omega
        rw [if_neg hs] at HO
        clear hs
        go_wp2_with fail
        refine (HI.out n _ hn HT1.out).mono ?_
        rintro e w2 ⟨rfl, hb2⟩
        have HB2 := Lib.hid (HB1.out.trans (hb2.mono hz1))
        clear hb2
        obtain ⟨T, hT⟩ : ∃ T : ByteArray, T = ⟨(Lib.itoa (n : Int)).toArray⟩ := ⟨_, rfl⟩
        have hTs : T.size ≤ 10 := by rw [hT, sz_list]; exact itoa_short hn
        rw [← hT] at HO ⊢
        clear hT
        go_wp2_with fail
        go_ret
        rw [HO.out]
        exact ⟨rfl, HB2.out⟩
  · obtain rfl : p = 0 := by omega
    clear hd
    cases alt
    · rw [if_neg (show ¬ (0 < 0 ∨ false = true) by simp)] at HO
      rcases Int.lt_or_le E 0 with hE | hE
      · obtain ⟨n, rfl⟩ : ∃ n : Nat, E = -(n : Int) := ⟨E.natAbs, by omega⟩
        have hn : n ≤ 325 := by omega
        have hn0 : 0 < n := by omega
        rw [if_pos hE, show (-(n : Int)).natAbs = n by omega] at HO
        clear hE h1 h2
        by_cases hs : n < 10
        · have hsm : decide ((n : Int) < 10) = true := by simp; omega
          rw [if_pos hs] at HO
          clear hs
          go_wp2_with fail
          refine (HI.out n _ hn HT1.out).mono ?_
          rintro e w2 ⟨rfl, hb2⟩
          have HB2 := Lib.hid (HB1.out.trans (hb2.mono hz1))
          clear hb2
          obtain ⟨T, hT⟩ : ∃ T : ByteArray, T = ⟨(Lib.itoa (n : Int)).toArray⟩ := ⟨_, rfl⟩
          have hTs : T.size ≤ 10 := by rw [hT, sz_list]; exact itoa_short hn
          rw [← hT] at HO ⊢
          clear hT
          go_wp2_with fail
          go_ret
          rw [HO.out]
          exact ⟨rfl, HB2.out⟩
        · have hsm : decide ((n : Int) < 10) = false := by simp; omega
          rw [if_neg hs] at HO
          clear hs
          go_wp2_with fail
          refine (HI.out n _ hn HT1.out).mono ?_
          rintro e w2 ⟨rfl, hb2⟩
          have HB2 := Lib.hid (HB1.out.trans (hb2.mono hz1))
          clear hb2
          obtain ⟨T, hT⟩ : ∃ T : ByteArray, T = ⟨(Lib.itoa (n : Int)).toArray⟩ := ⟨_, rfl⟩
          have hTs : T.size ≤ 10 := by rw [hT, sz_list]; exact itoa_short hn
          rw [← hT] at HO ⊢
          clear hT
          go_wp2_with fail
          go_ret
          rw [HO.out]
          exact ⟨rfl, HB2.out⟩
      · obtain ⟨n, rfl⟩ : ∃ n : Nat, E = (n : Int) := ⟨E.toNat, by omega⟩
        have hn : n ≤ 325 := by omega
        have hneg : decide ((n : Int) < 0) = false := by simp
        rw [if_neg (show ¬ ((n : Int) < 0) by omega), show ((n : Int)).natAbs = n by omega] at HO
        clear hE h1 h2
        by_cases hs : n < 10
        · have hsm : decide ((n : Int) < 10) = true := by simp; omega
          rw [if_pos hs] at HO
          clear hs
          go_wp2_with fail
          refine (HI.out n _ hn HT1.out).mono ?_
          rintro e w2 ⟨rfl, hb2⟩
          have HB2 := Lib.hid (HB1.out.trans (hb2.mono hz1))
          clear hb2
          obtain ⟨T, hT⟩ : ∃ T : ByteArray, T = ⟨(Lib.itoa (n : Int)).toArray⟩ := ⟨_, rfl⟩
          have hTs : T.size ≤ 10 := by rw [hT, sz_list]; exact itoa_short hn
          rw [← hT] at HO ⊢
          clear hT
          go_wp2_with fail
          go_ret
          rw [HO.out]
          exact ⟨rfl, HB2.out⟩
        · have hsm : decide ((n : Int) < 10) = false := by simp; omega
          rw [if_neg hs] at HO
          clear hs
          go_wp2_with fail
          refine (HI.out n _ hn HT1.out).mono ?_
          rintro e w2 ⟨rfl, hb2⟩
          have HB2 := Lib.hid (HB1.out.trans (hb2.mono hz1))
          clear hb2
          obtain ⟨T, hT⟩ : ∃ T : ByteArray, T = ⟨(Lib.itoa (n : Int)).toArray⟩ := ⟨_, rfl⟩
          have hTs : T.size ≤ 10 := by rw [hT, sz_list]; exact itoa_short hn
          rw [← hT] at HO ⊢
          clear hT
          go_wp2_with fail
          go_ret
          rw [HO.out]
          exact ⟨rfl, HB2.out⟩
    · rw [if_pos (show 0 < 0 ∨ true = true from .inr rfl)] at HO
      rcases Int.lt_or_le E 0 with hE | hE
      · obtain ⟨n, rfl⟩ : ∃ n : Nat, E = -(n : Int) := ⟨E.natAbs, by omega⟩
        have hn : n ≤ 325 := by omega
        have hn0 : 0 < n := by omega
        rw [if_pos hE, show (-(n : Int)).natAbs = n by omega] at HO
        clear hE h1 h2
        by_cases hs : n < 10
        · have hsm : decide ((n : Int) < 10) = true := by simp; omega
          rw [if_pos hs] at HO
          clear hs
          go_wp2_with fail
          refine (HI.out n _ hn HT1.out).mono ?_
          rintro e w2 ⟨rfl, hb2⟩
          have HB2 := Lib.hid (HB1.out.trans (hb2.mono hz1))
          clear hb2
          obtain ⟨T, hT⟩ : ∃ T : ByteArray, T = ⟨(Lib.itoa (n : Int)).toArray⟩ := ⟨_, rfl⟩
          have hTs : T.size ≤ 10 := by rw [hT, sz_list]; exact itoa_short hn
          rw [← hT] at HO ⊢
          clear hT
          go_wp2_with fail
          go_ret
          rw [HO.out]
          exact ⟨rfl, HB2.out⟩
        · have hsm : decide ((n : Int) < 10) = false := by simp; omega
          rw [if_neg hs] at HO
          clear hs
          go_wp2_with fail
          refine (HI.out n _ hn HT1.out).mono ?_
          rintro e w2 ⟨rfl, hb2⟩
          have HB2 := Lib.hid (HB1.out.trans (hb2.mono hz1))
          clear hb2
          obtain ⟨T, hT⟩ : ∃ T : ByteArray, T = ⟨(Lib.itoa (n : Int)).toArray⟩ := ⟨_, rfl⟩
          have hTs : T.size ≤ 10 := by rw [hT, sz_list]; exact itoa_short hn
          rw [← hT] at HO ⊢
          clear hT
          go_wp2_with fail
          go_ret
          rw [HO.out]
          exact ⟨rfl, HB2.out⟩
      · obtain ⟨n, rfl⟩ : ∃ n : Nat, E = (n : Int) := ⟨E.toNat, by omega⟩
        have hn : n ≤ 325 := by omega
        have hneg : decide ((n : Int) < 0) = false := by simp
        rw [if_neg (show ¬ ((n : Int) < 0) by omega), show ((n : Int)).natAbs = n by omega] at HO
        clear hE h1 h2
        by_cases hs : n < 10
        · have hsm : decide ((n : Int) < 10) = true := by simp; omega
          rw [if_pos hs] at HO
          clear hs
          go_wp2_with fail
          refine (HI.out n _ hn HT1.out).mono ?_
          rintro e w2 ⟨rfl, hb2⟩
          have HB2 := Lib.hid (HB1.out.trans (hb2.mono hz1))
          clear hb2
          obtain ⟨T, hT⟩ : ∃ T : ByteArray, T = ⟨(Lib.itoa (n : Int)).toArray⟩ := ⟨_, rfl⟩
          have hTs : T.size ≤ 10 := by rw [hT, sz_list]; exact itoa_short hn
          rw [← hT] at HO ⊢
          clear hT
          go_wp2_with fail
          go_ret
          rw [HO.out]
          exact ⟨rfl, HB2.out⟩
        · have hsm : decide ((n : Int) < 10) = false := by simp; omega
          rw [if_neg hs] at HO
          clear hs
          go_wp2_with fail
          refine (HI.out n _ hn HT1.out).mono ?_
          rintro e w2 ⟨rfl, hb2⟩
          have HB2 := Lib.hid (HB1.out.trans (hb2.mono hz1))
          clear hb2
          obtain ⟨T, hT⟩ : ∃ T : ByteArray, T = ⟨(Lib.itoa (n : Int)).toArray⟩ := ⟨_, rfl⟩
          have hTs : T.size ≤ 10 := by rw [hT, sz_list]; exact itoa_short hn
          rw [← hT] at HO ⊢
          clear hT
          go_wp2_with fail
          go_ret
          rw [HO.out]
          exact ⟨rfl, HB2.out⟩
end Go.Proofs.YtfdnhkjeoeffoaaGreatDoor
end

section
/- Package format: general. -/
namespace Go.Proofs.YtfdnhkjeoeffoaaGreatDoor
open Go.RowKit
set_option linter.unusedVariables false

theorem fixedL_len (l : List UInt8) (p : Nat) : (fixedL l p).length ≤ l.length + p + 2 := by
  unfold fixedL
  split
  · split
    · simp; omega
    · simp; omega
  · split
    · simp; omega
    · show l.length ≤ _
      omega
theorem ix_of_mem {l : List UInt8} {c : UInt8} (h : c ∈ l) : ∃ o : Nat, Lib.indexByte l c = (o : Int) ∧ o < l.length := by
  have h1 := Lib.indexByte_ge l c
  by_cases h2 : Lib.indexByte l c = -1
  · obtain ⟨k, hk, hc⟩ := List.mem_iff_getElem.1 h
    exact absurd (by rw [List.getElem?_eq_getElem hk, hc]) (Lib.indexByte_none h2 k)
  · obtain ⟨o, ho⟩ : ∃ o : Nat, Lib.indexByte l c = (o : Int) := ⟨(Lib.indexByte l c).toNat, by omega⟩
    refine ⟨o, ho, ?_⟩
    have h3 := (Lib.indexByte_some ho).1
    exact (List.getElem?_eq_some_iff.1 h3).1
theorem sciO_facts {b p : Nat} {alt : Bool} (h : SciOk b p) (hp : p ≤ 200) : (sciO b p alt).size ≤ 1000 ∧ (101 : UInt8) ∈ (sciO b p alt).data.toList := by
  have hl := h.len
  have h1 := h.lo
  have h2 := h.hi
  have hT := itoa_short (n := (sciE b p).natAbs) (by omega)
  constructor
  · rw [sz_list]
    unfold sciO
    dsimp only
    split <;> split <;> split <;> simp <;> omega
  · unfold sciO
    dsimp only
    split <;> split <;> split <;> simp

/-- a float without needless noughts, of p + 1 digits -/
noncomputable def genB (b p : Nat) : Bool := decide (sciE b p < -4) || decide ((p : Int) + 1 ≤ sciE b p)
noncomputable def genX (b p : Nat) : ByteArray := sciO b p true
noncomputable def genI (b p : Nat) : Nat := (Lib.indexByte (genX b p).data.toList 101).toNat
noncomputable def genF (b p : Nat) : ByteArray := ⟨(fixT b ((p : Int) - sciE b p).toNat).toArray⟩
noncomputable def genH (b p : Nat) : ByteArray :=
  if genB b p then (genX b p).extract 0 (genI b p) else if 0 ≤ Lib.indexByte (genF b p).data.toList 46 then genF b p else genF b p ++ ⟨#[46]⟩
noncomputable def genT (b p : Nat) : ByteArray := if genB b p then (genX b p).extract (genI b p) (genX b p).size else ⟨#[]⟩
def bareS (s : ByteArray) : ByteArray := ⟨(Lib.trimSuffix (Lib.trimRightB s.data.toList 48) [46]).toArray⟩
noncomputable def genO (b p : Nat) (alt : Bool) : ByteArray := (if alt then genH b p else bareS (genH b p)) ++ genT b p
theorem bareS_size (s : ByteArray) : (bareS s).size ≤ s.size := by
  rw [sz_list, sz_list]
  show (Lib.trimSuffix (Lib.trimRightB s.data.toList 48) [46]).length ≤ _
  have h1 : (Lib.trimRightB s.data.toList 48).length ≤ s.data.toList.length := by
    unfold Lib.trimRightB
    rw [List.length_reverse]
    exact Nat.le_trans (List.dropWhile_sublist _).length_le (by simp)
  unfold Lib.trimSuffix
  split
  · rw [List.length_take]; omega
  · exact h1
theorem bare_calls (H : ByteArray) (w : World) (h : H.size ≤ 1000000) : Calls Tryz.prog 199 #[.string H, .string ⟨#[48]⟩] w fun e w' => e = .returned (.string ⟨(Lib.trimRightB H.data.toList 48).toArray⟩) ∧ w' = w :=
  Tryz.strings_TrimRight_one H 48 (by decide) w (by omega)
theorem bare_calls2 (H : ByteArray) (w : World) (h : H.size ≤ 1000000) : Calls Tryz.prog 198 #[.string ⟨(Lib.trimRightB H.data.toList 48).toArray⟩, .string ⟨#[46]⟩] w fun e w' => e = .returned (.string (bareS H)) ∧ w' = w := by
  have h1 : (Lib.trimRightB H.data.toList 48).length ≤ H.data.toList.length := by
    unfold Lib.trimRightB
    rw [List.length_reverse]
    exact Nat.le_trans (List.dropWhile_sublist _).length_le (by simp)
  exact Tryz.strings_TrimSuffix ⟨(Lib.trimRightB H.data.toList 48).toArray⟩ ⟨#[46]⟩ w (by rw [sz_list]; rw [sz_list] at h; show (Lib.trimRightB H.data.toList 48).length ≤ _; omega)

set_option maxHeartbeats 8000000 in
set_option maxRecDepth 1000000 in
theorem general_any (b p : Nat) (alt : Bool) (w : World) (hb : b < 18446744073709551616) (hf : fin b = true) (hp : p ≤ 190) (hT : PowOk w) :
    Calls Tryz.prog 132 #[.float .f64 b, .int .i64 ((p : Int) + 1), .bool alt] w fun e w' => e = .returned (.string (genO b p alt)) ∧ (genO b p alt).size ≤ 3000 ∧ Below w.heap.size w w' := by
  have HS := Lib.hid (fun W => Sci_det b p W hb hf (by omega))
  have HT := Lib.hid hT
  have HSc := Lib.hid (fun W h => sci_any b p true W hb hf (by omega) h)
  have HFx := Lib.hid (fun q W h => Fixed_det b q W hb hf h)
  have hM : max ((p : Int) + 1) 1 = (p : Int) + 1 := by omega
  have HO : Hid (genO b p alt = (if alt then genH b p else bareS (genH b p)) ++ genT b p) := rfl
  have HH : Hid (genH b p = if genB b p then (genX b p).extract 0 (genI b p) else if 0 ≤ Lib.indexByte (genF b p).data.toList 46 then genF b p else genF b p ++ ⟨#[46]⟩) := rfl
  have HTl : Hid (genT b p = if genB b p then (genX b p).extract (genI b p) (genX b p).size else ⟨#[]⟩) := rfl
  have HBb : Hid (genB b p = (decide (sciE b p < -4) || decide ((p : Int) + 1 ≤ sciE b p))) := rfl
  have HI : Hid (genI b p = (Lib.indexByte (genX b p).data.toList 101).toNat) := rfl
  have HF : Hid (genF b p = ⟨(fixT b ((p : Int) - sciE b p).toNat).toArray⟩) := rfl
  rw [show sciO b p true = genX b p from rfl] at HSc
  have hpI : (p : Int) ≤ 190 := by omega
  clear hT
  go_enter Tryz.func132, Tryz.ntmps132
  go_wp2_with fail
  refine (HS.out _).mono ?_
  rintro e w1 ⟨rfl, hok, hb1⟩
  have HB1 := Lib.hid hb1
  have HT1 := Lib.hid (HT.out.below hb1)
  have hz1 := hb1.size
  have h1 := hok.lo
  have h2 := hok.hi
  have HFact := Lib.hid (sciO_facts (alt := true) hok (by omega))
  rw [show sciO b p true = genX b p from rfl] at HFact
  have HOk := Lib.hid hok
  clear hok hb1 HS
  -- CASES
  by_cases hA1 : sciE b p < -4
  · have e4 : decide (sciE b p < -4) = true := by simp; omega
    have HBt : Hid (genB b p = true) := by show _ = _; rw [HBb.out]; simp; omega
    have HHe : Hid (genH b p = (genX b p).extract 0 (genI b p)) := by show _ = _; rw [HH.out, HBt.out]; rfl
    have HTe : Hid (genT b p = (genX b p).extract (genI b p) (genX b p).size) := by show _ = _; rw [HTl.out, HBt.out]; rfl
    obtain ⟨o, ho, hol⟩ := ix_of_mem HFact.out.2
    rw [← sz_list] at hol
    have hXs := HFact.out.1
    have hIo : genI b p = o := by rw [HI.out, ho]; rfl
    rw [hIo] at HHe HTe
    have HIx : Hid (∀ W, Calls Tryz.prog 69 #[.string (genX b p), .int .u8 101] W fun e w' => e = .returned (.int .i64 (o : Int)) ∧ w' = W) := fun W => ho ▸ Tryz.strings_IndexByte (genX b p) 101 W
    generalize genX b p = X at *
    obtain ⟨H, hH⟩ : ∃ H : ByteArray, X.extract 0 o = H := ⟨_, rfl⟩
    obtain ⟨T, hTT⟩ : ∃ T : ByteArray, X.extract o X.size = T := ⟨_, rfl⟩
    have hHs : H.size ≤ 1000 := by rw [← hH]; simp; omega
    have hTs : T.size ≤ 1000 := by rw [← hTT]; simp; omega
    rw [hH] at HHe
    rw [hTT] at HTe
    rw [HHe.out, HTe.out] at HO
    have ho1 : (o : Int) ≤ (X.size : Int) := by omega
    clear HHe HTe HH HTl HBb HBt HI HF HFx HFact hIo ho hol HOk
    generalize sciE b p = E at *
    go_wp2_with fail
    refine (HSc.out _ HT1.out).mono ?_
    rintro e w2 ⟨rfl, hb2⟩
    have HB2 := Lib.hid (HB1.out.trans (hb2.mono hz1))
    clear hb2 HSc
    go_wp2_with fail
    refine (HIx.out _).mono ?_
    rintro e _ ⟨rfl, rfl⟩
    go_wp2_with fail
    go_region
    cases alt
    · all_goals go_wp2_with fail
      refine (bare_calls H _ (by omega)).mono ?_
      rintro e _ ⟨rfl, rfl⟩
      go_wp2_with fail
      refine (bare_calls2 H _ (by omega)).mono ?_
      rintro e _ ⟨rfl, rfl⟩
      have hbs := bareS_size H
      generalize bareS H = Z at *
      have hZ : Z.size ≤ 1000 := by omega
      clear hbs
      go_wp2_with fail
      go_ret
      rw [HO.out]
      exact ⟨rfl, by show (Z ++ T).size ≤ 3000; rw [ByteArray.size_append]; omega, HB2.out.drew⟩
    · all_goals go_wp2_with fail
      go_ret
      rw [HO.out]
      exact ⟨rfl, by show (H ++ T).size ≤ 3000; rw [ByteArray.size_append]; omega, HB2.out.drew⟩
  · by_cases hA2 : (p : Int) + 1 ≤ sciE b p
    · have e4 : decide (sciE b p < -4) = false := by simp; omega
      have e5 : decide ((p : Int) + 1 ≤ sciE b p) = true := by simp; omega
      have HBt : Hid (genB b p = true) := by show _ = _; rw [HBb.out]; simp; omega
      have HHe : Hid (genH b p = (genX b p).extract 0 (genI b p)) := by show _ = _; rw [HH.out, HBt.out]; rfl
      have HTe : Hid (genT b p = (genX b p).extract (genI b p) (genX b p).size) := by show _ = _; rw [HTl.out, HBt.out]; rfl
      obtain ⟨o, ho, hol⟩ := ix_of_mem HFact.out.2
      rw [← sz_list] at hol
      have hXs := HFact.out.1
      have hIo : genI b p = o := by rw [HI.out, ho]; rfl
      rw [hIo] at HHe HTe
      have HIx : Hid (∀ W, Calls Tryz.prog 69 #[.string (genX b p), .int .u8 101] W fun e w' => e = .returned (.int .i64 (o : Int)) ∧ w' = W) := fun W => ho ▸ Tryz.strings_IndexByte (genX b p) 101 W
      generalize genX b p = X at *
      obtain ⟨H, hH⟩ : ∃ H : ByteArray, X.extract 0 o = H := ⟨_, rfl⟩
      obtain ⟨T, hTT⟩ : ∃ T : ByteArray, X.extract o X.size = T := ⟨_, rfl⟩
      have hHs : H.size ≤ 1000 := by rw [← hH]; simp; omega
      have hTs : T.size ≤ 1000 := by rw [← hTT]; simp; omega
      rw [hH] at HHe
      rw [hTT] at HTe
      rw [HHe.out, HTe.out] at HO
      have ho1 : (o : Int) ≤ (X.size : Int) := by omega
      clear HHe HTe HH HTl HBb HBt HI HF HFx HFact hIo ho hol HOk
      generalize sciE b p = E at *
      go_wp2_with fail
      refine (HSc.out _ HT1.out).mono ?_
      rintro e w2 ⟨rfl, hb2⟩
      have HB2 := Lib.hid (HB1.out.trans (hb2.mono hz1))
      clear hb2 HSc
      go_wp2_with fail
      refine (HIx.out _).mono ?_
      rintro e _ ⟨rfl, rfl⟩
      go_wp2_with fail
      go_region
      cases alt
      · all_goals go_wp2_with fail
        refine (bare_calls H _ (by omega)).mono ?_
        rintro e _ ⟨rfl, rfl⟩
        go_wp2_with fail
        refine (bare_calls2 H _ (by omega)).mono ?_
        rintro e _ ⟨rfl, rfl⟩
        have hbs := bareS_size H
        generalize bareS H = Z at *
        have hZ : Z.size ≤ 1000 := by omega
        clear hbs
        go_wp2_with fail
        go_ret
        rw [HO.out]
        exact ⟨rfl, by show (Z ++ T).size ≤ 3000; rw [ByteArray.size_append]; omega, HB2.out.drew⟩
      · all_goals go_wp2_with fail
        go_ret
        rw [HO.out]
        exact ⟨rfl, by show (H ++ T).size ≤ 3000; rw [ByteArray.size_append]; omega, HB2.out.drew⟩
    · have h4 : ¬ (sciE b p < -4) := by omega
      have h5 : ¬ ((p : Int) + 1 ≤ sciE b p) := by omega
      have HBt : Hid (genB b p = false) := by show _ = _; rw [HBb.out]; simp; omega
      have HHe : Hid (genH b p = if 0 ≤ Lib.indexByte (genF b p).data.toList 46 then genF b p else genF b p ++ ⟨#[46]⟩) := by show _ = _; rw [HH.out, HBt.out]; rfl
      have HTe : Hid (genT b p = ⟨#[]⟩) := by show _ = _; rw [HTl.out, HBt.out]; rfl
      obtain ⟨q, hq⟩ : ∃ q : Nat, ((p : Int) - sciE b p) = (q : Int) := ⟨((p : Int) - sciE b p).toNat, by omega⟩
      have hq2 : q ≤ 194 := by omega
      have hFq : genF b p = ⟨(fixT b q).toArray⟩ := by rw [HF.out, hq]; rfl
      have hFs : (genF b p).size ≤ 1000 := by
        have hx := HOk.out.fx
        rw [hq] at hx
        have hy := fixedL_len (dl (scaledN b (q : Int))) q
        rw [sz_list, hFq]
        show (fixedL _ _).length ≤ _
        omega
      have HFq := Lib.hid (fun W => HFx.out q W (by omega))
      rw [← hFq] at HFq
      have HCt := Lib.hid (fun W => Tryz.strings_Contains_one (genF b p) 46 W)
      have hq3 : (p : Int) + 1 - 1 - sciE b p = (q : Int) := by omega
      generalize genF b p = F at *
      clear HH HTl HBb HBt HI HF HFx HFact hFq HOk HSc
      rw [HTe.out] at HO
      generalize Lib.indexByte F.data.toList 46 = J at *
      generalize sciE b p = E at *
      have e4 : decide (E < -4) = false := by simp; omega
      have e5 : decide ((p : Int) + 1 ≤ E) = false := by simp; omega
      clear h4 h5
      go_wp2_with fail
      refine (HFq.out _).mono ?_
      rintro e w2 ⟨rfl, hb2⟩
      have HB2 := Lib.hid (HB1.out.trans (hb2.mono hz1))
      clear hb2
      go_wp2_with fail
      refine (HCt.out _).mono ?_
      rintro e _ ⟨rfl, rfl⟩
      rcases Int.lt_or_le J 0 with hJ | hJ
      · have hJ1 : decide (0 ≤ J) = false := by simp; omega
        rw [if_neg (by omega)] at HHe
        clear hJ
        obtain ⟨G, hG⟩ : ∃ G : ByteArray, F ++ ⟨#[46]⟩ = G := ⟨_, rfl⟩
        have hGs : G.size ≤ 1001 := by
          rw [← hG, ByteArray.size_append]
          show F.size + 1 ≤ _
          omega
        rw [hG] at HHe
        rw [HHe.out] at HO
        clear HHe
        cases alt
        · go_wp2_with fail
          refine (bare_calls G _ (by omega)).mono ?_
          rintro e _ ⟨rfl, rfl⟩
          go_wp2_with fail
          refine (bare_calls2 G _ (by omega)).mono ?_
          rintro e _ ⟨rfl, rfl⟩
          have hbs := bareS_size G
          generalize bareS G = Z at *
          have hZ : Z.size ≤ 2000 := by omega
          clear hbs
          go_wp2_with fail
          go_ret
          rw [HO.out]
          exact ⟨rfl, by show (Z ++ ⟨#[]⟩).size ≤ 3000; rw [ByteArray.size_append]; show Z.size + 0 ≤ _; omega, HB2.out⟩
        · go_wp2_with fail
          go_ret
          rw [HO.out]
          exact ⟨rfl, by show (G ++ ⟨#[]⟩).size ≤ 3000; rw [ByteArray.size_append]; show G.size + 0 ≤ _; omega, HB2.out⟩
      · have hJ1 : decide (0 ≤ J) = true := by simp; omega
        rw [if_pos hJ] at HHe
        clear hJ
        rw [HHe.out] at HO
        clear HHe
        cases alt
        · go_wp2_with fail
          refine (bare_calls F _ (by omega)).mono ?_
          rintro e _ ⟨rfl, rfl⟩
          go_wp2_with fail
          refine (bare_calls2 F _ (by omega)).mono ?_
          rintro e _ ⟨rfl, rfl⟩
          have hbs := bareS_size F
          generalize bareS F = Z at *
          have hZ : Z.size ≤ 2000 := by omega
          clear hbs
          go_wp2_with fail
          go_ret
          rw [HO.out]
          exact ⟨rfl, by show (Z ++ ⟨#[]⟩).size ≤ 3000; rw [ByteArray.size_append]; show Z.size + 0 ≤ _; omega, HB2.out⟩
        · go_wp2_with fail
          go_ret
          rw [HO.out]
          exact ⟨rfl, by show (F ++ ⟨#[]⟩).size ≤ 3000; rw [ByteArray.size_append]; show F.size + 0 ≤ _; omega, HB2.out⟩
end Go.Proofs.YtfdnhkjeoeffoaaGreatDoor
end

section
/- Package format: general at any precision. -/
namespace Go.Proofs.YtfdnhkjeoeffoaaGreatDoor
open Go.RowKit
set_option linter.unusedVariables false

set_option maxHeartbeats 8000000 in
set_option maxRecDepth 1000000 in
/-- general at any precision (one at least is taken) -/
theorem general_at (b p : Nat) (pq : Int) (hM : max pq 1 = (p : Int) + 1) (alt : Bool) (w : World) (hb : b < 18446744073709551616) (hf : fin b = true) (hp : p ≤ 190) (hT : PowOk w) :
    Calls Tryz.prog 132 #[.float .f64 b, .int .i64 pq, .bool alt] w fun e w' => e = .returned (.string (genO b p alt)) ∧ (genO b p alt).size ≤ 3000 ∧ Below w.heap.size w w' := by
  have HS := Lib.hid (fun W => Sci_det b p W hb hf (by omega))
  have HT := Lib.hid hT
  have HSc := Lib.hid (fun W h => sci_any b p true W hb hf (by omega) h)
  have HFx := Lib.hid (fun q W h => Fixed_det b q W hb hf h)
  have HO : Hid (genO b p alt = (if alt then genH b p else bareS (genH b p)) ++ genT b p) := rfl
  have HH : Hid (genH b p = if genB b p then (genX b p).extract 0 (genI b p) else if 0 ≤ Lib.indexByte (genF b p).data.toList 46 then genF b p else genF b p ++ ⟨#[46]⟩) := rfl
  have HTl : Hid (genT b p = if genB b p then (genX b p).extract (genI b p) (genX b p).size else ⟨#[]⟩) := rfl
  have HBb : Hid (genB b p = (decide (sciE b p < -4) || decide ((p : Int) + 1 ≤ sciE b p))) := rfl
  have HI : Hid (genI b p = (Lib.indexByte (genX b p).data.toList 101).toNat) := rfl
  have HF : Hid (genF b p = ⟨(fixT b ((p : Int) - sciE b p).toNat).toArray⟩) := rfl
  rw [show sciO b p true = genX b p from rfl] at HSc
  have hpI : (p : Int) ≤ 190 := by omega
  clear hT
  go_enter Tryz.func132, Tryz.ntmps132
  go_wp2_with fail
  refine (HS.out _).mono ?_
  rintro e w1 ⟨rfl, hok, hb1⟩
  have HB1 := Lib.hid hb1
  have HT1 := Lib.hid (HT.out.below hb1)
  have hz1 := hb1.size
  have h1 := hok.lo
  have h2 := hok.hi
  have HFact := Lib.hid (sciO_facts (alt := true) hok (by omega))
  rw [show sciO b p true = genX b p from rfl] at HFact
  have HOk := Lib.hid hok
  clear hok hb1 HS
  -- CASES
  by_cases hA1 : sciE b p < -4
  · have e4 : decide (sciE b p < -4) = true := by simp; omega
    have HBt : Hid (genB b p = true) := by show _ = _; rw [HBb.out]; simp; omega
    have HHe : Hid (genH b p = (genX b p).extract 0 (genI b p)) := by show _ = _; rw [HH.out, HBt.out]; rfl
    have HTe : Hid (genT b p = (genX b p).extract (genI b p) (genX b p).size) := by show _ = _; rw [HTl.out, HBt.out]; rfl
    obtain ⟨o, ho, hol⟩ := ix_of_mem HFact.out.2
    rw [← sz_list] at hol
    have hXs := HFact.out.1
    have hIo : genI b p = o := by rw [HI.out, ho]; rfl
    rw [hIo] at HHe HTe
    have HIx : Hid (∀ W, Calls Tryz.prog 69 #[.string (genX b p), .int .u8 101] W fun e w' => e = .returned (.int .i64 (o : Int)) ∧ w' = W) := fun W => ho ▸ Tryz.strings_IndexByte (genX b p) 101 W
    generalize genX b p = X at *
    obtain ⟨H, hH⟩ : ∃ H : ByteArray, X.extract 0 o = H := ⟨_, rfl⟩
    obtain ⟨T, hTT⟩ : ∃ T : ByteArray, X.extract o X.size = T := ⟨_, rfl⟩
    have hHs : H.size ≤ 1000 := by rw [← hH]; simp; omega
    have hTs : T.size ≤ 1000 := by rw [← hTT]; simp; omega
    rw [hH] at HHe
    rw [hTT] at HTe
    rw [HHe.out, HTe.out] at HO
    have ho1 : (o : Int) ≤ (X.size : Int) := by omega
    clear HHe HTe HH HTl HBb HBt HI HF HFx HFact hIo ho hol HOk
    generalize sciE b p = E at *
    go_wp2_with fail
    refine (HSc.out _ HT1.out).mono ?_
    rintro e w2 ⟨rfl, hb2⟩
    have HB2 := Lib.hid (HB1.out.trans (hb2.mono hz1))
    clear hb2 HSc
    go_wp2_with fail
    refine (HIx.out _).mono ?_
    rintro e _ ⟨rfl, rfl⟩
    go_wp2_with fail
    go_region
    cases alt
    · all_goals go_wp2_with fail
      refine (bare_calls H _ (by omega)).mono ?_
      rintro e _ ⟨rfl, rfl⟩
      go_wp2_with fail
      refine (bare_calls2 H _ (by omega)).mono ?_
      rintro e _ ⟨rfl, rfl⟩
      have hbs := bareS_size H
      generalize bareS H = Z at *
      have hZ : Z.size ≤ 1000 := by omega
      clear hbs
      go_wp2_with fail
      go_ret
      rw [HO.out]
      exact ⟨rfl, by show (Z ++ T).size ≤ 3000; rw [ByteArray.size_append]; omega, HB2.out.drew⟩
    · all_goals go_wp2_with fail
      go_ret
      rw [HO.out]
      exact ⟨rfl, by show (H ++ T).size ≤ 3000; rw [ByteArray.size_append]; omega, HB2.out.drew⟩
  · by_cases hA2 : (p : Int) + 1 ≤ sciE b p
    · have e4 : decide (sciE b p < -4) = false := by simp; omega
      have e5 : decide ((p : Int) + 1 ≤ sciE b p) = true := by simp; omega
      have HBt : Hid (genB b p = true) := by show _ = _; rw [HBb.out]; simp; omega
      have HHe : Hid (genH b p = (genX b p).extract 0 (genI b p)) := by show _ = _; rw [HH.out, HBt.out]; rfl
      have HTe : Hid (genT b p = (genX b p).extract (genI b p) (genX b p).size) := by show _ = _; rw [HTl.out, HBt.out]; rfl
      obtain ⟨o, ho, hol⟩ := ix_of_mem HFact.out.2
      rw [← sz_list] at hol
      have hXs := HFact.out.1
      have hIo : genI b p = o := by rw [HI.out, ho]; rfl
      rw [hIo] at HHe HTe
      have HIx : Hid (∀ W, Calls Tryz.prog 69 #[.string (genX b p), .int .u8 101] W fun e w' => e = .returned (.int .i64 (o : Int)) ∧ w' = W) := fun W => ho ▸ Tryz.strings_IndexByte (genX b p) 101 W
      generalize genX b p = X at *
      obtain ⟨H, hH⟩ : ∃ H : ByteArray, X.extract 0 o = H := ⟨_, rfl⟩
      obtain ⟨T, hTT⟩ : ∃ T : ByteArray, X.extract o X.size = T := ⟨_, rfl⟩
      have hHs : H.size ≤ 1000 := by rw [← hH]; simp; omega
      have hTs : T.size ≤ 1000 := by rw [← hTT]; simp; omega
      rw [hH] at HHe
      rw [hTT] at HTe
      rw [HHe.out, HTe.out] at HO
      have ho1 : (o : Int) ≤ (X.size : Int) := by omega
      clear HHe HTe HH HTl HBb HBt HI HF HFx HFact hIo ho hol HOk
      generalize sciE b p = E at *
      go_wp2_with fail
      refine (HSc.out _ HT1.out).mono ?_
      rintro e w2 ⟨rfl, hb2⟩
      have HB2 := Lib.hid (HB1.out.trans (hb2.mono hz1))
      clear hb2 HSc
      go_wp2_with fail
      refine (HIx.out _).mono ?_
      rintro e _ ⟨rfl, rfl⟩
      go_wp2_with fail
      go_region
      cases alt
      · all_goals go_wp2_with fail
        refine (bare_calls H _ (by omega)).mono ?_
        rintro e _ ⟨rfl, rfl⟩
        go_wp2_with fail
        refine (bare_calls2 H _ (by omega)).mono ?_
        rintro e _ ⟨rfl, rfl⟩
        have hbs := bareS_size H
        generalize bareS H = Z at *
        have hZ : Z.size ≤ 1000 := by omega
        clear hbs
        go_wp2_with fail
        go_ret
        rw [HO.out]
        exact ⟨rfl, by show (Z ++ T).size ≤ 3000; rw [ByteArray.size_append]; omega, HB2.out.drew⟩
      · all_goals go_wp2_with fail
        go_ret
        rw [HO.out]
        exact ⟨rfl, by show (H ++ T).size ≤ 3000; rw [ByteArray.size_append]; omega, HB2.out.drew⟩
    · have h4 : ¬ (sciE b p < -4) := by omega
      have h5 : ¬ ((p : Int) + 1 ≤ sciE b p) := by omega
      have HBt : Hid (genB b p = false) := by show _ = _; rw [HBb.out]; simp; omega
      have HHe : Hid (genH b p = if 0 ≤ Lib.indexByte (genF b p).data.toList 46 then genF b p else genF b p ++ ⟨#[46]⟩) := by show _ = _; rw [HH.out, HBt.out]; rfl
      have HTe : Hid (genT b p = ⟨#[]⟩) := by show _ = _; rw [HTl.out, HBt.out]; rfl
      obtain ⟨q, hq⟩ : ∃ q : Nat, ((p : Int) - sciE b p) = (q : Int) := ⟨((p : Int) - sciE b p).toNat, by omega⟩
      have hq2 : q ≤ 194 := by omega
      have hFq : genF b p = ⟨(fixT b q).toArray⟩ := by rw [HF.out, hq]; rfl
      have hFs : (genF b p).size ≤ 1000 := by
        have hx := HOk.out.fx
        rw [hq] at hx
        have hy := fixedL_len (dl (scaledN b (q : Int))) q
        rw [sz_list, hFq]
        show (fixedL _ _).length ≤ _
        omega
      have HFq := Lib.hid (fun W => HFx.out q W (by omega))
      rw [← hFq] at HFq
      have HCt := Lib.hid (fun W => Tryz.strings_Contains_one (genF b p) 46 W)
      have hq3 : (p : Int) + 1 - 1 - sciE b p = (q : Int) := by omega
      generalize genF b p = F at *
      clear HH HTl HBb HBt HI HF HFx HFact hFq HOk HSc
      rw [HTe.out] at HO
      generalize Lib.indexByte F.data.toList 46 = J at *
      generalize sciE b p = E at *
      have e4 : decide (E < -4) = false := by simp; omega
      have e5 : decide ((p : Int) + 1 ≤ E) = false := by simp; omega
      clear h4 h5
      go_wp2_with fail
      refine (HFq.out _).mono ?_
      rintro e w2 ⟨rfl, hb2⟩
      have HB2 := Lib.hid (HB1.out.trans (hb2.mono hz1))
      clear hb2
      go_wp2_with fail
      refine (HCt.out _).mono ?_
      rintro e _ ⟨rfl, rfl⟩
      rcases Int.lt_or_le J 0 with hJ | hJ
      · have hJ1 : decide (0 ≤ J) = false := by simp; omega
        rw [if_neg (by omega)] at HHe
        clear hJ
        obtain ⟨G, hG⟩ : ∃ G : ByteArray, F ++ ⟨#[46]⟩ = G := ⟨_, rfl⟩
        have hGs : G.size ≤ 1001 := by
          rw [← hG, ByteArray.size_append]
          show F.size + 1 ≤ _
          omega
        rw [hG] at HHe
        rw [HHe.out] at HO
        clear HHe
        cases alt
        · go_wp2_with fail
          refine (bare_calls G _ (by omega)).mono ?_
          rintro e _ ⟨rfl, rfl⟩
          go_wp2_with fail
          refine (bare_calls2 G _ (by omega)).mono ?_
          rintro e _ ⟨rfl, rfl⟩
          have hbs := bareS_size G
          generalize bareS G = Z at *
          have hZ : Z.size ≤ 2000 := by omega
          clear hbs
          go_wp2_with fail
          go_ret
          rw [HO.out]
          exact ⟨rfl, by show (Z ++ ⟨#[]⟩).size ≤ 3000; rw [ByteArray.size_append]; show Z.size + 0 ≤ _; omega, HB2.out⟩
        · go_wp2_with fail
          go_ret
          rw [HO.out]
          exact ⟨rfl, by show (G ++ ⟨#[]⟩).size ≤ 3000; rw [ByteArray.size_append]; show G.size + 0 ≤ _; omega, HB2.out⟩
      · have hJ1 : decide (0 ≤ J) = true := by simp; omega
        rw [if_pos hJ] at HHe
        clear hJ
        rw [HHe.out] at HO
        clear HHe
        cases alt
        · go_wp2_with fail
          refine (bare_calls F _ (by omega)).mono ?_
          rintro e _ ⟨rfl, rfl⟩
          go_wp2_with fail
          refine (bare_calls2 F _ (by omega)).mono ?_
          rintro e _ ⟨rfl, rfl⟩
          have hbs := bareS_size F
          generalize bareS F = Z at *
          have hZ : Z.size ≤ 2000 := by omega
          clear hbs
          go_wp2_with fail
          go_ret
          rw [HO.out]
          exact ⟨rfl, by show (Z ++ ⟨#[]⟩).size ≤ 3000; rw [ByteArray.size_append]; show Z.size + 0 ≤ _; omega, HB2.out⟩
        · go_wp2_with fail
          go_ret
          rw [HO.out]
          exact ⟨rfl, by show (F ++ ⟨#[]⟩).size ≤ 3000; rw [ByteArray.size_append]; show F.size + 0 ≤ _; omega, HB2.out⟩
end Go.Proofs.YtfdnhkjeoeffoaaGreatDoor
end

section
/- Package format: float and Number by the verb g. -/
namespace Go.Proofs.YtfdnhkjeoeffoaaGreatDoor
open Go.RowKit
set_option linter.unusedVariables false

set_option maxHeartbeats 8000000 in
set_option maxRecDepth 1000000 in
/-- float by the verb g -/
theorem float_g (m p bl al z : Bool) (wd : Int) (pr b : Nat) (w : World) (hb : b < 18446744073709551616) (hf : fin b = true) (hp : pr ≤ 189) (hw : 0 ≤ wd) (hw2 : wd ≤ 1024) (hT : PowOk w) :
    Calls Tryz.prog 73 #[.agg (specA m p bl al z wd ((pr : Int) + 1) 103), .float .f64 b] w fun e w' => e = .returned (.string ⟨(padL m z wd (signL p bl (decide (9223372036854775808 ≤ b))) (genO b pr al).data.toList).toArray⟩) ∧ (genO b pr al).size ≤ 3000 ∧ Below w.heap.size w w' := by
  have HT := Lib.hid hT
  have HFx := Lib.hid (fun W h => general_any b pr al W hb hf (by omega) h)
  have HSg := Lib.hid (fun W => sign_any m p bl al z (decide (9223372036854775808 ≤ b)) wd ((pr : Int) + 1) 103 W)
  obtain ⟨sg, hsg⟩ : ∃ sg : ByteArray, sg = ⟨(signL p bl (decide (9223372036854775808 ≤ b))).toArray⟩ := ⟨_, rfl⟩
  obtain ⟨fx, hfx⟩ : ∃ fx : ByteArray, fx = genO b pr al := ⟨_, rfl⟩
  have hsg1 : sg.size ≤ 1000000 := by
    rw [sz_list, hsg]
    show (signL _ _ _).length ≤ _
    unfold signL
    split
    · decide
    · split
      · decide
      · split <;> decide
  have HSgl : Hid (sg.data.toList = signL p bl (decide (9223372036854775808 ≤ b))) := by show _ = _; rw [hsg]
  rw [← hsg] at HSg
  rw [← hfx] at HFx ⊢
  rw [← HSgl.out]
  obtain ⟨out, hout⟩ : ∃ out, padL m z wd sg.data.toList fx.data.toList = out := ⟨_, rfl⟩
  rw [hout]
  have HOut := Lib.hid hout
  clear hout HSgl
  have hsh : (((b : Int) / 9223372036854775808) == 1) = decide (9223372036854775808 ≤ b) := by
    by_cases h9 : 9223372036854775808 ≤ b
    · rw [decide_eq_true h9, beq_iff_eq]; omega
    · rw [decide_eq_false h9, beq_eq_false_iff_ne]; omega
  generalize decide (9223372036854775808 ≤ b) = neg at *
  unfold specA at HSg ⊢
  have hpr0 : (0 : Int) ≤ (pr : Int) := by omega
  clear hsg hT
  go_enter Tryz.func73, Tryz.ntmps73
  go_wp2_with fail
  refine (HFx.out _ (HT.out.below ((Below.refl w.heap.size w).alloc (Nat.le_refl _) _))).mono ?_
  rintro e w1 ⟨rfl, hfs, hb1⟩
  have HPd := Lib.hid (fun W => padded_any m p bl al z z wd ((pr : Int) + 1) 103 sg fx W hw hw2 hsg1 (by omega))
  rw [HOut.out] at HPd
  unfold specA at HPd
  have HFS := Lib.hid hfs
  clear hfs hfx hsg1
  have HB1 := Lib.hid (((Below.refl w.heap.size w).alloc (Nat.le_refl _) (.cells #[.bool m, .bool p, .bool bl, .bool al, .bool z, .int .i64 wd, .int .i64 ((pr : Int) + 1), .int .u8 103] 35)).trans (hb1.mono (by simp)))
  have k0 : w1.cell? ⟨w.heap.size, 0, none⟩ = some (.bool m) := by rw [hb1.cell (by simp)]; simp [go_sem]
  have k1 : w1.cell? ⟨w.heap.size, 1, none⟩ = some (.bool p) := by rw [hb1.cell (by simp)]; simp [go_sem]
  have k2 : w1.cell? ⟨w.heap.size, 2, none⟩ = some (.bool bl) := by rw [hb1.cell (by simp)]; simp [go_sem]
  have k3 : w1.cell? ⟨w.heap.size, 3, none⟩ = some (.bool al) := by rw [hb1.cell (by simp)]; simp [go_sem]
  have k4 : w1.cell? ⟨w.heap.size, 4, none⟩ = some (.bool z) := by rw [hb1.cell (by simp)]; simp [go_sem]
  have k5 : w1.cell? ⟨w.heap.size, 5, none⟩ = some (.int .i64 wd) := by rw [hb1.cell (by simp)]; simp [go_sem]
  have k6 : w1.cell? ⟨w.heap.size, 6, none⟩ = some (.int .i64 ((pr : Int) + 1)) := by rw [hb1.cell (by simp)]; simp [go_sem]
  have k7 : w1.cell? ⟨w.heap.size, 7, none⟩ = some (.int .u8 103) := by rw [hb1.cell (by simp)]; simp [go_sem]
  have hz1 := hb1.size
  rw [World.size_alloc] at hz1
  clear hb1
  go_wp2_with fail
  go_region_held3 (fun w' => w'.cell? ⟨w.heap.size, 0, none⟩ = some (.bool m) ∧ w'.cell? ⟨w.heap.size, 1, none⟩ = some (.bool p) ∧ w'.cell? ⟨w.heap.size, 2, none⟩ = some (.bool bl) ∧ w'.cell? ⟨w.heap.size, 3, none⟩ = some (.bool al) ∧ w'.cell? ⟨w.heap.size, 4, none⟩ = some (.bool z) ∧ w'.cell? ⟨w.heap.size, 5, none⟩ = some (.int .i64 wd) ∧ w'.cell? ⟨w.heap.size, 6, none⟩ = some (.int .i64 ((pr : Int) + 1)) ∧ w'.cell? ⟨w.heap.size, 7, none⟩ = some (.int .u8 103)) (first | exact ⟨k0, k1, k2, k3, k4, k5, k6, k7⟩ | exact ⟨j0, j1, j2, j3, j4, j5, j6, j7⟩)
    (first
      | (go_at_call 128; refine (HSg.out _).mono ?_; rintro e w2 ⟨rfl, hb2⟩; have j0 := cell_next hb2 k0; have j1 := cell_next hb2 k1; have j2 := cell_next hb2 k2; have j3 := cell_next hb2 k3; have j4 := cell_next hb2 k4; have j5 := cell_next hb2 k5; have j6 := cell_next hb2 k6; have j7 := cell_next hb2 k7; have HB2 := Lib.hid (below_next (Nat.le_refl _) HB1.out hb2 (by first | exact .inl rfl | exact .inr rfl)))
      | (go_at_call 70; refine (HPd.out _).mono ?_; rintro e w3 ⟨rfl, hb3⟩; have j0 := cell_next hb3 j0; have j1 := cell_next hb3 j1; have j2 := cell_next hb3 j2; have j3 := cell_next hb3 j3; have j4 := cell_next hb3 j4; have j5 := cell_next hb3 j5; have j6 := cell_next hb3 j6; have j7 := cell_next hb3 j7; have HB3 := Lib.hid (below_next (Nat.le_refl _) HB2.out hb3 (by first | exact .inl rfl | exact .inr rfl))))
  all_goals go_wp2_with fail
  all_goals go_ret
  all_goals exact ⟨rfl, HFS.out, HB3.out⟩

theorem Index_numsG (w : World) : Calls Tryz.prog 69 #[.string ⟨#[100, 105, 111, 120, 88, 117, 101, 69, 102, 70, 103, 71]⟩, .int .u8 103] w fun e w' => e = .returned (.int .i64 10) ∧ w' = w :=
  Tryz.strings_IndexByte ⟨#[100, 105, 111, 120, 88, 117, 101, 69, 102, 70, 103, 71]⟩ 103 w
theorem Index_wholeG (w : World) : Calls Tryz.prog 69 #[.string ⟨#[100, 105, 111, 120, 88, 117]⟩, .int .u8 103] w fun e w' => e = .returned (.int .i64 (-1)) ∧ w' = w :=
  Tryz.strings_IndexByte ⟨#[100, 105, 111, 120, 88, 117]⟩ 103 w

set_option maxHeartbeats 4000000 in
set_option maxRecDepth 1000000 in
/-- Number by the verb g -/
theorem Number_g (m p bl al z : Bool) (wd : Int) (pr b : Nat) (w : World) (hb : b < 18446744073709551616) (hf : fin b = true) (hp : pr ≤ 189) (hw : 0 ≤ wd) (hw2 : wd ≤ 1024) (hT : PowOk w) :
    Calls Tryz.prog 24 #[.agg (specA m p bl al z wd ((pr : Int) + 1) 103), .float .f64 b] w fun e w' => e = .returned (.tuple #[.string ⟨(padL m z wd (signL p bl (decide (9223372036854775808 ≤ b))) (genO b pr al).data.toList).toArray⟩, .int .i64 0]) ∧ (genO b pr al).size ≤ 3000 ∧ Below w.heap.size w w' := by
  have HT := Lib.hid hT
  have HFl := Lib.hid (fun W h => float_g m p bl al z wd pr b W hb hf hp hw hw2 h)
  have HCk := Lib.hid (fun W => Check_ok m p bl al z wd ((pr : Int) + 1) 103 W (by
    unfold okS
    rw [show ixB verbsB 103 = 10 from by decide, decide_eq_true hw, decide_eq_true hw2, decide_eq_true (show (-1 : Int) ≤ (pr : Int) + 1 by omega), decide_eq_true (show (pr : Int) + 1 ≤ 190 by omega)]
    rfl))
  have HPt := Lib.hid (fun W => Parts_any b W hb)
  rw [hf] at HPt
  generalize padL m z wd (signL p bl (decide (9223372036854775808 ≤ b))) (genO b pr al).data.toList = out at *
  unfold specA at HFl HCk ⊢
  clear hT
  go_enter Tryz.func24, Tryz.ntmps24
  go_wp2_with fail
  refine (HCk.out _).mono ?_
  rintro e w1 ⟨rfl, hb1⟩
  have HB1 := Lib.hid (((Below.refl w.heap.size w).alloc (Nat.le_refl _) (.cells #[.bool m, .bool p, .bool bl, .bool al, .bool z, .int .i64 wd, .int .i64 ((pr : Int) + 1), .int .u8 103] 35)).trans (hb1.mono (by simp)))
  have k0 : w1.cell? ⟨w.heap.size, 0, none⟩ = some (.bool m) := by rw [hb1.cell (by simp)]; simp [go_sem]
  have k1 : w1.cell? ⟨w.heap.size, 1, none⟩ = some (.bool p) := by rw [hb1.cell (by simp)]; simp [go_sem]
  have k2 : w1.cell? ⟨w.heap.size, 2, none⟩ = some (.bool bl) := by rw [hb1.cell (by simp)]; simp [go_sem]
  have k3 : w1.cell? ⟨w.heap.size, 3, none⟩ = some (.bool al) := by rw [hb1.cell (by simp)]; simp [go_sem]
  have k4 : w1.cell? ⟨w.heap.size, 4, none⟩ = some (.bool z) := by rw [hb1.cell (by simp)]; simp [go_sem]
  have k5 : w1.cell? ⟨w.heap.size, 5, none⟩ = some (.int .i64 wd) := by rw [hb1.cell (by simp)]; simp [go_sem]
  have k6 : w1.cell? ⟨w.heap.size, 6, none⟩ = some (.int .i64 ((pr : Int) + 1)) := by rw [hb1.cell (by simp)]; simp [go_sem]
  have k7 : w1.cell? ⟨w.heap.size, 7, none⟩ = some (.int .u8 103) := by rw [hb1.cell (by simp)]; simp [go_sem]
  clear hb1
  go_wp2_with fail
  refine (Index_numsG _).mono ?_
  rintro e _ ⟨rfl, rfl⟩
  go_wp2_with fail
  refine (HPt.out _).mono ?_
  rintro e _ ⟨rfl, rfl⟩
  go_wp2_with fail
  refine (Index_wholeG _).mono ?_
  rintro e _ ⟨rfl, rfl⟩
  go_wp2_with fail
  refine (HFl.out _ (HT.out.below HB1.out)).mono ?_
  rintro e w2 ⟨rfl, hgs, hb2⟩
  have HB2 := Lib.hid (HB1.out.trans (hb2.mono HB1.out.size))
  have HGs := Lib.hid hgs
  clear hb2 hgs
  go_wp2_with fail
  go_ret2
  exact ⟨rfl, HGs.out, HB2.out⟩
end Go.Proofs.YtfdnhkjeoeffoaaGreatDoor
end
