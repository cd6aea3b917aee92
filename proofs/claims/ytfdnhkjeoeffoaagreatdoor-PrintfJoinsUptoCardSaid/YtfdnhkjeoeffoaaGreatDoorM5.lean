/- Several texts in one (K1, K6, B1, P5, P6, P7, K2, K3, P8, I2, K7, K8, K11, K13, K10, K12, K14, K9, K17, K18, K19, K20, P9, P0, P14). -/
import Derived.Test.YtfdnhkjeoeffoaaGreatDoorM4
import Derived.Test.YtfdnhkjeoeffoaaGreatDoorShelf
import Derived.Test.YtfdnhkjeoeffoaaGreatDoorM1
import Derived.Shelf.Strings.Builder1
import Derived.Test.YtfdnhkjeoeffoaaGreatDoorM3
import Derived.Laws.FloatArith
import Derived.Deep.RegionHeld3
section
/- Package num: digits, power, read. -/
namespace Go.Proofs.YtfdnhkjeoeffoaaGreatDoor
open Go.RowKit
set_option linter.unusedVariables false
/-- the digits ahead -/
def lead (l : List UInt8) : List UInt8 := l.takeWhile (digs.contains ·)
theorem lead_drop (l : List UInt8) : l.dropWhile (digs.contains ·) = l.drop (lead l).length := by
 have h := List.takeWhile_append_dropWhile (p := (digs.contains ·)) (l := l)
 have h2 : l.drop (lead l).length = (lead l ++ l.dropWhile (digs.contains ·)).drop (lead l).length := by
  show _ = (l.takeWhile (digs.contains ·) ++ _).drop _
  rw [h]
 rw [h2, List.drop_left]
theorem lead_take (l : List UInt8) : l.take (lead l).length = lead l := by
 have h := List.takeWhile_append_dropWhile (p := (digs.contains ·)) (l := l)
 have h2 : l.take (lead l).length = (lead l ++ l.dropWhile (digs.contains ·)).take (lead l).length := by
  show _ = (l.takeWhile (digs.contains ·) ++ _).take _
  rw [h]
 rw [h2, List.take_left]
theorem lead_le (l : List UInt8) : (lead l).length ≤ l.length := (List.takeWhile_sublist _).length_le
theorem tw_all (p : UInt8 → Bool) : ∀ (l : List UInt8) (x : UInt8), x ∈ l.takeWhile p → p x = true
 | [], x, h => by simp at h
 | c :: l, x, h => by
   rw [List.takeWhile_cons] at h
   by_cases hc : p c = true
   ·rw [if_pos hc] at h
    rcases List.mem_cons.1 h with rfl | h2
    ·exact hc
    ·exact tw_all p l x h2
   ·rw [if_neg hc] at h; simp at h
theorem lead_digits (l : List UInt8) : Digits (lead l) := by
 intro c hc
 exact (digs_iff c).1 (tw_all _ l c hc)
theorem TrimLeft_digs (s : ByteArray) (w : World) :
 Calls Tryz.prog 106 #[.string s, .string ⟨#[48, 49, 50, 51, 52, 53, 54, 55, 56, 57]⟩] w fun e w' => e = .returned (.string ⟨(s.data.toList.drop (lead s.data.toList).length).toArray⟩) ∧ Below w.heap.size w w' := by
 have h := Any.strings_TrimLeft_laid Tryz.lays161 (by kernel_rfl) s ⟨#[48, 49, 50, 51, 52, 53, 54, 55, 56, 57]⟩ w (by decide) (ascii_of_all (by decide))
 have e : Lib.trimLeftS s.data.toList (⟨#[48, 49, 50, 51, 52, 53, 54, 55, 56, 57]⟩ : ByteArray).data.toList = s.data.toList.drop (lead s.data.toList).length := lead_drop _
 rw [e] at h
 exact h
theorem digits_any (s : ByteArray) (w : World) (hs : s.size ≤ 140737488355328) :
 Calls Tryz.prog 168 #[.string s] w fun e w' => e = .returned (.int .i64 ((lead s.data.toList).length : Nat)) ∧ Below w.heap.size w w' := by
 have HT := Lib.hid (TrimLeft_digs s w)
 have hle := lead_le s.data.toList
 have hsz : s.size = s.data.toList.length := by simp
 obtain ⟨T, hT⟩ : ∃ T : ByteArray, T = ⟨(s.data.toList.drop (lead s.data.toList).length).toArray⟩ := ⟨_, rfl⟩
 rw [← hT] at HT
 have hTs : T.size + (lead s.data.toList).length = s.size := by
  have h1 : T.size = T.data.toList.length := by simp
  rw [h1, hT, hsz]
  simp
  omega
 generalize (lead s.data.toList).length = n at *
 have e1 : (s.size : Int) - (T.size : Int) = (n : Int) := by omega
 clear hT hle hsz
 go_enter Tryz.func168, Tryz.ntmps168
 go_wp2_with fail
 refine HT.out.mono ?_
 rintro e w1 ⟨rfl, hb⟩
 have HB := Lib.hid hb
 clear hb HT
 go_wp2_with fail
 go_ret
 exact ⟨rfl, HB.out⟩
/-- the number of digits, no greater than 100000 -/
def powN (l : List UInt8) : Nat := l.foldl (fun n c => min (10 * n + (c.toNat - 48)) 100000) 0
theorem powN_snoc (l : List UInt8) (c : UInt8) : powN (l ++ [c]) = min (10 * powN l + (c.toNat - 48)) 100000 := by simp [powN]
theorem powN_le : ∀ l : List UInt8, powN l ≤ 100000 := by
 intro l
 rcases List.eq_nil_or_concat l with rfl | ⟨r, c, rfl⟩
 ·decide
 ·rw [List.concat_eq_append, powN_snoc]; omega
def powL (l : List UInt8) (minus : Bool) : Int := if minus then -(powN l : Int) else (powN l : Int)
set_option maxRecDepth 100000 in
set_option maxHeartbeats 2000000 in
theorem power_any (s : ByteArray) (minus : Bool) (w : World) (hd : Digits s.data.toList) (hs : s.size ≤ 140737488355328) :
 Calls Tryz.prog 169 #[.string s, .bool minus] w fun e w' => e = .returned (.int .i64 (powL s.data.toList minus)) ∧ Below w.heap.size w w' := by
 have hsz : s.size = s.data.toList.length := by simp
 generalize hLe : s.data.toList = L at *
 have HLe := Lib.hid hLe
 have HD := Lib.hid hd
 have HPL : Hid (powL L minus = if minus then -(powN L : Int) else (powN L : Int)) := rfl
 generalize powL L minus = R at *
 clear hd hLe
 go_enter Tryz.func169, Tryz.ntmps169
 go_wp2_with (refine wpList_bytes _ rfl _ rfl s rfl ?_; rw [HLe.out, hsz]; intro cap1 w1 hl1 hb1 hs1)
 generalize hg1 : w.heap.size = g at *
 have HL1 := Lib.hid hl1
 have HB1 := Lib.hid hb1
 have HG := Lib.hid hg1
 clear hl1 hb1 hg1
 go_wp2_with fail
 go_loop [5, 11] (fun n i => ∃ k : Nat, k ≤ L.length ∧ i = .int .i64 k ∧ n = .int .i64 ((powN (L.take k) : Nat) : Int)) (fun _ i => L.length - (intOf i).toNat)
 case atStart => exact ⟨0, Nat.zero_le _, rfl, rfl⟩
 case round =>
  obtain ⟨k, hk, rfl, rfl⟩ := hrel
  by_cases hlt : k < L.length
  ·have hc := HL1.out k hlt
   rw [Nat.zero_add] at hc
   have hdd := HD.out _ (List.getElem_mem hlt)
   have hst : Hid (powN (L.take (k + 1)) = min (10 * powN (L.take k) + (L[k].toNat - 48)) 100000) := by
    show _ = _
    rw [List.take_succ_eq_append_getElem hlt, powN_snoc]
   have hpl := powN_le (L.take k)
   generalize L[k].toNat = c at *
   generalize powN (L.take k) = p at *
   obtain ⟨d, hdv⟩ : ∃ d, d = c - 48 := ⟨_, rfl⟩
   rw [← hdv] at hst
   have ed2 : ((c : Int) - 48) % 256 = (d : Int) := by omega
   have ed3 : (c : Int) - 48 = (d : Int) := by omega
   have hd9 : d ≤ 9 := by omega
   obtain ⟨q, hq⟩ : ∃ q, q = min (10 * p + d) 100000 := ⟨_, rfl⟩
   rw [← hq] at hst
   have eq1 : min ((10 : Int) * p + d) 100000 = (q : Int) := by omega
   clear hdv hq
   go_wp2_with fail
   go_round
   case rel => exact ⟨k + 1, by omega, by go_num, by rw [hst.out]⟩
   case measure => simp [intOf]; omega
  ·obtain rfl : k = L.length := by omega
   have hpl := powN_le (L.take L.length)
   have hp2 : Hid (powN (L.take L.length) = powN L) := by show _ = _; rw [List.take_length]
   generalize powN (L.take L.length) = p at *
   cases minus
   ·go_wp2_with fail
    go_ret
    exact ⟨by rw [HPL.out, ← hp2.out]; rfl, by rw [HG.out]; exact HB1.out⟩
   ·go_wp2_with fail
    go_ret
    exact ⟨by rw [HPL.out, ← hp2.out]; rfl, by rw [HG.out]; exact HB1.out⟩
theorem ext_list (s : ByteArray) (i j : Nat) : (s.extract i j).data.toList = (s.data.toList.drop i).take (j - i) := by
 simp [ByteArray.data_extract, List.extract_eq_take_drop]
theorem size_list (s : ByteArray) : s.size = s.data.toList.length := by simp
theorem Trim_nought (s : ByteArray) (w : World) (hs : s.size ≤ 9223372036854775807) :
 Calls Tryz.prog 111 #[.string s, .string ⟨#[48]⟩] w fun e w' => e = .returned (.string ⟨(Lib.trimB s.data.toList 48).toArray⟩) ∧ Below w.heap.size w w' := by
 refine (Tryz.strings_Trim_one s 48 (by decide) w hs).mono ?_
 rintro e w' ⟨rfl, h | h⟩
 ·rw [h]; exact ⟨rfl, Below.refl _ _⟩
 ·rw [h]; exact ⟨rfl, (Below.refl _ _).drew⟩
/-- what read answers: of very many digits the first 900 count, and one behind them, if any that follows is no nought -/
def readN (l : List UInt8) (e : Int) : Nat :=
 if bare l = [] then 0
 else if (bare l).length ≤ 900 then readB (bare l) e
 else if Lib.trimB ((bare l).drop 900) 48 = [] then readB ((bare l).take 900) (e + (bare l).length - 900)
 else readB ((bare l).take 900 ++ [49]) (e + (bare l).length - 900 - 1)
set_option maxRecDepth 100000 in
set_option maxHeartbeats 2000000 in
theorem read_any (s : ByteArray) (x : Int) (w : World) (hd : Digits s.data.toList) (hs : s.size ≤ 140737488355328) (hx1 : -1000000000000000 ≤ x) (hx2 : x ≤ 1000000000000000) :
 Calls Tryz.prog 109 #[.string s, .int .i64 x] w fun e w' => e = .returned (.float .f64 (readN s.data.toList x)) ∧ Below w.heap.size w w' := by
 have hTL : Hid (∀ W, Calls Tryz.prog 106 #[.string s, .string ⟨#[48]⟩] W fun e w' => e = .returned (.string ⟨(bare s.data.toList).toArray⟩) ∧ w' = W) := fun W => Tryz.strings_TrimLeft_one s 48 (by decide) W
 obtain ⟨t, ht⟩ : ∃ t : ByteArray, t = ⟨(bare s.data.toList).toArray⟩ := ⟨_, rfl⟩
 rw [← ht] at hTL
 have htl : bare s.data.toList = t.data.toList := by rw [ht]
 have hdt : Digits t.data.toList := by rw [← htl]; exact bare_digits hd
 have hR : Hid (readN s.data.toList x = if t.data.toList = [] then 0 else if t.data.toList.length ≤ 900 then readB t.data.toList x else if Lib.trimB (t.data.toList.drop 900) 48 = [] then readB (t.data.toList.take 900) (x + t.data.toList.length - 900) else readB (t.data.toList.take 900 ++ [49]) (x + t.data.toList.length - 900 - 1)) := by
  show _ = _
  unfold readN
  rw [htl]
 obtain ⟨n, hn0⟩ : ∃ n, n = t.size := ⟨_, rfl⟩
 have hn1 : t.size = n := hn0.symm
 have HLT : Hid (t.data.toList.length = n) := by show _ = _; rw [hn0]; simp
 have hnl : n ≤ 140737488355328 := by
  have hbl := bare_length s.data.toList
  rw [htl, HLT.out] at hbl
  have hsz : s.size = s.data.toList.length := by simp
  omega
 rw [HLT.out] at hR
 generalize readN s.data.toList x = R at *
 have HDT := Lib.hid hdt
 clear ht htl hdt hd hn0
 by_cases h0 : t.data.toList = []
 ·have he : t.toList.isEmpty = true := by rw [ByteArray.toList_eq, h0]; rfl
  obtain rfl : R = 0 := by rw [hR.out, if_pos h0]
  clear hR h0
  go_enter Tryz.func109, Tryz.ntmps109
  go_wp2_with fail
  refine (hTL.out w).mono ?_
  rintro e w1 ⟨rfl, rfl⟩
  go_wp2_with fail
  go_ret
  exact ⟨rfl, Below.refl _ _⟩
 ·have he : t.toList.isEmpty = false := by rw [ByteArray.toList_eq]; simpa using h0
  by_cases h9 : n ≤ 900
  ·have HR : Hid (R = readB t.data.toList x) := by show _ = _; rw [hR.out, if_neg h0, if_pos h9]
   have hts2 : (n : Int) ≤ 900 := by omega
   have hRD := Lib.hid (fun W => Read_ok t x W h0 HDT.out (by rw [HLT.out]; omega) (by omega) (by omega))
   rw [← HR.out] at hRD
   clear hR h0
   go_enter Tryz.func109, Tryz.ntmps109
   go_wp2_with fail
   refine (hTL.out w).mono ?_
   rintro e w1 ⟨rfl, rfl⟩
   go_wp2_with fail
   refine (hRD.out w1).mono ?_
   rintro e w2 ⟨rfl, hb2⟩
   have HB2 := Lib.hid hb2
   clear hb2 hRD
   go_wp2_with fail
   go_ret
   exact ⟨rfl, HB2.out⟩
  ·have hts2 : 900 < (n : Int) := by omega
   have hh0 := Lib.hid h0
   clear h0
   go_enter Tryz.func109, Tryz.ntmps109
   go_wp2_with fail
   refine (hTL.out w).mono ?_
   rintro e w1 ⟨rfl, rfl⟩
   go_wp2_with fail
   have hE1 : (t.extract 900 n).data.toList = t.data.toList.drop 900 := by
    rw [ext_list]
    exact List.take_of_length_le (by rw [List.length_drop, HLT.out]; omega)
   have hE2 : (t.extract 0 900).data.toList = t.data.toList.take 900 := by rw [ext_list]; rfl
   have hx1s : (t.extract 900 n).size ≤ 9223372036854775807 := by
    have h1 := size_list (t.extract 900 n)
    rw [h1, hE1, List.length_drop, HLT.out]; omega
   have hl2 : (t.data.toList.take 900).length = 900 := by rw [List.length_take, HLT.out]; omega
   have hx2s : (t.extract 0 900).size = 900 := by
    have h1 := size_list (t.extract 0 900)
    rw [h1, hE2, hl2]
   have hTR := Lib.hid (Trim_nought (t.extract 900 n) w1 hx1s)
   rw [hE1] at hTR
   have hd2 : Digits (t.data.toList.take 900) := fun c hc => HDT.out c (List.mem_of_mem_take hc)
   by_cases hz : Lib.trimB (t.data.toList.drop 900) 48 = []
   ·rw [hz] at hTR
    have HR : Hid (R = readB (t.data.toList.take 900) (x + n - 900)) := by show _ = _; rw [hR.out, if_neg hh0.out, if_neg h9, if_pos hz]
    have hRD := Lib.hid (fun W => Read_ok (t.extract 0 900) (x + n - 900) W (by rw [hE2]; intro h; rw [h] at hl2; simp at hl2) (by rw [hE2]; exact hd2) (by rw [hE2, hl2]; decide) (by omega) (by omega))
    rw [hE2, ← HR.out] at hRD
    clear hE1 hE2 hl2 hd2 hz hR HR hx1s
    refine hTR.out.mono ?_
    rintro e w2 ⟨rfl, hb2⟩
    have HB2 := Lib.hid hb2
    have hs2 := hb2.size
    clear hb2 hTR
    go_wp2_with fail
    refine (hRD.out w2).mono ?_
    rintro e w3 ⟨rfl, hb3⟩
    have HB3 := Lib.hid (HB2.out.trans (hb3.mono hs2))
    clear hb3 hRD HB2
    go_wp2_with fail
    go_ret
    exact ⟨rfl, HB3.out⟩
   ·have HR : Hid (R = readB (t.data.toList.take 900 ++ [49]) (x + n - 900 - 1)) := by show _ = _; rw [hR.out, if_neg hh0.out, if_neg h9, if_neg hz]
    have hE3 : (t.extract 0 900 ++ ⟨#[49]⟩ : ByteArray).data.toList = t.data.toList.take 900 ++ [49] := by rw [ByteArray.data_append, Array.toList_append, hE2]
    have hRD := Lib.hid (fun W => Read_ok (t.extract 0 900 ++ ⟨#[49]⟩) (x + n - 900 - 1) W (by rw [hE3]; simp) (by
     rw [hE3]; intro c hc
     rcases List.mem_append.1 hc with h | h
     ·exact hd2 c h
     ·simp at h; subst h; decide) (by rw [hE3, List.length_append, hl2]; decide) (by omega) (by omega))
    rw [hE3, ← HR.out] at hRD
    obtain ⟨T, hT⟩ : ∃ T : ByteArray, T = ⟨(Lib.trimB (t.data.toList.drop 900) 48).toArray⟩ := ⟨_, rfl⟩
    rw [← hT] at hTR
    have hTe : T.toList.isEmpty = false := by
     rw [ByteArray.toList_eq, hT]
     simpa using hz
    clear hE1 hE2 hl2 hd2 hz hR HR hx1s hE3 hT
    refine hTR.out.mono ?_
    rintro e w2 ⟨rfl, hb2⟩
    have HB2 := Lib.hid hb2
    have hs2 := hb2.size
    clear hb2 hTR
    go_wp2_with fail
    refine (hRD.out w2).mono ?_
    rintro e w3 ⟨rfl, hb3⟩
    have HB3 := Lib.hid (HB2.out.trans (hb3.mono hs2))
    clear hb3 hRD HB2
    go_wp2_with fail
    go_ret
    exact ⟨rfl, HB3.out⟩
end Go.Proofs.YtfdnhkjeoeffoaaGreatDoor
end

section
/- Package num: Whole. -/
namespace Go.Proofs.YtfdnhkjeoeffoaaGreatDoor
open Go.RowKit
set_option linter.unusedVariables false
/-- is the float whole, and below 10^16 -/
def wholeOk (b : Nat) : Bool := decide (b % 9223372036854775808 < 4846369599423283200) && (FloatKind.f64.format.order (truncB b) b == some .eq)
/-- the text of a whole number -/
def WholeT (t : List UInt8) (b : Nat) (S : Bool) : Prop := ∃ l, Canon l (scaledN b 0) ∧ t = if S = true then 45 :: l else l
set_option maxRecDepth 100000 in
set_option maxHeartbeats 4000000 in
theorem Whole_no (b : Nat) (w : World) (hb : b < 18446744073709551616) (h : wholeOk b = false) :
 Calls Tryz.prog 14 #[.float .f64 b] w fun e w' => e = .returned (.tuple #[.string ⟨#[]⟩, .bool false]) ∧ w = w' := by
 have HA := Lib.hid (Abs_any b w hb)
 have HT := Lib.hid (Trunc_any b w hb)
 have hal : b % 9223372036854775808 < 9223372036854775808 := Nat.mod_lt _ (by decide)
 unfold wholeOk at h
 generalize truncB b = T at *
 generalize b % 9223372036854775808 = a at *
 by_cases h1 : a < 4846369599423283200
 ·have ho := order_lt (x := a) (y := 4846369599423283200) (by omega) (by decide) h1
  have ho2 : (FloatKind.f64.format.order T b == some .eq) = false := by rw [decide_eq_true h1] at h; simpa using h
  have ho3 : (FloatKind.f64.format.order T b != some .eq) = true := by unfold bne; rw [ho2]; rfl
  clear h h1 hal hb
  go_enter Tryz.func14, Tryz.ntmps14
  go_wp2_with fail
  refine HA.out.mono ?_
  rintro e w1 ⟨rfl, rfl⟩
  go_wp2_with fail
  refine HT.out.mono ?_
  rintro e w1 ⟨rfl, rfl⟩
  go_wp2_with fail
  go_ret2
  exact ⟨rfl, rfl⟩
 ·have ho : (FloatKind.f64.format.order a 4846369599423283200 == some .lt) = false := by
   rcases Nat.lt_or_ge 9218868437227405312 a with h2 | h2
   ·rw [order_nan _ h2 hal]; rfl
   ·rcases Nat.eq_or_lt_of_le (Nat.le_of_not_lt h1) with h3 | h3
    ·rw [← h3, order_eq (by decide)]; rfl
    ·rw [order_gt h2 (by decide) h3]; rfl
  clear h h1 hal hb HT
  go_enter Tryz.func14, Tryz.ntmps14
  go_wp2_with fail
  refine HA.out.mono ?_
  rintro e w1 ⟨rfl, rfl⟩
  go_wp2_with fail
  go_ret2
  exact ⟨rfl, rfl⟩
set_option maxRecDepth 100000 in
set_option maxHeartbeats 4000000 in
theorem Whole_yes (b : Nat) (w : World) (hb : b < 18446744073709551616) (h : wholeOk b = true) :
 Calls Tryz.prog 14 #[.float .f64 b] w fun e w' => ∃ s : ByteArray, e = .returned (.tuple #[.string s, .bool true]) ∧ WholeT s.data.toList b (FloatKind.f64.format.order b 0 == some .lt) ∧ Below w.heap.size w w' := by
 have HA := Lib.hid (Abs_any b w hb)
 have HT := Lib.hid (Trunc_any b w hb)
 unfold wholeOk at h
 rw [Bool.and_eq_true, decide_eq_true_eq] at h
 obtain ⟨h1, ho2⟩ := h
 have hfin : fin b = true := by
  rw [← (mant_mod b).2.2]
  exact (fin_lt_inf (Nat.mod_lt _ (by decide))).2 (by omega)
 have HF := Lib.hid (Fixed_ok b 0 w hb hfin (by decide))
 have ho := order_lt (x := b % 9223372036854775808) (y := 4846369599423283200) (by omega) (by decide) h1
 have ho3 : (FloatKind.f64.format.order (truncB b) b != some .eq) = false := by unfold bne; rw [ho2]; rfl
 obtain ⟨S, hS⟩ : ∃ S : Bool, S = (FloatKind.f64.format.order b 0 == some .lt) := ⟨_, rfl⟩
 have hS2 : (FloatKind.f64.format.order b 0 == some .lt) = S := hS.symm
 rw [hS2]
 have ho2' : FloatKind.f64.format.order (truncB b) b = some .eq := by simpa using ho2
 generalize truncB b = T at *
 generalize b % 9223372036854775808 = a at *
 clear h1 hb hfin hS ho2
 cases S
 ·go_enter Tryz.func14, Tryz.ntmps14
  go_wp2_with fail
  refine HA.out.mono ?_
  rintro e w1 ⟨rfl, rfl⟩
  go_wp2_with fail
  refine HT.out.mono ?_
  rintro e w1 ⟨rfl, rfl⟩
  go_wp2_with fail
  refine HF.out.mono ?_
  rintro e w1 ⟨s, l, rfl, hc, hs, hb⟩
  have HC := Lib.hid hc
  have HS : Hid (s.data.toList = l) := by show _ = _; rw [hs]; exact fixedL_zero hc.ne
  have HB := Lib.hid hb
  clear hc hs hb
  go_wp2_with fail
  go_ret2
  exact ⟨s, rfl, ⟨l, HC.out, HS.out⟩, HB.out⟩
 ·go_enter Tryz.func14, Tryz.ntmps14
  go_wp2_with fail
  refine HA.out.mono ?_
  rintro e w1 ⟨rfl, rfl⟩
  go_wp2_with fail
  refine HT.out.mono ?_
  rintro e w1 ⟨rfl, rfl⟩
  go_wp2_with fail
  refine HF.out.mono ?_
  rintro e w1 ⟨s, l, rfl, hc, hs, hb⟩
  have HC := Lib.hid hc
  have HS : Hid ((⟨#[45]⟩ ++ s : ByteArray).data.toList = 45 :: l) := by show _ = _; rw [ByteArray.data_append, Array.toList_append, hs, fixedL_zero hc.ne]; rfl
  have HB := Lib.hid hb
  have hsz : s.size ≤ 5000 := by
   rw [size_list, hs, fixedL_zero hc.ne]
   have h2 := canon_len (k := 4001) hc (Nat.lt_of_lt_of_le (nbits_le.1 (scaledN_lt (b := b) (k := 0) (by decide) (by decide))) (two_ten 4001)) (by decide)
   omega
  clear hc hs hb
  go_wp2_with fail
  go_ret2
  exact ⟨_, rfl, ⟨l, HC.out, HS.out⟩, HB.out⟩
end Go.Proofs.YtfdnhkjeoeffoaaGreatDoor
end

section
/- strings.Builder: copyCheck, WriteByte, WriteString, at a dump whose copyCheck refuses a copied builder. (The library's own walk of these, turned to this dump.) -/
namespace Go.Proofs.YtfdnhkjeoeffoaaGreatDoor
open Go.RowKit Go.Shelf
set_option linter.unusedVariables false
theorem sizeBuilder : (Tryz.prog.info? 122).map (·.size) = some 2 := by kernel_rfl
theorem liesBuilder : liesAt Tryz.prog Tryz.prog.depth 122 (2 / Tryz.prog.cellsOf 122) 0 122 1 = true := by kernel_rfl
theorem infoByte : (Tryz.prog.info? 5).map (fun i => (i.zero, i.size, i.bytes)) = some (some (.int .u8 0), 1, 1) := by kernel_rfl
set_option maxHeartbeats 1000000 in
set_option maxRecDepth 100000 in
theorem copyCheck_used (b : Nat) (w : World) (h0 : w.cell? ⟨b, 0, none⟩ = some (.pointer (some ⟨b, 0, none⟩))) :
 Calls Tryz.prog 139 #[.pointer (some ⟨b, 0, none⟩)] w fun e w' => e = .returned (.tuple #[]) ∧ w' = w := by
 obtain ⟨j, hj, _⟩ := Option.map_eq_some_iff.1 sizeBuilder
 go_enter Tryz.func139, Tryz.ntmps139
 go_wp2
 rw [Lib.run_neq_ptr_same w _ Tryz.underlying120 hj]
 go_wp2
 go_end0
 exact ⟨rfl, rfl⟩
set_option maxHeartbeats 1000000 in
set_option maxRecDepth 100000 in
theorem copyCheck_fresh (b : Nat) (w : World) (h0 : w.cell? ⟨b, 0, none⟩ = some (.pointer none)) (hsh : w.shape? b = some (122, 2)) (hfz : w.frozen? ⟨b, 0, none⟩ = false) :
 Calls Tryz.prog 139 #[.pointer (some ⟨b, 0, none⟩)] w fun e w' => e = .returned (.tuple #[]) ∧ w' = w.setCell ⟨b, 0, none⟩ (.pointer (some ⟨b, 0, none⟩)) := by
 obtain ⟨j, hj, hjs⟩ := Option.map_eq_some_iff.1 sizeBuilder
 go_enter Tryz.func139, Tryz.ntmps139
 go_wp2
 rw [Lib.run_to_unsafe w ⟨b, 0, none⟩ Tryz.underlying120 Tryz.underlying255 hj (by rw [hjs]; decide) hsh (Nat.zero_lt_succ 1)]
 simp only [Result.andThen]
 rw [Oper.upon_value]
 go_wp2
 rw [run_callFunc_extern Tryz.func206 (by kernel_rfl) (by kernel_rfl) (by kernel_rfl) (e := Extern.AbiNoEscape.same) (by kernel_rfl)]
 rw [Lib.run_noEscape]
 simp only [Result.andThen]
 rw [Oper.upon_value]
 go_wp2
 rw [Lib.run_from_unsafe w ⟨b, 0, none⟩ Tryz.underlying255 Tryz.underlying120 hj hsh liesBuilder]
 simp only [Result.andThen]
 rw [Oper.upon_value]
 go_wp2
 go_end0
 exact ⟨rfl, rfl⟩
theorem copyCheck_any (B b : Nat) (bs : List Value) (w : World) (h : Lib.IsBuilder 122 5 B b bs w) :
 Calls Tryz.prog 139 #[.pointer (some ⟨b, 0, none⟩)] w fun e w' => e = .returned (.tuple #[]) ∧ (Lib.BuilderAt 122 5 B b (.pointer (some ⟨b, 0, none⟩)) bs w' ∧ Below B w w') := by
 rcases h with h | h
 ·refine (copyCheck_fresh b w h.cell0 h.shape h.frozen0).mono ?_
  rintro e w' ⟨rfl, rfl⟩
  exact ⟨rfl, h.used _, (Below.refl B w).setCell (p := ⟨b, 0, none⟩) h.1 _⟩
 ·refine (copyCheck_used b w h.cell0).mono ?_
  rintro e w' ⟨rfl, rfl⟩
  exact ⟨rfl, h, Below.refl B _⟩
set_option maxHeartbeats 2000000 in
set_option maxRecDepth 100000 in
theorem WriteString_any (B b : Nat) (bs : List Value) (s : ByteArray) (w : World) (h : Lib.IsBuilder 122 5 B b bs w) (hlen : bs.length + s.size ≤ 140737488355328) (hBw : B ≤ w.heap.size) :
 Calls Tryz.prog 88 #[.pointer (some ⟨b, 0, none⟩), .string s] w fun e w' => e = .returned (.tuple #[.int .i64 s.size, .nilIface]) ∧ (Lib.BuilderAt 122 5 B b (.pointer (some ⟨b, 0, none⟩)) (bs ++ Lib.strCells s) w' ∧ Below B w w') := by
 obtain ⟨i0, hi, hz0, hz1, hz2⟩ := info_parts infoByte
 go_enter Tryz.func88, Tryz.ntmps88
 go_wp2_with fail
 refine (copyCheck_any B b bs _ h).mono ?_
 rintro e w1 ⟨rfl, h1, hb1⟩
 obtain ⟨hB, v, hbk, hown, hne⟩ := h1
 have c0 : w1.cell? ⟨b, 0, none⟩ = some (.pointer (some ⟨b, 0, none⟩)) := by rw [Lib.cell_of_heap hbk]; rfl
 have c1 : w1.cell? ⟨b, 1, none⟩ = some v := by rw [Lib.cell_of_heap hbk]; rfl
 go_wp2_with (at_builtin; refine Lib.wpList_append_own_string _ rfl _ _ 64 9 rfl B 5 i0 Tryz.underlying64 Tryz.underlying9 hi hz0 hz1 hz2 _ _ _ rfl hown s rfl ?c3 ?c4 ?c5 ?_)
 case c3 => unfold maxLen; omega
 case c4 => omega
 case c5 => have := hb1.size; omega
 intro v' w2 hown' hgrow _
 have hlt : b < w1.heap.size := by
  rcases Nat.lt_or_ge b w1.heap.size with h' | h'
  ·exact h'
  ·simp [Array.getElem?_eq_none h'] at hbk
 have hb2 : w2.heap[b]? = some (.cells #[.pointer (some ⟨b, 0, none⟩), v] 122 (0, 0)) := by
  rw [hgrow.block b hlt (fun e => hne e.symm)]
  exact hbk
 have d0 : w2.cell? ⟨b, 0, none⟩ = some (.pointer (some ⟨b, 0, none⟩)) := by rw [Lib.cell_of_heap hb2]; rfl
 have d1 : w2.cell? ⟨b, 1, none⟩ = some v := by rw [Lib.cell_of_heap hb2]; rfl
 have f1 : w2.frozen? ⟨b, 1, none⟩ = false := Lib.frozen_of_heap hb2 1
 obtain ⟨ao, n', cap, rfl⟩ : ∃ ao n' cap, v' = .slice ao n' cap := by
  rcases hown'.2 with ⟨hv, _⟩ | ⟨g, cap, cur, hv, _⟩
  ·exact ⟨_, _, _, hv⟩
  ·exact ⟨_, _, _, hv⟩
 go_wp2_with fail
 go_ret2
 refine ⟨rfl, ?_, ?_⟩
 ·exact Lib.BuilderAt.put (T := 122) (e := 5) hB hb2 (bs' := bs ++ Lib.strCells s) (by simpa [Lib.strCells_length] using hown') (by decide)
 ·exact (hb1.grown hgrow (by have := hb1.size; omega) (fun k hk => (hown.lt k hk).1)).setCell (p := ⟨b, 1, none⟩) hB _
end Go.Proofs.YtfdnhkjeoeffoaaGreatDoor
end

section
/- Package format: Check, sign, padded. -/
namespace Go.Proofs.YtfdnhkjeoeffoaaGreatDoor
open Go.RowKit
set_option linter.unusedVariables false
/-- a spec as a value -/
def specA (m p b a z : Bool) (wd pr : Int) (vb : Nat) : Array Value := #[.bool m, .bool p, .bool b, .bool a, .bool z, .int .i64 wd, .int .i64 pr, .int .u8 (vb : Int)]
/-- may the spec be -/
def okS (wd pr : Int) (vb : Nat) : Bool := (vb != 0) && decide (0 ≤ ixB verbsB vb) && decide (0 ≤ wd) && decide (wd ≤ 1024) && decide (-1 ≤ pr) && decide (pr ≤ 190)
set_option maxHeartbeats 4000000 in
set_option maxRecDepth 100000 in
theorem Check_ok (m p b a z : Bool) (wd pr : Int) (vb : Nat) (w : World) (h : okS wd pr vb = true) :
 Calls Tryz.prog 68 #[.agg (specA m p b a z wd pr vb)] w fun e w' => e = .returned (.int .i64 0) ∧ Below w.heap.size w w' := by
 unfold okS at h
 simp only [Bool.and_eq_true, decide_eq_true_eq, bne_iff_ne] at h
 obtain ⟨⟨⟨⟨⟨h1, h2⟩, h3⟩, h4⟩, h5⟩, h6⟩ := h
 have HI : Hid (∀ W, Calls Tryz.prog 69 #[.string ⟨#[100, 105, 111, 120, 88, 117, 101, 69, 102, 70, 103, 71, 99, 115, 37]⟩, .int .u8 (vb : Int)] W fun e w' => e = .returned (.int .i64 (ixB verbsB vb)) ∧ w' = W) :=
  fun W => Tryz.strings_IndexByte verbsB (vb : Int) W
 generalize ixB verbsB vb = J at *
 have hv : ((vb : Int) == 0) = false := by simp; omega
 have j2 : decide (J < 0) = false := by simp; omega
 have j3 : decide (wd < 0) = false := by simp; omega
 have j4 : decide (1024 < wd) = false := by simp; omega
 have j5 : decide (pr < -1) = false := by simp; omega
 have j6 : decide (190 < pr) = false := by simp; omega
 unfold specA
 clear h1 h2 h3 h4 h5 h6
 go_enter Tryz.func68, Tryz.ntmps68
 go_wp2_with fail
 refine (HI.out _).mono ?_
 rintro e _ ⟨rfl, rfl⟩
 go_wp2_with fail
 go_ret
 exact ⟨rfl, (Below.refl _ _).alloc (Nat.le_refl _) _⟩
/-- the sign ahead -/
def signL (p b minus : Bool) : List UInt8 := if minus then [45] else if p then [43] else if b then [32] else []
set_option maxRecDepth 100000 in
theorem sign_any (m p b a z minus : Bool) (wd pr : Int) (vb : Nat) (w : World) :
 Calls Tryz.prog 128 #[.agg (specA m p b a z wd pr vb), .bool minus] w fun e w' => e = .returned (.string ⟨(signL p b minus).toArray⟩) ∧ Below w.heap.size w w' := by
 unfold specA
 cases minus
 ·cases p
  ·cases b
   ·go_enter Tryz.func128, Tryz.ntmps128
    go_wp2_with fail
    go_ret
    exact ⟨rfl, (Below.refl _ _).alloc (Nat.le_refl _) _⟩
   ·go_enter Tryz.func128, Tryz.ntmps128
    go_wp2_with fail
    go_ret
    exact ⟨rfl, (Below.refl _ _).alloc (Nat.le_refl _) _⟩
  ·go_enter Tryz.func128, Tryz.ntmps128
   go_wp2_with fail
   go_ret
   exact ⟨rfl, (Below.refl _ _).alloc (Nat.le_refl _) _⟩
 ·go_enter Tryz.func128, Tryz.ntmps128
  go_wp2_with fail
  go_ret
  exact ⟨rfl, (Below.refl _ _).alloc (Nat.le_refl _) _⟩
/-- head and rest, as wide as it should be -/
def padL (m z : Bool) (wd : Int) (h s : List UInt8) : List UInt8 :=
 if m then h ++ s ++ List.replicate (wd - h.length - s.length).toNat 32
 else if z then h ++ List.replicate (wd - h.length - s.length).toNat 48 ++ s
 else List.replicate (wd - h.length - s.length).toNat 32 ++ h ++ s
theorem Repeat_one (c : UInt8) (n : Nat) (w : World) (hn : n ≤ 1000000000) :
 Calls Tryz.prog 114 #[.string ⟨#[c]⟩, .int .i64 (n : Int)] w fun e w' => e = .returned (.string ⟨(List.replicate n c).toArray⟩) ∧ Below w.heap.size w w' := by
 have h := Tryz.strings_Repeat ⟨#[c]⟩ n w (by omega) (by show 1 * n ≤ _; omega)
 rw [show (⟨#[c]⟩ : ByteArray).data.toList = [c] from rfl, repeatL_one] at h
 exact h
set_option maxHeartbeats 4000000 in
set_option maxRecDepth 100000 in
theorem padded_any (m p b a z0 zero : Bool) (wd pr : Int) (vb : Nat) (h s : ByteArray) (w : World) (hw : 0 ≤ wd) (hw2 : wd ≤ 1024) (hh : h.size ≤ 1000000) (hs : s.size ≤ 1000000) :
 Calls Tryz.prog 70 #[.agg (specA m p b a z0 wd pr vb), .string h, .string s, .bool zero] w fun e w' => e = .returned (.string ⟨(padL m zero wd h.data.toList s.data.toList).toArray⟩) ∧ Below w.heap.size w w' := by
 have e1 : h.size = h.data.toList.length := sz_list h
 have e2 : s.size = s.data.toList.length := sz_list s
 have hP : padL m zero wd h.data.toList s.data.toList = (if m then h.data.toList ++ s.data.toList ++ List.replicate (wd - h.size - s.size).toNat 32
  else if zero then h.data.toList ++ List.replicate (wd - h.size - s.size).toNat 48 ++ s.data.toList else List.replicate (wd - h.size - s.size).toNat 32 ++ h.data.toList ++ s.data.toList) := by
  unfold padL
  rw [← e1, ← e2]
 rw [hP]
 clear hP e1 e2
 obtain ⟨n, hn⟩ : ∃ n, n = (wd - h.size - s.size).toNat := ⟨_, rfl⟩
 rw [← hn]
 have HN := Lib.hid (show max 0 (wd - (h.size : Int) - (s.size : Int)) = (n : Int) from by omega)
 have hn2 : n ≤ 1000000000 := by omega
 have HRep := Lib.hid (fun (c : UInt8) (W : World) => Repeat_one c n W hn2)
 clear hn
 unfold specA
 cases m
 ·cases zero
  ·obtain ⟨R, hR⟩ : ∃ R : ByteArray, R = ⟨(List.replicate n 32).toArray⟩ := ⟨_, rfl⟩
   have hRs : R.size ≤ 1000000000 := by rw [sz_list, hR]; simpa using hn2
   have HRp := Lib.hid (fun (W : World) => HRep.out 32 W)
   rw [← hR] at HRp
   have HPO := Lib.hid (show R ++ h ++ s = ⟨(List.replicate n 32 ++ h.data.toList ++ s.data.toList).toArray⟩ from toBytes (by rw [hR]; simp [ByteArray.data_append]))
   show Calls _ _ _ _ fun e w' => e = .returned (.string ⟨(List.replicate n 32 ++ h.data.toList ++ s.data.toList).toArray⟩) ∧ Below w.heap.size w w'
   rw [← HPO.out]
   clear hR
   go_enter Tryz.func70, Tryz.ntmps70
   go_wp2_with fail
   rw [HN.out]
   refine (HRp.out _).mono ?_
   rintro e w1 ⟨rfl, hb⟩
   have HB := Lib.hid (((Below.refl w.heap.size w).alloc (Nat.le_refl _) (.cells #[.bool false, .bool p, .bool b, .bool a, .bool z0, .int .i64 wd, .int .i64 pr, .int .u8 (vb : Int)] 35)).trans (hb.mono (by simp)))
   clear hb
   go_wp2_with fail
   go_ret
   exact ⟨rfl, HB.out⟩
  ·obtain ⟨R, hR⟩ : ∃ R : ByteArray, R = ⟨(List.replicate n 48).toArray⟩ := ⟨_, rfl⟩
   have hRs : R.size ≤ 1000000000 := by rw [sz_list, hR]; simpa using hn2
   have HRp := Lib.hid (fun (W : World) => HRep.out 48 W)
   rw [← hR] at HRp
   have HPO := Lib.hid (show h ++ R ++ s = ⟨(h.data.toList ++ List.replicate n 48 ++ s.data.toList).toArray⟩ from toBytes (by rw [hR]; simp [ByteArray.data_append]))
   show Calls _ _ _ _ fun e w' => e = .returned (.string ⟨(h.data.toList ++ List.replicate n 48 ++ s.data.toList).toArray⟩) ∧ Below w.heap.size w w'
   rw [← HPO.out]
   clear hR
   go_enter Tryz.func70, Tryz.ntmps70
   go_wp2_with fail
   rw [HN.out]
   refine (HRp.out _).mono ?_
   rintro e w1 ⟨rfl, hb⟩
   have HB := Lib.hid (((Below.refl w.heap.size w).alloc (Nat.le_refl _) (.cells #[.bool false, .bool p, .bool b, .bool a, .bool z0, .int .i64 wd, .int .i64 pr, .int .u8 (vb : Int)] 35)).trans (hb.mono (by simp)))
   clear hb
   go_wp2_with fail
   go_ret
   exact ⟨rfl, HB.out⟩
 ·obtain ⟨R, hR⟩ : ∃ R : ByteArray, R = ⟨(List.replicate n 32).toArray⟩ := ⟨_, rfl⟩
  have hRs : R.size ≤ 1000000000 := by rw [sz_list, hR]; simpa using hn2
  have HRp := Lib.hid (fun (W : World) => HRep.out 32 W)
  rw [← hR] at HRp
  have HPO := Lib.hid (show h ++ s ++ R = ⟨(h.data.toList ++ s.data.toList ++ List.replicate n 32).toArray⟩ from toBytes (by rw [hR]; simp [ByteArray.data_append]))
  show Calls _ _ _ _ fun e w' => e = .returned (.string ⟨(h.data.toList ++ s.data.toList ++ List.replicate n 32).toArray⟩) ∧ Below w.heap.size w w'
  rw [← HPO.out]
  clear hR
  go_enter Tryz.func70, Tryz.ntmps70
  go_wp2_with fail
  rw [HN.out]
  refine (HRp.out _).mono ?_
  rintro e w1 ⟨rfl, hb⟩
  have HB := Lib.hid (((Below.refl w.heap.size w).alloc (Nat.le_refl _) (.cells #[.bool true, .bool p, .bool b, .bool a, .bool z0, .int .i64 wd, .int .i64 pr, .int .u8 (vb : Int)] 35)).trans (hb.mono (by simp)))
  clear hb
  go_wp2_with fail
  go_ret
  exact ⟨rfl, HB.out⟩
end Go.Proofs.YtfdnhkjeoeffoaaGreatDoor
end

section
/- Package format: float and Number by the verb f. -/
namespace Go.Proofs.YtfdnhkjeoeffoaaGreatDoor
open Go.RowKit
set_option linter.unusedVariables false
theorem cell_lt {w : World} {p : Addr} {v : Value} (h : w.cell? p = some v) : p.block < w.heap.size := by
 rcases Nat.lt_or_ge p.block w.heap.size with h' | h'
 ·exact h'
 ·exfalso
  unfold World.cell? at h
  rw [Array.getElem?_eq_none h'] at h
  cases h
theorem cell_next {w w' : World} (hb : Below w.heap.size w w') {p : Addr} {v : Value} (h : w.cell? p = some v) : w'.cell? p = some v := (hb.cell (cell_lt h)).trans h
theorem below_next {n : Nat} {w w1 w1' w2 : World} (hn : n ≤ w.heap.size) (h : Below n w w1) (hb : Below w1'.heap.size w1' w2) (e : w1' = w1 ∨ w1' = w1.drew) : Below n w w2 := by
 rcases e with rfl | rfl
 ·exact h.trans (hb.mono (Nat.le_trans hn h.size))
 ·exact h.drew.trans (hb.mono (Nat.le_trans hn h.size))
end Go.Proofs.YtfdnhkjeoeffoaaGreatDoor
end

section
/- Package format: by, of a pattern that is one part. -/
namespace Go.Proofs.YtfdnhkjeoeffoaaGreatDoor
open Go.RowKit
set_option linter.unusedVariables false
theorem owns_below {B : Nat} {e : TypeId} {k n : Nat} {v : Value} {xs : List Value} {w w' : World} (h : w.ownsRow B e k v n xs) (hb : Below w.heap.size w w') : w'.ownsRow B e k v n xs := by
 refine ⟨h.1, ?_⟩
 rcases h.2 with hn | ⟨g, cap, cur, rfl, hbg, hgg, rest⟩
 ·exact .inl hn
 ·refine .inr ⟨g, cap, cur, rfl, hbg, ?_, rest⟩
  rw [hb.block g (Array.getElem?_eq_some_iff.1 hgg).1]
  exact hgg
theorem builder_below {T e : TypeId} {B b : Nat} {p : Value} {bs : List Value} {w w' : World} (h : Lib.BuilderAt T e B b p bs w) (hb : Below w.heap.size w w') : Lib.BuilderAt T e B b p bs w' := by
 have hlt := h.lt
 obtain ⟨hB, v, hbk, hown, hne⟩ := h
 exact ⟨hB, v, (hb.block b hlt).trans hbk, owns_below hown hb, hne⟩
theorem isBuilder_below {T e : TypeId} {B b : Nat} {bs : List Value} {w w' : World} (h : Lib.IsBuilder T e B b bs w) (hb : Below w.heap.size w w') : Lib.IsBuilder T e B b bs w' := by
 rcases h with h | h
 ·exact .inl (builder_below h hb)
 ·exact .inr (builder_below h hb)
end Go.Proofs.YtfdnhkjeoeffoaaGreatDoor
end

section
/- Package num: numeral. -/
namespace Go.Proofs.YtfdnhkjeoeffoaaGreatDoor
open Go.RowKit
set_option linter.unusedVariables false
/-- the digits, the power and the bytes of what stands ahead of the exponent -/
def mantL (l : List UInt8) : List UInt8 × Int × Nat :=
 match l.drop (lead l).length with
 | 46 :: r => if 0 < (lead l).length + (lead r).length then (lead l ++ lead r, -((lead r).length : Int), (lead l).length + 1 + (lead r).length) else (lead l, 0, (lead l).length)
 | _ => (lead l, 0, (lead l).length)
/-- how many bytes the letter and its sign take, and whether the sign is a minus -/
def signK : List UInt8 → Nat × Bool
 | _ :: 43 :: _ => (2, false)
 | _ :: 45 :: _ => (2, true)
 | _ => (1, false)
/-- the exponent and its bytes -/
def expL (q : List UInt8) : Int × Nat :=
 match q with
 | c :: _ => if c = 101 ∨ c = 69 then (if 0 < (lead (q.drop (signK q).1)).length then (powL (lead (q.drop (signK q).1)) (signK q).2, (signK q).1 + (lead (q.drop (signK q).1)).length) else (0, 0)) else (0, 0)
 | [] => (0, 0)
def numeralL (l : List UInt8) : List UInt8 × Int × Nat :=
 if (mantL l).1 = [] then ([], 0, 0) else ((mantL l).1, (mantL l).2.1 + (expL (l.drop (mantL l).2.2)).1, (mantL l).2.2 + (expL (l.drop (mantL l).2.2)).2)
theorem hasPrefix_one (l : List UInt8) (c : UInt8) : Lib.hasPrefix l [c] = (match l with | x :: _ => x == c | [] => false) := by
 cases l with
 | nil => rfl
 | cons x r =>
   show ([c].isPrefixOf (x :: r)) = (x == c)
   simp [List.isPrefixOf]
   exact BEq.comm
theorem at_list (q : ByteArray) (i : Nat) (h : i < q.size) (c : UInt8) (hl : q.data.toList[i]? = some c) : q[i]'h = c := by
 show q.data[i]'_ = c
 have h2 : i < q.data.size := h
 rw [Array.getElem?_toList, Array.getElem?_eq_getElem h2] at hl
 exact Option.some.inj hl
theorem ne_lit (c k : UInt8) (m : Int) (hm : (k.toNat : Int) = m) (h : c ≠ k) : ((c.toNat : Int) == m) = false :=
 beq_eq_false_iff_ne.2 fun h2 => h (UInt8.toNat_inj.1 (by omega))
theorem ret3 {a : ByteArray} {x y x' y' : Int} (hx : x = x') (hy : y = y') : Ending.returned (.tuple #[.string a, .int .i64 x, .int .i64 y]) = Ending.returned (.tuple #[.string a, .int .i64 x', .int .i64 y']) := by
 subst hx; subst hy; rfl
theorem signK_other (c c1 : UInt8) (r : List UInt8) (h1 : c1 ≠ 43) (h2 : c1 ≠ 45) : signK (c :: c1 :: r) = (1, false) := by
 unfold signK
 split
 ·rename_i h; injection h with _ h; injection h with h _; exact absurd h h1
 ·rename_i h; injection h with _ h; injection h with h _; exact absurd h h2
 ·rfl
theorem mantL_dot {l r : List UInt8} (h : l.drop (lead l).length = 46 :: r) : mantL l = if 0 < (lead l).length + (lead r).length then (lead l ++ lead r, -((lead r).length : Int), (lead l).length + 1 + (lead r).length) else (lead l, 0, (lead l).length) := by
 unfold mantL; rw [h]; rfl
theorem mantL_plain {l : List UInt8} (h : ∀ r, l.drop (lead l).length ≠ 46 :: r) : mantL l = (lead l, 0, (lead l).length) := by
 unfold mantL
 split
 ·rename_i r hr; exact absurd hr (h r)
 ·rfl
set_option maxRecDepth 100000 in
set_option maxHeartbeats 8000000 in
theorem numeral_any (s : ByteArray) (w : World) (hs : s.size ≤ 140737488355328) :
 Calls Tryz.prog 108 #[.string s] w fun e w' => ∃ a : ByteArray, e = .returned (.tuple #[.string a, .int .i64 (numeralL s.data.toList).2.1, .int .i64 ((numeralL s.data.toList).2.2 : Nat)]) ∧ a.data.toList = (numeralL s.data.toList).1 ∧ Below w.heap.size w w' := by
 obtain ⟨A3, X3, Y3, hnum⟩ : ∃ A3 X3 Y3, numeralL s.data.toList = (A3, X3, Y3) := ⟨_, _, _, rfl⟩
 rw [hnum]
 simp only []
 have HNUM := Lib.hid hnum
 have HD0 := Lib.hid (fun W => digits_any s W hs)
 have hle := lead_le s.data.toList
 have hsz := size_list s
 obtain ⟨n, hn⟩ : ∃ n, n = (lead s.data.toList).length := ⟨_, rfl⟩
 rw [← hn] at HD0 hle
 obtain ⟨sz, hszd⟩ : ∃ z, z = s.size := ⟨_, rfl⟩
 have hsz1 : s.size = sz := hszd.symm
 have hns : n ≤ sz := by omega
 have hsz2 : sz ≤ 140737488355328 := by omega
 have HSL : Hid (s.data.toList.length = sz) := by show _ = _; omega
 have HT0 : Hid ((s.extract 0 n).data.toList = lead s.data.toList) := by show _ = _; rw [ext_list, Nat.sub_zero, List.drop_zero, hn, lead_take]
 have hTn : ∀ i, n ≤ i → Hid ((s.extract i sz).data.toList = s.data.toList.drop i) := by
  intro i hi
  show _ = _
  rw [ext_list]
  exact List.take_of_length_le (by rw [List.length_drop, HSL.out]; omega)
 have HP0 : Hid (∀ W, Calls Tryz.prog 107 #[.string (s.extract n sz), .string ⟨#[46]⟩] W fun e w' => e = .returned (.bool (Lib.hasPrefix (s.data.toList.drop n) [46])) ∧ w' = W) := by
  intro W
  have h := Tryz.strings_HasPrefix (s.extract n sz) ⟨#[46]⟩ W
  rw [(hTn n (Nat.le_refl _)).out] at h
  exact h
 have hcase : (∃ r, s.data.toList.drop n = 46 :: r ∧ 0 < n + (lead r).length) ∨ (∃ r, s.data.toList.drop n = 46 :: r ∧ ¬ 0 < n + (lead r).length) ∨ (∀ r, s.data.toList.drop n ≠ 46 :: r) := by
  cases h : s.data.toList.drop n with
  | nil => exact .inr (.inr fun r h2 => by cases h2)
  | cons c r =>
    by_cases hc : c = 46
    ·subst hc
     by_cases h0 : 0 < n + (lead r).length
     ·exact .inl ⟨r, rfl, h0⟩
     ·exact .inr (.inl ⟨r, rfl, h0⟩)
    ·exact .inr (.inr fun r' h2 => hc (by injection h2))
 have hnl : n = (lead s.data.toList).length := hn
 have HNL := Lib.hid hnl
 clear hn hle hsz hszd hs hnl hnum
 go_enter Tryz.func108, Tryz.ntmps108
 go_wp2_with fail
 refine (HD0.out w).mono ?_
 rintro e w1 ⟨rfl, hb1⟩
 have HB1 := Lib.hid hb1
 have hs1 := hb1.size
 clear hb1 HD0
 go_wp2_with fail
 refine (HP0.out w1).mono ?_
 rintro e w5 ⟨rfl, rfl⟩
 clear HP0
 rcases hcase with ⟨r, hr, h0⟩ | ⟨r, hr, h0⟩ | hr
 case' inl =>
  obtain ⟨k, hk⟩ : ∃ k, k = (lead r).length := ⟨_, rfl⟩
  rw [← hk] at h0
  have hE1 : (s.extract (n + 1) sz).data.toList = r := by
   rw [(hTn (n + 1) (by omega)).out, ← List.drop_drop, hr]; rfl
  have hrl : r.length + 1 + n = sz := by
   have h := congrArg List.length hr
   rw [List.length_drop, HSL.out] at h
   simp at h
   omega
  have hkr : k ≤ r.length := by rw [hk]; exact lead_le r
  have hes : (s.extract (n + 1) sz).size ≤ 140737488355328 := by rw [size_list, hE1]; omega
  have HDG := Lib.hid (fun W => digits_any (s.extract (n + 1) sz) W hes)
  rw [hE1, ← hk] at HDG
  have hpre : Lib.hasPrefix (s.data.toList.drop n) [46] = true := by rw [hr, hasPrefix_one]; rfl
  obtain ⟨p, hp⟩ : ∃ p, p = n + 1 + k := ⟨_, rfl⟩
  have hpk : p - (n + 1) = k := by omega
  obtain ⟨a, ha⟩ : ∃ a, a = s.extract 0 n ++ s.extract (n + 1) p := ⟨_, rfl⟩
  have hae0 : s.extract 0 n ++ s.extract (n + 1) p = a := ha.symm
  obtain ⟨A, hAd⟩ : ∃ A, A = lead s.data.toList ++ lead r := ⟨_, rfl⟩
  have HA : Hid (a.data.toList = A) := by
   show _ = _
   rw [ha, ByteArray.data_append, Array.toList_append, HT0.out, ext_list, hpk, ← List.drop_drop, hr, hAd, hk]
   congr 1
   exact lead_take r
  have ep : (n : Int) + 1 + k = (p : Int) := by omega
  obtain ⟨ex, hex⟩ : ∃ ex : Int, ex = -(k : Int) := ⟨_, rfl⟩
  have eex : -(k : Int) = ex := hex.symm
  have hexb : -140737488355328 ≤ ex ∧ ex ≤ 0 := by omega
  have hps : p ≤ sz := by omega
  have HM : Hid (mantL s.data.toList = (A, ex, p)) := by
   show _ = _
   have h := mantL_dot (l := s.data.toList) (r := r) (by rw [← HNL.out]; exact hr)
   rw [← HNL.out, ← hk, if_pos h0, ← hAd, ← hex, ← hp] at h
   exact h
  have h0' : 0 < (n : Int) + (k : Int) := by omega
  rw [hpre]
  clear hr hk hE1 hrl hes hpre ha hAd hTn HT0 HNL h0 hex hpk
  have hpn : p = n + 1 + k := hp
  have hpn1 : n + 1 ≤ p := by omega
  clear hp hpn
  go_wp2_with fail
  refine (HDG.out w5).mono ?_
  rintro e w2 ⟨rfl, hb2⟩
  have HB2 := Lib.hid (HB1.out.trans (hb2.mono hs1))
  have hs2 : w.heap.size ≤ w2.heap.size := by have := hb2.size; omega
  clear hb2 HDG HB1
 case' inr.inl =>
  have hn0 : n = 0 := by omega
  have hk : (lead r).length = 0 := by omega
  have hE1 : (s.extract (n + 1) sz).data.toList = r := by
   rw [(hTn (n + 1) (by omega)).out, ← List.drop_drop, hr]; rfl
  have hrl : r.length + 1 + n = sz := by
   have h := congrArg List.length hr
   rw [List.length_drop, HSL.out] at h
   simp at h
   omega
  have hes : (s.extract (n + 1) sz).size ≤ 140737488355328 := by rw [size_list, hE1]; omega
  have HDG := Lib.hid (fun W => digits_any (s.extract (n + 1) sz) W hes)
  rw [hE1, hk] at HDG
  have HDG : Hid (∀ W, Calls Tryz.prog 168 #[.string (s.extract (n + 1) sz)] W fun e w' => e = .returned (.int .i64 0) ∧ Below W.heap.size W w') := HDG.out
  have hpre : Lib.hasPrefix (s.data.toList.drop n) [46] = true := by rw [hr, hasPrefix_one]; rfl
  obtain ⟨a, ha⟩ : ∃ a, a = s.extract 0 n := ⟨_, rfl⟩
  obtain ⟨A, hAd⟩ : ∃ A, A = lead s.data.toList := ⟨_, rfl⟩
  have HA : Hid (a.data.toList = A) := by
   show _ = _
   rw [ha, HT0.out, hAd]
  obtain ⟨ex, hex⟩ : ∃ ex : Int, ex = 0 := ⟨_, rfl⟩
  have hexb : -140737488355328 ≤ ex ∧ ex ≤ 0 := by omega
  have HM : Hid (mantL s.data.toList = (A, ex, n)) := by
   show _ = _
   have h := mantL_dot (l := s.data.toList) (r := r) (by rw [← HNL.out]; exact hr)
   rw [← HNL.out, if_neg h0, ← hAd, ← hex] at h
   exact h
  have h0' : ¬ 0 < (n : Int) := by omega
  have hn1sz : n + 1 ≤ sz := by omega
  rw [hpre, ← ha]
  clear hr hk hE1 hrl hes hpre ha hAd hTn HT0 HNL h0 hn0
  obtain ⟨p, rfl⟩ : ∃ p, p = n := ⟨_, rfl⟩
  have hps : p ≤ sz := hns
  go_wp2_with fail
  refine (HDG.out w5).mono ?_
  rintro e w2 ⟨rfl, hb2⟩
  have HB2 := Lib.hid (HB1.out.trans (hb2.mono hs1))
  have hs2 : w.heap.size ≤ w2.heap.size := by have := hb2.size; omega
  clear hb2 HDG HB1
 case' inr.inr =>
  have hpre : Lib.hasPrefix (s.data.toList.drop n) [46] = false := by
   rw [hasPrefix_one]
   cases h : s.data.toList.drop n with
   | nil => rfl
   | cons x t => exact beq_eq_false_iff_ne.2 fun h2 => hr t (by rw [h, h2])
  obtain ⟨a, ha⟩ : ∃ a, a = s.extract 0 n := ⟨_, rfl⟩
  obtain ⟨A, hAd⟩ : ∃ A, A = lead s.data.toList := ⟨_, rfl⟩
  have HA : Hid (a.data.toList = A) := by
   show _ = _
   rw [ha, HT0.out, hAd]
  obtain ⟨ex, hex⟩ : ∃ ex : Int, ex = 0 := ⟨_, rfl⟩
  have hexb : -140737488355328 ≤ ex ∧ ex ≤ 0 := by omega
  have HM : Hid (mantL s.data.toList = (A, ex, n)) := by
   show _ = _
   have h := mantL_plain (l := s.data.toList) (by rw [← HNL.out]; exact hr)
   rw [← HNL.out, ← hAd, ← hex] at h
   exact h
  rw [hpre, ← ha]
  clear hr hpre ha hAd hTn HT0 HNL
  obtain ⟨p, rfl⟩ : ∃ p, p = n := ⟨_, rfl⟩
  have hps : p ≤ sz := hns
  obtain ⟨w2, rfl⟩ : ∃ w2 : World, w2 = w5 := ⟨_, rfl⟩
  have HB2 := HB1
  have hs2 := hs1
  clear HB1 hs1
 all_goals
  by_cases hA0 : A = []
  ·have hae : a.toList.isEmpty = true := by rw [ByteArray.toList_eq, HA.out, hA0]; rfl
   have h := HNUM.out
   unfold numeralL at h
   rw [HM.out] at h
   simp only at h
   rw [if_pos hA0] at h
   obtain ⟨h1, h2⟩ := Prod.mk.inj h
   obtain ⟨h3, h4⟩ := Prod.mk.inj h2
   have HAR : Hid ((⟨#[]⟩ : ByteArray).data.toList = A3) := by show _ = _; rw [← h1]
   have HX1 := Lib.hid h3
   have HX2 := Lib.hid h4
   clear h h1 h2 h3 h4 HNUM HM hA0 HA
   go_wp2_with fail
   go_ret3
   have hx1 := HX1.out
   have hx2 := HX2.out
   exact ⟨_, ret3 (by omega) (by omega), HAR.out, HB2.out⟩
  ·have hae : a.toList.isEmpty = false := by rw [ByteArray.toList_eq, HA.out]; simpa using hA0
   have h := HNUM.out
   unfold numeralL at h
   rw [HM.out] at h
   simp only at h
   rw [if_neg hA0] at h
   obtain ⟨h1, h2⟩ := Prod.mk.inj h
   obtain ⟨h3, h4⟩ := Prod.mk.inj h2
   have HAR : Hid (a.data.toList = A3) := by show _ = _; rw [HA.out, h1]
   obtain ⟨Q, hQ⟩ : ∃ Q, Q = s.data.toList.drop p := ⟨_, rfl⟩
   rw [← hQ] at h3 h4
   have HX : Hid (X3 = ex + (expL Q).1 ∧ Y3 = p + (expL Q).2) := ⟨h3.symm, h4.symm⟩
   obtain ⟨q, hq⟩ : ∃ q, q = s.extract p sz := ⟨_, rfl⟩
   have hqe : s.extract p sz = q := hq.symm
   have HQ : Hid (q.data.toList = Q) := by
    show _ = _
    rw [hq, ext_list, hQ]
    exact List.take_of_length_le (by rw [List.length_drop, HSL.out]; omega)
   obtain ⟨qz, hqz⟩ : ∃ z, z = q.size := ⟨_, rfl⟩
   have hqz1 : q.size = qz := hqz.symm
   have HQL : Hid (Q.length = qz) := by show _ = _; rw [hqz, size_list, HQ.out]
   have hqp : qz + p = sz := by
    have h := HQL.out
    rw [hQ, List.length_drop, HSL.out] at h
    omega
   clear h h1 h2 h3 h4 HNUM HM hA0 HA hQ hq hqz
   rcases hQc : Q with _ | ⟨c, r⟩
   ·have hqe0 : q.toList.isEmpty = true := by rw [ByteArray.toList_eq, HQ.out, hQc]; rfl
    have hX := HX.out
    rw [hQc] at hX
    obtain ⟨hx1, hx2⟩ := hX
    have HBB := HB2
    clear HX HQ HQL hQc
    simp only [expL] at hx1 hx2
    have HX1 := Lib.hid hx1
    have HX2 := Lib.hid hx2
    clear hx1 hx2
    go_wp2_with fail
    go_ret3
    have hx1 := HX1.out
    have hx2 := HX2.out
    exact ⟨_, ret3 (by omega) (by omega), HAR.out, HBB.out⟩
   ·have hqe0 : q.toList.isEmpty = false := by rw [ByteArray.toList_eq, HQ.out, hQc]; rfl
    have hqz0 : 0 < qz := by have h := HQL.out; rw [hQc] at h; simp at h; omega
    have hqs0 : 0 < q.size := by omega
    have hq0 : q[0]'hqs0 = c := at_list q 0 hqs0 c (by rw [HQ.out, hQc]; rfl)
    have HQC : Hid (Q = c :: r) := hQc
    by_cases hce : c = 101 ∨ c = 69
    ·have hc1 : (((q[0]'hqs0).toNat : Int) == 101) = true ∨ (((q[0]'hqs0).toNat : Int) == 101) = false ∧ (((q[0]'hqs0).toNat : Int) == 69) = true := by
      rw [hq0]
      rcases hce with h | h
      ·left; rw [h]; decide
      ·right; rw [h]; decide
     clear hq0 hqe0
     have hqe0 : q.toList.isEmpty = false := by rw [ByteArray.toList_eq, HQ.out, hQc]; rfl
     rcases hr : r with _ | ⟨c1, r1⟩
     ·have HSK : Hid (signK Q = (1, false)) := by show _ = _; rw [hQc, hr]; rfl
      have hqz1' : qz = 1 := by have h := HQL.out; rw [hQc, hr] at h; simp at h; omega
      have hnot : ¬ 1 < (qz : Int) := by omega
      clear hQc hr hqz1'
      rcases hc1 with h101 | ⟨h101, h69⟩
      all_goals
       have hQk : Hid ((q.extract 1 qz).data.toList = Q.drop 1) := by
        show _ = _
        rw [ext_list, HQ.out]
        exact List.take_of_length_le (by rw [List.length_drop, HQL.out]; omega)
       have hqk : (q.extract 1 qz).size ≤ 140737488355328 := by
        rw [size_list, hQk.out, List.length_drop, HQL.out]; omega
       have HDG := Lib.hid (fun W => digits_any (q.extract 1 qz) W hqk)
       rw [hQk.out] at HDG
       have hml := lead_le (Q.drop 1)
       rw [List.length_drop, HQL.out] at hml
       have HEX : Hid (expL Q = if 0 < (lead (Q.drop 1)).length then (powL (lead (Q.drop 1)) false, 1 + (lead (Q.drop 1)).length) else (0, 0)) := by
        show _ = _
        unfold expL
        rw [HQC.out]
        simp only []
        rw [if_pos hce, ← HQC.out, HSK.out]
       have hqm : Hid ((q.extract 1 (1 + (lead (Q.drop 1)).length)).data.toList = lead (Q.drop 1)) := by
        show _ = _
        rw [ext_list, HQ.out, Nat.add_sub_cancel_left, lead_take]
       have hpl : -100000 ≤ powL (lead (Q.drop 1)) false ∧ powL (lead (Q.drop 1)) false ≤ 100000 := by
        have := powN_le (lead (Q.drop 1))
        unfold powL
        split <;> omega
       have HPW := Lib.hid (fun W h => power_any (q.extract 1 (1 + (lead (Q.drop 1)).length)) false W (by rw [hqm.out]; exact lead_digits _) h)
       rw [hqm.out] at HPW
       have HPS : Hid ((q.extract 1 (1 + (lead (Q.drop 1)).length)).size ≤ 140737488355328) := by
        show _ ≤ _
        rw [size_list, hqm.out]; omega
       generalize lead (Q.drop 1) = D at *
       generalize hm : D.length = m at *
       generalize powL D false = P at *
       have hq2 : 1 ≤ qz := by omega
       clear hQk hqk hqm hce
       go_wp2_with fail
       refine (HDG.out _).mono ?_
       rintro e w3 ⟨rfl, hb3⟩
       have HBB := Lib.hid (show Below w.heap.size w w3 by first | exact HB2.out.trans (hb3.mono hs2) | exact HB2.out.drew.trans (hb3.mono hs2))
       have hs3 : w2.heap.size ≤ w3.heap.size := hb3.size
       clear hb3 HDG HB2
       by_cases hm0 : 0 < m
       ·have hX := HX.out
        rw [HEX.out, if_pos hm0] at hX
        obtain ⟨hx1, hx2⟩ := hX
        simp only at hx1 hx2
        have HX1 := Lib.hid hx1
        have HX2 := Lib.hid hx2
        clear HEX HX hx1 hx2
        have hm0' : 0 < (m : Int) := by omega
        have hkm : 1 + m ≤ qz := by omega
        go_wp2_with fail
        refine (HPW.out w3 HPS.out).mono ?_
        rintro e w4 ⟨rfl, hb4⟩
        have HBC := Lib.hid (HBB.out.trans (hb4.mono (by omega)))
        clear hb4 HPW HBB
        have HBB := HBC
        have hx1 := HX1.out
        have hx2 := HX2.out
        have HX1 := Lib.hid hx1
        have HX2 := Lib.hid hx2
        clear hx1 hx2
        go_wp2_with fail
        go_ret3
        have hx1 := HX1.out
        have hx2 := HX2.out
        exact ⟨_, ret3 (by omega) (by omega), HAR.out, HBB.out⟩
       ·have hX := HX.out
        rw [HEX.out, if_neg hm0] at hX
        obtain ⟨hx1, hx2⟩ := hX
        clear HEX HX
        have hm0' : ¬ 0 < (m : Int) := by omega
        simp only at hx1 hx2
        have HX1 := Lib.hid hx1
        have HX2 := Lib.hid hx2
        clear hx1 hx2
        go_wp2_with fail
        go_ret3
        have hx1 := HX1.out
        have hx2 := HX2.out
        exact ⟨_, ret3 (by omega) (by omega), HAR.out, HBB.out⟩
     ·have hqs1 : 1 < q.size := by have h := HQL.out; rw [hQc, hr] at h; simp at h; omega
      have hlt : 1 < (qz : Int) := by omega
      have hq1 : q[1]'hqs1 = c1 := at_list q 1 hqs1 c1 (by rw [HQ.out, hQc, hr]; rfl)
      by_cases h43 : c1 = 43
      ·have HSK : Hid (signK Q = (2, false)) := by show _ = _; rw [hQc, hr, h43]; rfl
       have ht1 : (((q[1]'hqs1).toNat : Int) == 43) = true := by rw [hq1, h43]; decide
       have ht2 : (((q[1]'hqs1).toNat : Int) == 45) = false := by rw [hq1, h43]; decide
       clear hQc hr hq1
       rcases hc1 with h101 | ⟨h101, h69⟩
       all_goals
        go_wp2_with fail
        go_region
        have hQk : Hid ((q.extract 2 qz).data.toList = Q.drop 2) := by
         show _ = _
         rw [ext_list, HQ.out]
         exact List.take_of_length_le (by rw [List.length_drop, HQL.out]; omega)
        have hqk : (q.extract 2 qz).size ≤ 140737488355328 := by
         rw [size_list, hQk.out, List.length_drop, HQL.out]; omega
        have HDG := Lib.hid (fun W => digits_any (q.extract 2 qz) W hqk)
        rw [hQk.out] at HDG
        have hml := lead_le (Q.drop 2)
        rw [List.length_drop, HQL.out] at hml
        have HEX : Hid (expL Q = if 0 < (lead (Q.drop 2)).length then (powL (lead (Q.drop 2)) false, 2 + (lead (Q.drop 2)).length) else (0, 0)) := by
         show _ = _
         unfold expL
         rw [HQC.out]
         simp only []
         rw [if_pos hce, ← HQC.out, HSK.out]
        have hqm : Hid ((q.extract 2 (2 + (lead (Q.drop 2)).length)).data.toList = lead (Q.drop 2)) := by
         show _ = _
         rw [ext_list, HQ.out, Nat.add_sub_cancel_left, lead_take]
        have hpl : -100000 ≤ powL (lead (Q.drop 2)) false ∧ powL (lead (Q.drop 2)) false ≤ 100000 := by
         have := powN_le (lead (Q.drop 2))
         unfold powL
         split <;> omega
        have HPW := Lib.hid (fun W h => power_any (q.extract 2 (2 + (lead (Q.drop 2)).length)) false W (by rw [hqm.out]; exact lead_digits _) h)
        rw [hqm.out] at HPW
        have HPS : Hid ((q.extract 2 (2 + (lead (Q.drop 2)).length)).size ≤ 140737488355328) := by
         show _ ≤ _
         rw [size_list, hqm.out]; omega
        generalize lead (Q.drop 2) = D at *
        generalize hm : D.length = m at *
        generalize powL D false = P at *
        have hq2 : 2 ≤ qz := by omega
        clear hQk hqk hqm hce
        go_wp2_with fail
        refine (HDG.out _).mono ?_
        rintro e w3 ⟨rfl, hb3⟩
        have HBB := Lib.hid (show Below w.heap.size w w3 by first | exact HB2.out.trans (hb3.mono hs2) | exact HB2.out.drew.trans (hb3.mono hs2))
        have hs3 : w2.heap.size ≤ w3.heap.size := hb3.size
        clear hb3 HDG HB2
        by_cases hm0 : 0 < m
        ·have hX := HX.out
         rw [HEX.out, if_pos hm0] at hX
         obtain ⟨hx1, hx2⟩ := hX
         simp only at hx1 hx2
         have HX1 := Lib.hid hx1
         have HX2 := Lib.hid hx2
         clear HEX HX hx1 hx2
         have hm0' : 0 < (m : Int) := by omega
         have hkm : 2 + m ≤ qz := by omega
         go_wp2_with fail
         refine (HPW.out w3 HPS.out).mono ?_
         rintro e w4 ⟨rfl, hb4⟩
         have HBC := Lib.hid (HBB.out.trans (hb4.mono (by omega)))
         clear hb4 HPW HBB
         have HBB := HBC
         have hx1 := HX1.out
         have hx2 := HX2.out
         have HX1 := Lib.hid hx1
         have HX2 := Lib.hid hx2
         clear hx1 hx2
         go_wp2_with fail
         go_ret3
         have hx1 := HX1.out
         have hx2 := HX2.out
         exact ⟨_, ret3 (by omega) (by omega), HAR.out, HBB.out⟩
        ·have hX := HX.out
         rw [HEX.out, if_neg hm0] at hX
         obtain ⟨hx1, hx2⟩ := hX
         clear HEX HX
         have hm0' : ¬ 0 < (m : Int) := by omega
         simp only at hx1 hx2
         have HX1 := Lib.hid hx1
         have HX2 := Lib.hid hx2
         clear hx1 hx2
         go_wp2_with fail
         go_ret3
         have hx1 := HX1.out
         have hx2 := HX2.out
         exact ⟨_, ret3 (by omega) (by omega), HAR.out, HBB.out⟩
      ·by_cases h45 : c1 = 45
       ·have HSK : Hid (signK Q = (2, true)) := by show _ = _; rw [hQc, hr, h45]; rfl
        have ht1 : (((q[1]'hqs1).toNat : Int) == 43) = false := by rw [hq1, h45]; decide
        have ht2 : (((q[1]'hqs1).toNat : Int) == 45) = true := by rw [hq1, h45]; decide
        clear hQc hr hq1
        rcases hc1 with h101 | ⟨h101, h69⟩
        all_goals
         go_wp2_with fail
         go_region
         have hQk : Hid ((q.extract 2 qz).data.toList = Q.drop 2) := by
          show _ = _
          rw [ext_list, HQ.out]
          exact List.take_of_length_le (by rw [List.length_drop, HQL.out]; omega)
         have hqk : (q.extract 2 qz).size ≤ 140737488355328 := by
          rw [size_list, hQk.out, List.length_drop, HQL.out]; omega
         have HDG := Lib.hid (fun W => digits_any (q.extract 2 qz) W hqk)
         rw [hQk.out] at HDG
         have hml := lead_le (Q.drop 2)
         rw [List.length_drop, HQL.out] at hml
         have HEX : Hid (expL Q = if 0 < (lead (Q.drop 2)).length then (powL (lead (Q.drop 2)) true, 2 + (lead (Q.drop 2)).length) else (0, 0)) := by
          show _ = _
          unfold expL
          rw [HQC.out]
          simp only []
          rw [if_pos hce, ← HQC.out, HSK.out]
         have hqm : Hid ((q.extract 2 (2 + (lead (Q.drop 2)).length)).data.toList = lead (Q.drop 2)) := by
          show _ = _
          rw [ext_list, HQ.out, Nat.add_sub_cancel_left, lead_take]
         have hpl : -100000 ≤ powL (lead (Q.drop 2)) true ∧ powL (lead (Q.drop 2)) true ≤ 100000 := by
          have := powN_le (lead (Q.drop 2))
          unfold powL
          split <;> omega
         have HPW := Lib.hid (fun W h => power_any (q.extract 2 (2 + (lead (Q.drop 2)).length)) true W (by rw [hqm.out]; exact lead_digits _) h)
         rw [hqm.out] at HPW
         have HPS : Hid ((q.extract 2 (2 + (lead (Q.drop 2)).length)).size ≤ 140737488355328) := by
          show _ ≤ _
          rw [size_list, hqm.out]; omega
         generalize lead (Q.drop 2) = D at *
         generalize hm : D.length = m at *
         generalize powL D true = P at *
         have hq2 : 2 ≤ qz := by omega
         clear hQk hqk hqm hce
         go_wp2_with fail
         refine (HDG.out _).mono ?_
         rintro e w3 ⟨rfl, hb3⟩
         have HBB := Lib.hid (show Below w.heap.size w w3 by first | exact HB2.out.trans (hb3.mono hs2) | exact HB2.out.drew.trans (hb3.mono hs2))
         have hs3 : w2.heap.size ≤ w3.heap.size := hb3.size
         clear hb3 HDG HB2
         by_cases hm0 : 0 < m
         ·have hX := HX.out
          rw [HEX.out, if_pos hm0] at hX
          obtain ⟨hx1, hx2⟩ := hX
          simp only at hx1 hx2
          have HX1 := Lib.hid hx1
          have HX2 := Lib.hid hx2
          clear HEX HX hx1 hx2
          have hm0' : 0 < (m : Int) := by omega
          have hkm : 2 + m ≤ qz := by omega
          go_wp2_with fail
          refine (HPW.out w3 HPS.out).mono ?_
          rintro e w4 ⟨rfl, hb4⟩
          have HBC := Lib.hid (HBB.out.trans (hb4.mono (by omega)))
          clear hb4 HPW HBB
          have HBB := HBC
          have hx1 := HX1.out
          have hx2 := HX2.out
          have HX1 := Lib.hid hx1
          have HX2 := Lib.hid hx2
          clear hx1 hx2
          go_wp2_with fail
          go_ret3
          have hx1 := HX1.out
          have hx2 := HX2.out
          exact ⟨_, ret3 (by omega) (by omega), HAR.out, HBB.out⟩
         ·have hX := HX.out
          rw [HEX.out, if_neg hm0] at hX
          obtain ⟨hx1, hx2⟩ := hX
          clear HEX HX
          have hm0' : ¬ 0 < (m : Int) := by omega
          simp only at hx1 hx2
          have HX1 := Lib.hid hx1
          have HX2 := Lib.hid hx2
          clear hx1 hx2
          go_wp2_with fail
          go_ret3
          have hx1 := HX1.out
          have hx2 := HX2.out
          exact ⟨_, ret3 (by omega) (by omega), HAR.out, HBB.out⟩
       ·have HSK : Hid (signK Q = (1, false)) := by
         show _ = _
         rw [hQc, hr]
         exact signK_other c c1 r1 h43 h45
        have ht1 : (((q[1]'hqs1).toNat : Int) == 43) = false := by rw [hq1]; exact ne_lit c1 43 43 (by decide) h43
        have ht2 : (((q[1]'hqs1).toNat : Int) == 45) = false := by rw [hq1]; exact ne_lit c1 45 45 (by decide) h45
        clear hQc hr hq1
        rcases hc1 with h101 | ⟨h101, h69⟩
        all_goals
         have hQk : Hid ((q.extract 1 qz).data.toList = Q.drop 1) := by
          show _ = _
          rw [ext_list, HQ.out]
          exact List.take_of_length_le (by rw [List.length_drop, HQL.out]; omega)
         have hqk : (q.extract 1 qz).size ≤ 140737488355328 := by
          rw [size_list, hQk.out, List.length_drop, HQL.out]; omega
         have HDG := Lib.hid (fun W => digits_any (q.extract 1 qz) W hqk)
         rw [hQk.out] at HDG
         have hml := lead_le (Q.drop 1)
         rw [List.length_drop, HQL.out] at hml
         have HEX : Hid (expL Q = if 0 < (lead (Q.drop 1)).length then (powL (lead (Q.drop 1)) false, 1 + (lead (Q.drop 1)).length) else (0, 0)) := by
          show _ = _
          unfold expL
          rw [HQC.out]
          simp only []
          rw [if_pos hce, ← HQC.out, HSK.out]
         have hqm : Hid ((q.extract 1 (1 + (lead (Q.drop 1)).length)).data.toList = lead (Q.drop 1)) := by
          show _ = _
          rw [ext_list, HQ.out, Nat.add_sub_cancel_left, lead_take]
         have hpl : -100000 ≤ powL (lead (Q.drop 1)) false ∧ powL (lead (Q.drop 1)) false ≤ 100000 := by
          have := powN_le (lead (Q.drop 1))
          unfold powL
          split <;> omega
         have HPW := Lib.hid (fun W h => power_any (q.extract 1 (1 + (lead (Q.drop 1)).length)) false W (by rw [hqm.out]; exact lead_digits _) h)
         rw [hqm.out] at HPW
         have HPS : Hid ((q.extract 1 (1 + (lead (Q.drop 1)).length)).size ≤ 140737488355328) := by
          show _ ≤ _
          rw [size_list, hqm.out]; omega
         generalize lead (Q.drop 1) = D at *
         generalize hm : D.length = m at *
         generalize powL D false = P at *
         have hq2 : 1 ≤ qz := by omega
         clear hQk hqk hqm hce
         go_wp2_with fail
         refine (HDG.out _).mono ?_
         rintro e w3 ⟨rfl, hb3⟩
         have HBB := Lib.hid (show Below w.heap.size w w3 by first | exact HB2.out.trans (hb3.mono hs2) | exact HB2.out.drew.trans (hb3.mono hs2))
         have hs3 : w2.heap.size ≤ w3.heap.size := hb3.size
         clear hb3 HDG HB2
         by_cases hm0 : 0 < m
         ·have hX := HX.out
          rw [HEX.out, if_pos hm0] at hX
          obtain ⟨hx1, hx2⟩ := hX
          simp only at hx1 hx2
          have HX1 := Lib.hid hx1
          have HX2 := Lib.hid hx2
          clear HEX HX hx1 hx2
          have hm0' : 0 < (m : Int) := by omega
          have hkm : 1 + m ≤ qz := by omega
          go_wp2_with fail
          refine (HPW.out w3 HPS.out).mono ?_
          rintro e w4 ⟨rfl, hb4⟩
          have HBC := Lib.hid (HBB.out.trans (hb4.mono (by omega)))
          clear hb4 HPW HBB
          have HBB := HBC
          have hx1 := HX1.out
          have hx2 := HX2.out
          have HX1 := Lib.hid hx1
          have HX2 := Lib.hid hx2
          clear hx1 hx2
          go_wp2_with fail
          go_ret3
          have hx1 := HX1.out
          have hx2 := HX2.out
          exact ⟨_, ret3 (by omega) (by omega), HAR.out, HBB.out⟩
         ·have hX := HX.out
          rw [HEX.out, if_neg hm0] at hX
          obtain ⟨hx1, hx2⟩ := hX
          clear HEX HX
          have hm0' : ¬ 0 < (m : Int) := by omega
          simp only at hx1 hx2
          have HX1 := Lib.hid hx1
          have HX2 := Lib.hid hx2
          clear hx1 hx2
          go_wp2_with fail
          go_ret3
          have hx1 := HX1.out
          have hx2 := HX2.out
          exact ⟨_, ret3 (by omega) (by omega), HAR.out, HBB.out⟩
    ·have hx := HX.out
     have hex : expL Q = (0, 0) := by rw [hQc]; unfold expL; simp only []; rw [if_neg hce]
     rw [hex] at hx
     obtain ⟨hx1, hx2⟩ := hx
     have h101 : (((q[0]'hqs0).toNat : Int) == 101) = false := by rw [hq0]; exact ne_lit c 101 101 (by decide) fun h => hce (.inl h)
     have h69 : (((q[0]'hqs0).toNat : Int) == 69) = false := by rw [hq0]; exact ne_lit c 69 69 (by decide) fun h => hce (.inr h)
     have HBB := HB2
     clear HX hex hq0 hQc HQC
     simp only at hx1 hx2
     have HX1 := Lib.hid hx1
     have HX2 := Lib.hid hx2
     clear hx1 hx2
     go_wp2_with fail
     go_ret3
     have hx1 := HX1.out
     have hx2 := HX2.out
     exact ⟨_, ret3 (by omega) (by omega), HAR.out, HBB.out⟩
end Go.Proofs.YtfdnhkjeoeffoaaGreatDoor
end

section
/- Package num: Prefix, Looks. -/
namespace Go.Proofs.YtfdnhkjeoeffoaaGreatDoor
open Go.RowKit
set_option linter.unusedVariables false
theorem lead_app_digits {l r : List UInt8} : Digits (lead l ++ lead r) := by
 intro c hc
 rcases List.mem_append.1 hc with h | h
 ·exact lead_digits l c h
 ·exact lead_digits r c h
theorem mantL_facts (l : List UInt8) : Digits (mantL l).1 ∧ -(l.length : Int) ≤ (mantL l).2.1 ∧ (mantL l).2.1 ≤ 0 ∧ (mantL l).2.2 ≤ l.length := by
 have hl := lead_le l
 by_cases h : ∃ r, l.drop (lead l).length = 46 :: r
 ·obtain ⟨r, hr⟩ := h
  have h2 := lead_le r
  have h3 := congrArg List.length hr
  rw [List.length_drop, List.length_cons] at h3
  rw [mantL_dot hr]
  split
  ·exact ⟨lead_app_digits, by simp only []; omega, by simp only []; omega, by simp only []; omega⟩
  ·exact ⟨lead_digits l, by simp only []; omega, by simp only []; omega, hl⟩
 ·rw [mantL_plain fun r hr => h ⟨r, hr⟩]
  exact ⟨lead_digits l, by simp only []; omega, by simp only []; omega, hl⟩
theorem expL_facts (q : List UInt8) : -100000 ≤ (expL q).1 ∧ (expL q).1 ≤ 100000 ∧ (expL q).2 ≤ q.length := by
 cases q with
 | nil => simp [expL]
 | cons c r =>
   unfold expL
   simp only []
   split
   ·split
    ·have h1 := powN_le (lead ((c :: r).drop (signK (c :: r)).1))
     have h2 := lead_le ((c :: r).drop (signK (c :: r)).1)
     rw [List.length_drop] at h2
     refine ⟨?_, ?_, ?_⟩
     ·simp only []; unfold powL; split <;> omega
     ·simp only []; unfold powL; split <;> omega
     ·simp only []; omega
    ·simp
   ·simp
theorem numeralL_facts (l : List UInt8) : Digits (numeralL l).1 ∧ -(l.length : Int) - 100000 ≤ (numeralL l).2.1 ∧ (numeralL l).2.1 ≤ 100000 ∧ (numeralL l).2.2 ≤ l.length := by
 obtain ⟨h1, h2, h3, h4⟩ := mantL_facts l
 obtain ⟨e1, e2, e3⟩ := expL_facts (l.drop (mantL l).2.2)
 rw [List.length_drop] at e3
 unfold numeralL
 split
 ·exact ⟨by intro c hc; simp at hc, by simp only []; omega, by simp only []; omega, by simp only []; omega⟩
 ·exact ⟨h1, by simp only []; omega, by simp only []; omega, by simp only []; omega⟩
/-- blanks -/
def wsL : List UInt8 := [32, 9, 10]
def unblank (l : List UInt8) : List UInt8 := l.dropWhile (wsL.contains ·)
/-- how many bytes a sign takes, and whether it is a minus -/
def signB : List UInt8 → Nat × Bool
 | 45 :: _ => (1, true)
 | 43 :: _ => (1, false)
 | _ => (0, false)
@[go_sem] theorem run_neg64 (R : Nat) (w : World) : (Op.unary UnOp.neg (Value.float FloatKind.f64 R)).run Tryz.prog w = .ok (.float .f64 (Op.negFloat .f64 R)) w := rfl
theorem negF {R : Nat} (h : R < 9223372036854775808) : Op.negFloat .f64 R = R + 9223372036854775808 := by
 have e : Op.negFloat .f64 R = R ^^^ 2 ^ 63 := rfl
 rw [e, show (9223372036854775808 : Nat) = 2 ^ 63 by decide, Nat.add_comm]
 have h63 : R < 2 ^ 63 := h
 refine Nat.eq_of_testBit_eq fun i => ?_
 rw [Nat.testBit_xor, Nat.testBit_two_pow]
 rcases Nat.lt_trichotomy i 63 with hi | hi | hi
 ·rw [Nat.testBit_two_pow_add_gt hi, decide_eq_false (by omega), Bool.xor_false]
 ·subst hi
  rw [Nat.testBit_two_pow_add_eq, decide_eq_true rfl, Bool.xor_true]
 ·rw [Nat.testBit_lt_two_pow (Nat.lt_of_lt_of_le h63 (p2_le (a := 63) (b := i) (by omega))), decide_eq_false (by omega), Nat.testBit_lt_two_pow (x := 2 ^ 63 + R) (i := i)]
  ·rfl
  ·have h2 := p2_le (a := 64) (b := i) (by omega)
   have h3 : (2 : Nat) ^ 64 = 2 ^ 63 + 2 ^ 63 := by decide
   omega
theorem readN_le (l : List UInt8) (e : Int) : readN l e < 9223372036854775808 := by
 have h : readN l e ≤ 9218868437227405312 := by
  unfold readN
  split
  ·omega
  ·split
   ·exact readB_le _ _
   ·split
    ·exact readB_le _ _
    ·exact readB_le _ _
 omega
theorem retF {x x' : Nat} {y y' : Int} (hx : x = x') (hy : y = y') : Ending.returned (.tuple #[.float .f64 x, .int .i64 y]) = Ending.returned (.tuple #[.float .f64 x', .int .i64 y']) := by
 subst hx; subst hy; rfl
theorem signB_other (c : UInt8) (r : List UInt8) (h1 : c ≠ 45) (h2 : c ≠ 43) : signB (c :: r) = (0, false) := by
 unfold signB
 split
 ·rename_i h; injection h with h _; exact absurd h h1
 ·rename_i h; injection h with h _; exact absurd h h2
 ·rfl
theorem mantL_len (l : List UInt8) : (mantL l).1.length ≤ l.length := by
 have hl := lead_le l
 by_cases h : ∃ r, l.drop (lead l).length = 46 :: r
 ·obtain ⟨r, hr⟩ := h
  have h2 := lead_le r
  have h3 := congrArg List.length hr
  rw [List.length_drop, List.length_cons] at h3
  rw [mantL_dot hr]
  split
  ·simp only [List.length_append]; omega
  ·exact hl
 ·rw [mantL_plain fun r hr => h ⟨r, hr⟩]
  exact hl
theorem numeralL_len (l : List UInt8) : (numeralL l).1.length ≤ l.length := by
 unfold numeralL
 split
 ·simp
 ·exact mantL_len l
/-- what is read behind blanks and a sign -/
def coreL (l : List UInt8) : List UInt8 × Int × Nat := numeralL ((unblank l).drop (signB (unblank l)).1)
/-- how many bytes Prefix takes -/
def prefN (l : List UInt8) : Nat := if (coreL l).2.2 = 0 then 0 else l.length - (unblank l).length + (signB (unblank l)).1 + (coreL l).2.2
/-- the float of what is read, without its sign -/
def prefV (l : List UInt8) : Nat := if (coreL l).2.2 = 0 then 0 else readN (coreL l).1 (coreL l).2.1
/-- is it below nought -/
def prefM (l : List UInt8) : Bool := if (coreL l).2.2 = 0 then false else (signB (unblank l)).2
/-- the bits of what Prefix reads -/
def prefB (l : List UInt8) : Nat := if prefM l then prefV l + 9223372036854775808 else prefV l
theorem TrimLeft_ws (s : ByteArray) (w : World) :
 Calls Tryz.prog 106 #[.string s, .string ⟨#[32, 9, 10]⟩] w fun e w' => e = .returned (.string ⟨(unblank s.data.toList).toArray⟩) ∧ Below w.heap.size w w' :=
 Any.strings_TrimLeft_laid Tryz.lays161 (by kernel_rfl) s ⟨#[32, 9, 10]⟩ w (by decide) (ascii_of_all (by decide))
set_option maxRecDepth 100000 in
set_option maxHeartbeats 4000000 in
theorem Prefix_any (s : ByteArray) (w : World) (hs : s.size ≤ 140737488355328) :
 Calls Tryz.prog 47 #[.string s] w fun e w' => e = .returned (.tuple #[.float .f64 (prefB s.data.toList), .int .i64 (prefN s.data.toList : Nat)]) ∧ Below w.heap.size w w' := by
 obtain ⟨t, ht⟩ : ∃ t : ByteArray, t = ⟨(unblank s.data.toList).toArray⟩ := ⟨_, rfl⟩
 have HT := Lib.hid (TrimLeft_ws s w)
 rw [← ht] at HT
 have htl : unblank s.data.toList = t.data.toList := by rw [ht]
 obtain ⟨tz, htz⟩ : ∃ z, z = t.size := ⟨_, rfl⟩
 obtain ⟨sz, hsz⟩ : ∃ z, z = s.size := ⟨_, rfl⟩
 have hts : t.size = tz := htz.symm
 have hss : s.size = sz := hsz.symm
 have hsl : s.data.toList.length = sz := by rw [hsz]; exact (size_list s).symm
 have htl2 : t.data.toList.length = tz := by rw [htz]; exact (size_list t).symm
 have hle : tz ≤ sz := by
  rw [← hsl, ← htl2, ← htl]
  exact (List.dropWhile_sublist _).length_le
 have hszb : sz ≤ 140737488355328 := by omega
 obtain ⟨sg, mi, hsm⟩ : ∃ sg mi, signB t.data.toList = (sg, mi) := ⟨_, _, rfl⟩
 obtain ⟨A, X, Y, hco⟩ : ∃ A X Y, coreL s.data.toList = (A, X, Y) := ⟨_, _, _, rfl⟩
 have hco2 : numeralL (t.data.toList.drop sg) = (A, X, Y) := by
  rw [← hco]; unfold coreL; rw [htl, hsm]
 obtain ⟨f1, f2, f3, f4⟩ := numeralL_facts (t.data.toList.drop sg)
 rw [hco2] at f1 f2 f3 f4
 rw [List.length_drop, htl2] at f2 f4
 simp only at f1 f2 f3 f4
 have hV : prefV s.data.toList = if Y = 0 then 0 else readN A X := by unfold prefV; rw [hco]
 have hN : prefN s.data.toList = if Y = 0 then 0 else sz - tz + sg + Y := by unfold prefN; rw [hco, hsl, htl, htl2, hsm]
 have hM : prefM s.data.toList = if Y = 0 then false else mi := by unfold prefM; rw [hco, htl, hsm]
 have hB : prefB s.data.toList = if Y = 0 then 0 else if mi then readN A X + 9223372036854775808 else readN A X := by
  unfold prefB
  rw [hV, hM]
  by_cases h : Y = 0
  ·rw [if_pos h, if_pos h, if_pos h]
   exact if_neg (by decide)
  ·rw [if_neg h, if_neg h, if_neg h]
 have HV := Lib.hid hB
 have HN := Lib.hid hN
 generalize prefB s.data.toList = V at *
 generalize prefN s.data.toList = N at *
 have hP1 := Lib.hid (fun W => Tryz.strings_HasPrefix t ⟨#[45]⟩ W)
 have hP2 := Lib.hid (fun W => Tryz.strings_HasPrefix t ⟨#[43]⟩ W)
 have hcase : (sg = 1 ∧ mi = true ∧ Lib.hasPrefix t.data.toList [45] = true) ∨ (sg = 1 ∧ mi = false ∧ Lib.hasPrefix t.data.toList [45] = false ∧ Lib.hasPrefix t.data.toList [43] = true) ∨ (sg = 0 ∧ mi = false ∧ Lib.hasPrefix t.data.toList [45] = false ∧ Lib.hasPrefix t.data.toList [43] = false) := by
  rw [hasPrefix_one, hasPrefix_one]
  cases hl : t.data.toList with
  | nil =>
    rw [hl] at hsm
    obtain ⟨h1, h2⟩ := Prod.mk.inj (hsm.symm.trans (rfl : signB [] = (0, false)))
    exact .inr (.inr ⟨h1, h2, rfl, rfl⟩)
  | cons c r =>
    rw [hl] at hsm
    by_cases h45 : c = 45
    ·subst h45
     obtain ⟨h1, h2⟩ := Prod.mk.inj (hsm.symm.trans (rfl : signB (45 :: r) = (1, true)))
     exact .inl ⟨h1, h2, rfl⟩
    ·by_cases h43 : c = 43
     ·subst h43
      obtain ⟨h1, h2⟩ := Prod.mk.inj (hsm.symm.trans (rfl : signB (43 :: r) = (1, false)))
      exact .inr (.inl ⟨h1, h2, rfl, rfl⟩)
     ·obtain ⟨h1, h2⟩ := Prod.mk.inj (hsm.symm.trans (signB_other c r h45 h43))
      exact .inr (.inr ⟨h1, h2, beq_eq_false_iff_ne.2 h45, beq_eq_false_iff_ne.2 h43⟩)
 have HTL2 := Lib.hid htl2
 have HF1 := Lib.hid f1
 have HNU : Hid (∀ (u : ByteArray) (W : World), u.size ≤ 140737488355328 → u.data.toList = t.data.toList.drop sg → Calls Tryz.prog 108 #[.string u] W fun e w' => ∃ a : ByteArray, e = .returned (.tuple #[.string a, .int .i64 X, .int .i64 (Y : Nat)]) ∧ a.data.toList = A ∧ a.size ≤ 140737488355328 ∧ Below W.heap.size W w') := by
  intro u W hu hul
  refine (numeral_any u W hu).mono ?_
  rintro e w' ⟨a, rfl, ha, hb⟩
  rw [hul, hco2] at ha ⊢
  refine ⟨a, rfl, ha, ?_, hb⟩
  have h := numeralL_len (t.data.toList.drop sg)
  rw [hco2, List.length_drop, htl2] at h
  rw [size_list, ha]
  have h2 : A.length ≤ tz - sg := h
  show A.length ≤ _
  omega
 have HRD : Hid (∀ (a : ByteArray) (W : World), a.data.toList = A → a.size ≤ 140737488355328 → Calls Tryz.prog 109 #[.string a, .int .i64 X] W fun e w' => e = .returned (.float .f64 (readN A X)) ∧ Below W.heap.size W w') := by
  intro a W ha hu
  have h := read_any a X W (by rw [ha]; exact f1) hu (by omega) (by omega)
  rw [ha] at h
  exact h
 have HEX : Hid (∀ i, i ≤ tz → (t.extract i tz).data.toList = t.data.toList.drop i ∧ (t.extract i tz).size ≤ 140737488355328) := by
  intro i hi
  have h1 : (t.extract i tz).data.toList = t.data.toList.drop i := by
   rw [ext_list]
   exact List.take_of_length_le (by rw [List.length_drop, htl2]; omega)
  refine ⟨h1, ?_⟩
  rw [size_list, h1, List.length_drop, htl2]; omega
 have HLP : Hid (∀ c, Lib.hasPrefix t.data.toList [c] = true → 1 ≤ tz) := by
  intro c h
  rw [hasPrefix_one] at h
  rcases Nat.eq_zero_or_pos tz with h0 | h0
  ·have : t.data.toList = [] := List.eq_nil_of_length_eq_zero (by omega)
   rw [this] at h; cases h
  ·exact h0
 have HRB : Hid (readN A X < 9223372036854775808) := readN_le A X
 generalize readN A X = R at *
 clear ht htl htz hsz hsl htl2 hs hco hco2 f1 hV hN hM hB hsm
 have hd0 : (sz : Int) - tz = ((sz - tz : Nat) : Int) := by omega
 obtain ⟨bl, hbl⟩ : ∃ b, b = sz - tz := ⟨_, rfl⟩
 rw [← hbl] at hd0 HN
 have hblb : bl ≤ sz := by omega
 clear hbl
 go_enter Tryz.func47, Tryz.ntmps47
 go_wp2_with fail
 refine (HT.out).mono ?_
 rintro e w1 ⟨rfl, hb1⟩
 have HB1 := Lib.hid hb1
 have hs1 := hb1.size
 clear hb1 HT
 go_wp2_with fail
 refine (hP1.out w1).mono ?_
 rintro e w2 ⟨rfl, rfl⟩
 clear hP1
 rcases hcase with ⟨rfl, rfl, h45⟩ | ⟨rfl, rfl, h45, h43⟩ | ⟨rfl, rfl, h45, h43⟩
 ·have htz1 := HLP.out 45 h45
  rw [h45]
  clear HLP h45
  have hu := HEX.out 1 (by omega)
  have hu1 := Lib.hid hu.1
  have hu2 := Lib.hid hu.2
  clear hu
  go_wp2_with fail
  refine (HNU.out _ _ hu2.out hu1.out).mono ?_
  rintro e w3 ⟨a, rfl, ha, hza, hb3⟩
  have HA := Lib.hid ha
  have HZA := Lib.hid hza
  have HB3 := Lib.hid (HB1.out.trans (hb3.mono hs1))
  have hs3 := hb3.size
  clear hb3 HB1 HNU ha hza hu1 hu2
  by_cases hY : Y = 0
  ·have hN := HN.out
   have hV := HV.out
   rw [if_pos hY] at hN hV
   subst hY
   have HN2 := Lib.hid hN
   have HV2 := Lib.hid hV
   clear hN hV HN HV
   go_wp2_with fail
   go_ret2
   exact ⟨retF (by rw [HV2.out]) (by rw [HN2.out]; rfl), HB3.out⟩
  ·have hN := HN.out
   have hV := HV.out
   rw [if_neg hY] at hN hV
   have HN2 := Lib.hid hN
   have HV2 := Lib.hid hV
   have hY' : (Y : Int) ≠ 0 := by omega
   clear hN hV HN HV hY
   go_wp2_with fail
   refine (HRD.out a w3 HA.out HZA.out).mono ?_
   rintro e w4 ⟨rfl, hb4⟩
   have HB4 := Lib.hid (HB3.out.trans (hb4.mono (by omega)))
   clear hb4 HB3 HRD
   go_wp2_with fail
   go_ret2
   exact ⟨retF (by rw [HV2.out, if_pos trivial, negF HRB.out]) (by rw [HN2.out]; omega), HB4.out⟩
 ·have htz1 := HLP.out 43 h43
  rw [h45]
  go_wp2_with fail
  refine (hP2.out _).mono ?_
  rintro e w2 ⟨rfl, rfl⟩
  rw [h43]
  clear HLP h45 h43 hP2
  have hu := HEX.out 1 (by omega)
  have hu1 := Lib.hid hu.1
  have hu2 := Lib.hid hu.2
  clear hu
  go_wp2_with fail
  refine (HNU.out _ _ hu2.out hu1.out).mono ?_
  rintro e w3 ⟨a, rfl, ha, hza, hb3⟩
  have HA := Lib.hid ha
  have HZA := Lib.hid hza
  have HB3 := Lib.hid (HB1.out.trans (hb3.mono hs1))
  have hs3 := hb3.size
  clear hb3 HB1 HNU ha hza hu1 hu2
  by_cases hY : Y = 0
  ·have hN := HN.out
   have hV := HV.out
   rw [if_pos hY] at hN hV
   subst hY
   have HN2 := Lib.hid hN
   have HV2 := Lib.hid hV
   clear hN hV HN HV
   go_wp2_with fail
   go_ret2
   exact ⟨retF (by rw [HV2.out]) (by rw [HN2.out]; rfl), HB3.out⟩
  ·have hN := HN.out
   have hV := HV.out
   rw [if_neg hY] at hN hV
   have HN2 := Lib.hid hN
   have HV2 := Lib.hid hV
   have hY' : (Y : Int) ≠ 0 := by omega
   clear hN hV HN HV hY
   go_wp2_with fail
   refine (HRD.out a w3 HA.out HZA.out).mono ?_
   rintro e w4 ⟨rfl, hb4⟩
   have HB4 := Lib.hid (HB3.out.trans (hb4.mono (by omega)))
   clear hb4 HB3 HRD
   go_wp2_with fail
   go_ret2
   exact ⟨retF (by rw [HV2.out, if_neg Bool.false_ne_true]) (by rw [HN2.out]; omega), HB4.out⟩
 ·rw [h45]
  go_wp2_with fail
  refine (hP2.out _).mono ?_
  rintro e w2 ⟨rfl, rfl⟩
  rw [h43]
  clear HLP h45 h43 hP2
  have hu := HEX.out 0 (by omega)
  have hu1 := Lib.hid hu.1
  have hu2 := Lib.hid hu.2
  clear hu
  go_wp2_with fail
  refine (HNU.out _ _ hu2.out hu1.out).mono ?_
  rintro e w3 ⟨a, rfl, ha, hza, hb3⟩
  have HA := Lib.hid ha
  have HZA := Lib.hid hza
  have HB3 := Lib.hid (HB1.out.trans (hb3.mono hs1))
  have hs3 := hb3.size
  clear hb3 HB1 HNU ha hza hu1 hu2
  by_cases hY : Y = 0
  ·have hN := HN.out
   have hV := HV.out
   rw [if_pos hY] at hN hV
   subst hY
   have HN2 := Lib.hid hN
   have HV2 := Lib.hid hV
   clear hN hV HN HV
   go_wp2_with fail
   go_ret2
   exact ⟨retF (by rw [HV2.out]) (by rw [HN2.out]; rfl), HB3.out⟩
  ·have hN := HN.out
   have hV := HV.out
   rw [if_neg hY] at hN hV
   have HN2 := Lib.hid hN
   have HV2 := Lib.hid hV
   have hY' : (Y : Int) ≠ 0 := by omega
   clear hN hV HN HV hY
   go_wp2_with fail
   refine (HRD.out a w3 HA.out HZA.out).mono ?_
   rintro e w4 ⟨rfl, hb4⟩
   have HB4 := Lib.hid (HB3.out.trans (hb4.mono (by omega)))
   clear hb4 HB3 HRD
   go_wp2_with fail
   go_ret2
   exact ⟨retF (by rw [HV2.out, if_neg Bool.false_ne_true]) (by rw [HN2.out]; omega), HB4.out⟩
end Go.Proofs.YtfdnhkjeoeffoaaGreatDoor
end

section
/- Package format: Conv at one pattern; package cell: its small functions. -/
namespace Go.Proofs.YtfdnhkjeoeffoaaGreatDoor
open Go.RowKit
set_option linter.unusedVariables false
/-! 0.1 by "%.3f" -/
/-- a value -/
def cellA (k : Int) (x : Nat) (s : ByteArray) : Array Value := #[.int .i64 k, .float .f64 x, .string s]
/-- a value as a number: one that is a number -/
theorem Num_num (k : Int) (x : Nat) (s : ByteArray) (w : World) (hk : k = 1 ∨ k = 3) : Calls Tryz.prog 79 #[.agg (cellA k x s)] w fun e w' => e = .returned (.float .f64 x) ∧ Below w.heap.size w w' := by
 unfold cellA
 rcases hk with rfl | rfl
 ·go_enter Tryz.func79, Tryz.ntmps79
  go_wp2_with fail
  go_ret
  exact ⟨rfl, (Below.refl _ _).alloc (Nat.le_refl _) _⟩
 ·go_enter Tryz.func79, Tryz.ntmps79
  go_wp2_with fail
  go_ret
  exact ⟨rfl, (Below.refl _ _).alloc (Nat.le_refl _) _⟩
theorem Num_str (x : Nat) (s : ByteArray) (w : World) (hs : s.size ≤ 140737488355328) : Calls Tryz.prog 79 #[.agg (cellA 2 x s)] w fun e w' => e = .returned (.float .f64 (prefB s.data.toList)) ∧ Below w.heap.size w w' := by
 have HP := Lib.hid (fun W => Prefix_any s W hs)
 generalize prefB s.data.toList = y at *
 generalize prefN s.data.toList = n at *
 unfold cellA
 go_enter Tryz.func79, Tryz.ntmps79
 go_wp2_with fail
 refine (HP.out _).mono ?_
 rintro e w1 ⟨rfl, hb1⟩
 have HB1 := Lib.hid (((Below.refl w.heap.size w).alloc (Nat.le_refl _) (.cells #[.int .i64 2, .float .f64 x, .string s] 48)).trans (hb1.mono (by simp)))
 clear hb1
 go_wp2_with fail
 go_ret
 exact ⟨rfl, HB1.out⟩
theorem Str_str (k : Int) (x : Nat) (s c : ByteArray) (w : World) (hk : k = 2 ∨ k = 3) : Calls Tryz.prog 78 #[.agg (cellA k x s), .string c] w fun e w' => e = .returned (.string s) ∧ Below w.heap.size w w' := by
 unfold cellA
 rcases hk with rfl | rfl
 ·go_enter Tryz.func78, Tryz.ntmps78
  go_wp2_with fail
  go_ret
  exact ⟨rfl, (Below.refl _ _).alloc (Nat.le_refl _) _⟩
 ·go_enter Tryz.func78, Tryz.ntmps78
  go_wp2_with fail
  go_ret
  exact ⟨rfl, (Below.refl _ _).alloc (Nat.le_refl _) _⟩
theorem Str_num (x : Nat) (s c o : ByteArray) (w : World) (hC : ∀ W, Below w.heap.size w W → Calls Tryz.prog 67 #[.float .f64 x, .string c] W fun e w' => e = .returned (.string o) ∧ Below W.heap.size W w') :
 Calls Tryz.prog 78 #[.agg (cellA 1 x s), .string c] w fun e w' => e = .returned (.string o) ∧ Below w.heap.size w w' := by
 have HC := Lib.hid hC
 clear hC
 unfold cellA
 go_enter Tryz.func78, Tryz.ntmps78
 go_wp2_with fail
 have hb0 := (Below.refl w.heap.size w).alloc (Nat.le_refl _) (.cells #[.int .i64 1, .float .f64 x, .string s] 48)
 refine (HC.out _ hb0).mono ?_
 rintro e w1 ⟨rfl, hb1⟩
 have HB1 := Lib.hid (hb0.trans (hb1.mono (by simp)))
 clear hb1 hb0
 go_wp2_with fail
 go_ret
 exact ⟨rfl, HB1.out⟩
end Go.Proofs.YtfdnhkjeoeffoaaGreatDoor
end

section
/- Package printf: the writer in memory, its values, next. -/
namespace Go.Proofs.YtfdnhkjeoeffoaaGreatDoor
open Go.RowKit
set_option linter.unusedVariables false
/-- a value: its kind, number and string -/
abbrev CellT := Int × Nat × ByteArray
def agC (c : CellT) : Array Value := cellA c.1 c.2.1 c.2.2
/-- a row of values in memory older than block B -/
def CellsAt (w : World) (B : Nat) (v : Value) (L : List CellT) : Prop :=
 ∃ (a : Option Addr) (cap : Nat), v = .slice a L.length cap ∧ L.length ≤ cap ∧ cap ≤ 9223372036854775807 ∧ ∀ (i : Nat) (h : i < L.length), ∃ b0 off, a = some ⟨b0, off, none⟩ ∧ b0 < B ∧
  w.cell? ⟨b0, off + i * 3, none⟩ = some (.int .i64 L[i].1) ∧ w.cell? ⟨b0, off + (i * 3 + 1), none⟩ = some (.float .f64 L[i].2.1) ∧ w.cell? ⟨b0, off + (i * 3 + 2), none⟩ = some (.string L[i].2.2)
theorem CellsAt.keep {w w' : World} {B : Nat} {v : Value} {L : List CellT} (h : CellsAt w B v L) (hk : ∀ b0, b0 < B → w'.heap[b0]? = w.heap[b0]?) : CellsAt w' B v L := by
 obtain ⟨a, cap, rfl, h1, h2, h3⟩ := h
 refine ⟨a, cap, rfl, h1, h2, fun i hi => ?_⟩
 obtain ⟨b0, off, e, hb, c0, c1, c2⟩ := h3 i hi
 have hc : ∀ o, w'.cell? ⟨b0, o, none⟩ = w.cell? ⟨b0, o, none⟩ := fun o => by
  unfold World.cell?
  rw [hk b0 hb]
 exact ⟨b0, off, e, hb, by rw [hc]; exact c0, by rw [hc]; exact c1, by rw [hc]; exact c2⟩
/-- the writer in block b -/
def Wr (w : World) (B b : Nat) (conv : ByteArray) (by_ : Bool) (av p v : Value) (out : List UInt8) : Prop := InB w B b #[.string conv, .bool by_, av, p, v] p v (Lib.byteCells out)
theorem Wr.setArgs {w : World} {B b : Nat} {conv : ByteArray} {by_ : Bool} {av p v : Value} {out : List UInt8} (h : Wr w B b conv by_ av p v out) (av' : Value) : Wr (w.setCell ⟨b, 2, none⟩ av') B b conv by_ av' p v out :=
 ⟨h.lo, setCell_heap_same h.heap 2 av', rfl, rfl, rfl, h.ptr, h.own.kept (row := some b) ⟨rfl, rfl, rfl, by simp [World.setCell], fun k _ hk => Below.heap_setCell _ _ _ _ (fun e => hk (by simp [e]))⟩ (.inr h.ne)⟩
theorem Wr.below {w w' : World} {B b : Nat} {conv : ByteArray} {by_ : Bool} {av p v : Value} {out : List UInt8} (h : Wr w B b conv by_ av p v out) (hb : Below w.heap.size w w') : Wr w' B b conv by_ av p v out :=
 ⟨h.lo, (hb.block b h.lt).trans h.heap, rfl, rfl, rfl, h.ptr, owns_below h.own hb⟩
theorem CellsAt.tail {w : World} {B b0 off n cap' : Nat} {a' : Option Addr} {c : CellT} {L : List CellT} (h3 : ∀ (i : Nat) (h : i < (c :: L).length), ∃ b1 off1, some (⟨b0, off, none⟩ : Addr) = some ⟨b1, off1, none⟩ ∧ b1 < B ∧
 w.cell? ⟨b1, off1 + i * 3, none⟩ = some (.int .i64 (c :: L)[i].1) ∧ w.cell? ⟨b1, off1 + (i * 3 + 1), none⟩ = some (.float .f64 (c :: L)[i].2.1) ∧ w.cell? ⟨b1, off1 + (i * 3 + 2), none⟩ = some (.string (c :: L)[i].2.2))
 (hn : n = L.length) (h1 : n ≤ cap') (h2 : cap' ≤ 9223372036854775807) (ha : a' = some ⟨b0, off + 3, none⟩ ∨ L = []) : CellsAt w B (.slice a' n cap') L := by
 subst hn
 refine ⟨a', cap', rfl, h1, h2, fun i hi => ?_⟩
 have ha' : a' = some ⟨b0, off + 3, none⟩ := ha.resolve_right (fun h => by rw [h] at hi; cases hi)
 obtain ⟨b1, off1, e, hb, k0, k1, k2⟩ := h3 (i + 1) (by simpa using hi)
 injection e with e
 injection e with e1 e2
 subst e1 e2
 refine ⟨b0, off + 3, ha', hb, ?_, ?_, ?_⟩
 ·rw [show off + 3 + i * 3 = off + (i + 1) * 3 by omega]; exact k0
 ·rw [show off + 3 + (i * 3 + 1) = off + ((i + 1) * 3 + 1) by omega]; exact k1
 ·rw [show off + 3 + (i * 3 + 2) = off + ((i + 1) * 3 + 2) by omega]; exact k2
set_option maxHeartbeats 4000000 in
set_option maxRecDepth 100000 in
theorem next_nil {w : World} {B b : Nat} {conv : ByteArray} {by_ : Bool} {av p v : Value} {out : List UInt8} (h : Wr w B b conv by_ av p v out) (hA : CellsAt w B av []) :
 Calls Tryz.prog 142 #[.pointer (some ⟨b, 0, none⟩)] w fun e w' => e = .returned (.tuple #[.agg #[.int .i64 0, .float .f64 0, .string ⟨#[]⟩], .bool false]) ∧ Below w.heap.size w w' := by
 obtain ⟨a, cap, rfl, h1, h2, h3⟩ := hA
 have c2 : w.cell? ⟨b, 2, none⟩ = some (.slice a 0 cap) := Lib.cell_of_heap h.heap 2
 have hlt := h.lt
 clear h3 h1
 go_enter Tryz.func142, Tryz.ntmps142
 go_wp2_with fail
 exact bodyPost_ret (v := .tuple #[.agg #[.int .i64 0, .float .f64 0, .string ⟨#[]⟩], .bool false]) (by simp [results, Tryz.results142, go_sem]) rfl ⟨rfl, (Below.refl _ _).alloc (Nat.le_refl _) _⟩
set_option maxHeartbeats 8000000 in
set_option maxRecDepth 100000 in
theorem next_cons {w : World} {B b : Nat} {conv : ByteArray} {by_ : Bool} {av p v : Value} {out : List UInt8} {c : CellT} {L : List CellT} (h : Wr w B b conv by_ av p v out) (hA : CellsAt w B av (c :: L)) :
 Calls Tryz.prog 142 #[.pointer (some ⟨b, 0, none⟩)] w fun e w' => e = .returned (.tuple #[.agg (agC c), .bool true]) ∧ ∃ av', Wr w' B b conv by_ av' p v out ∧ CellsAt w' B av' L ∧ Apart [b] w w' := by
 obtain ⟨a, cap, rfl, h1, h2, h3⟩ := hA
 obtain ⟨b0, off, rfl, hb0, k0, k1, k2⟩ := h3 0 (by simp)
 simp only [Nat.zero_mul, Nat.add_zero, Nat.zero_add, List.getElem_cons_zero] at k0 k1 k2
 have c2 : w.cell? ⟨b, 2, none⟩ = some (.slice (some ⟨b0, off, none⟩) (L.length + 1) cap) := Lib.cell_of_heap h.heap 2
 have hlt := h.lt
 have hlo := h.lo
 have hb0w : b0 < w.heap.size := by omega
 have hf : w.frozen? ⟨b, 2, none⟩ = false := Lib.frozen_of_heap h.heap 2
 have H := Lib.hid h
 have H3 := Lib.hid h3
 obtain ⟨ck, cx, cs⟩ := c
 obtain ⟨n, hn⟩ : ∃ n, n = L.length := ⟨_, rfl⟩
 have HN := Lib.hid hn
 simp only [List.length_cons] at h1
 rw [← hn] at c2 h1
 clear h h3 hn
 go_enter Tryz.func142, Tryz.ntmps142
 go_wp2_with fail
 ·have hL : L = [] := List.length_eq_zero_iff.1 (by have := HN.out; omega)
  refine bodyPost_ret (v := .tuple #[.agg #[.int .i64 ck, .float .f64 cx, .string cs], .bool true]) (by simp [results, Tryz.results142, go_sem]) rfl ⟨rfl, _, ((H.out.setArgs _).below (((Below.refl _ _).alloc (Nat.le_refl _) _).alloc (by simp) _)), ?_, ?_⟩
  ·exact (CellsAt.tail H3.out HN.out (by omega) (by omega) (.inr hL)).keep fun b1 hb1 => by
    rw [Lib.alloc_old _ _ b1 (by simp; omega), Lib.alloc_old _ _ b1 (by simp; omega), Below.heap_setCell _ _ _ _ (fun e => by simp at e; omega)]
  ·exact ((((Apart.refl _ _).setCell _ (.inl (by simp)) _).alloc _).alloc _)
 ·refine bodyPost_ret (v := .tuple #[.agg #[.int .i64 ck, .float .f64 cx, .string cs], .bool true]) (by simp [results, Tryz.results142, go_sem]) rfl ⟨rfl, _, ((H.out.setArgs _).below (((Below.refl _ _).alloc (Nat.le_refl _) _).alloc (by simp) _)), ?_, ?_⟩
  ·exact (CellsAt.tail H3.out HN.out (by omega) (by omega) (.inl rfl)).keep fun b1 hb1 => by
    rw [Lib.alloc_old _ _ b1 (by simp; omega), Lib.alloc_old _ _ b1 (by simp; omega), Below.heap_setCell _ _ _ _ (fun e => by simp at e; omega)]
  ·exact ((((Apart.refl _ _).setCell _ (.inl (by simp)) _).alloc _).alloc _)
end Go.Proofs.YtfdnhkjeoeffoaaGreatDoor
end

section
/- Package num: build. -/
namespace Go.Proofs.YtfdnhkjeoeffoaaGreatDoor
open Go.RowKit
set_option linter.unusedVariables false
end Go.Proofs.YtfdnhkjeoeffoaaGreatDoor
end

section
/- Plain: floats by their values with a sign; a whole number as a float. -/
namespace Go.Proofs.YtfdnhkjeoeffoaaGreatDoor
open Go.RowKit
set_option linter.unusedVariables false
/-- a float's value over the least step, with its sign -/
def sv (b : Nat) : Int := if b / 9223372036854775808 = 0 then (vl (b % 9223372036854775808) : Int) else -(vl (b % 9223372036854775808) : Int)
theorem read_sv {b : Nat} (hb : b < 18446744073709551616) (hf : b % 9223372036854775808 < 9218868437227405312) :
 ∃ s : Bool, FloatKind.f64.format.read b = .number s (mof (b % 9223372036854775808)) ((jof (b % 9223372036854775808) : Int) - 1074) ∧ sv b = if s then -(vl (b % 9223372036854775808) : Int) else (vl (b % 9223372036854775808) : Int) := by
 rcases Nat.lt_or_ge b 9223372036854775808 with h | h
 ·have e := Nat.mod_eq_of_lt h
  refine ⟨false, ?_, ?_⟩
  ·rw [e] at hf ⊢; exact read_fin hf
  ·unfold sv; rw [if_pos (Nat.div_eq_of_lt h)]; exact (if_neg (by decide)).symm
 ·obtain ⟨a, rfl⟩ : ∃ a, b = a + 9223372036854775808 := ⟨b - 9223372036854775808, by omega⟩
  have e : (a + 9223372036854775808) % 9223372036854775808 = a := by omega
  refine ⟨true, ?_, ?_⟩
  ·rw [e] at hf ⊢; exact read_neg hf
  ·unfold sv; rw [if_neg (by omega)]; exact (if_pos (by decide)).symm
end Go.Proofs.YtfdnhkjeoeffoaaGreatDoor
end

section
/- Package num: Pow, of valid operations. -/
namespace Go.Proofs.YtfdnhkjeoeffoaaGreatDoor
open Go.RowKit
set_option linter.unusedVariables false
end Go.Proofs.YtfdnhkjeoeffoaaGreatDoor
end

section
/- Package num: base, and Literal of a base of sixteen. -/
namespace Go.Proofs.YtfdnhkjeoeffoaaGreatDoor
open Go.RowKit
set_option linter.unusedVariables false
end Go.Proofs.YtfdnhkjeoeffoaaGreatDoor
end

section
/- Package num: Mod of finite floats. -/
namespace Go.Proofs.YtfdnhkjeoeffoaaGreatDoor
open Go.RowKit
set_option linter.unusedVariables false
end Go.Proofs.YtfdnhkjeoeffoaaGreatDoor
end

section
/- Package num: Mod where there is none, and of an infinite divisor. -/
namespace Go.Proofs.YtfdnhkjeoeffoaaGreatDoor
open Go.RowKit
set_option linter.unusedVariables false
end Go.Proofs.YtfdnhkjeoeffoaaGreatDoor
end

section
/- The document's example of package num. -/
namespace Go.Proofs.YtfdnhkjeoeffoaaGreatDoor
open Go.RowKit
set_option linter.unusedVariables false
end Go.Proofs.YtfdnhkjeoeffoaaGreatDoor
end

section
/- Plain: a natural as a float is the nearest one. -/
namespace Go.Proofs.YtfdnhkjeoeffoaaGreatDoor
open Go
set_option linter.unusedVariables false
end Go.Proofs.YtfdnhkjeoeffoaaGreatDoor
end

section
/- Plain: numerals with something ahead of them; the digits so far. -/
namespace Go.Proofs.YtfdnhkjeoeffoaaGreatDoor
open Go.RowKit
set_option linter.unusedVariables false
/-- the digits of n so far, k being left -/
def Done (n k : Nat) (l : List UInt8) : Prop := (k = n ∧ l = []) ∨ ∃ m r, k = m / 10 ∧ Left n m l r
theorem Done.step {n k : Nat} {l : List UInt8} (h : Done n k l) (hk : 0 < k ∨ l = []) : Done n (k / 10) (dig (k % 10) :: l) := by
 rcases h with ⟨rfl, rfl⟩ | ⟨m, r, rfl, hl⟩
 ·exact .inr ⟨k, [], rfl, Left.start k⟩
 ·rcases hk with h0 | h0
  ·exact .inr ⟨m / 10, l, rfl, hl.step (by omega)⟩
  ·rw [hl.eq] at h0; cases h0
theorem Done.short {n k : Nat} {l : List UInt8} (h : Done n k l) (hn : n < 18446744073709551616) : l.length ≤ 20 := by
 rcases h with ⟨rfl, rfl⟩ | ⟨m, r, rfl, hl⟩
 ·simp
 ·exact hl.short hn
section
variable {l tail : List UInt8} {n : Nat}
end
end Go.Proofs.YtfdnhkjeoeffoaaGreatDoor
end

section
/- What NumSigns's code computes: it answers true. -/
namespace Go.Proofs.YtfdnhkjeoeffoaaGreatDoor
open Go.RowKit
set_option linter.unusedVariables false
end Go.Proofs.YtfdnhkjeoeffoaaGreatDoor
end

section
/- Plain: whole numbers' digits with blanks around them; which numbers are not whole. -/
namespace Go.Proofs.YtfdnhkjeoeffoaaGreatDoor
open Go.RowKit
set_option linter.unusedVariables false
end Go.Proofs.YtfdnhkjeoeffoaaGreatDoor
end

section
/- What NumBack's code computes: it answers true. -/
namespace Go.Proofs.YtfdnhkjeoeffoaaGreatDoor
open Go.RowKit
set_option linter.unusedVariables false
theorem around (i : Nat) (L : List UInt8) : (32 : UInt8) :: ((List.replicate i 32 ++ (L ++ List.replicate i 10)) ++ [10]) = List.replicate (i + 1) 32 ++ (L ++ List.replicate (i + 1) 10) := by
 rw [List.replicate_succ (n := i) (a := (32 : UInt8)), List.replicate_succ' (n := i) (a := (10 : UInt8))]
 simp
end Go.Proofs.YtfdnhkjeoeffoaaGreatDoor
end

section
/- Package cell: Compare. -/
namespace Go.Proofs.YtfdnhkjeoeffoaaGreatDoor
open Go.RowKit
set_option linter.unusedVariables false
end Go.Proofs.YtfdnhkjeoeffoaaGreatDoor
end

section
/- Plain: what Fixed and Sci write, as functions of the float and the number of digits alone. -/
namespace Go.Proofs.YtfdnhkjeoeffoaaGreatDoor
open Go.RowKit
set_option linter.unusedVariables false
theorem GeT_more (A B : Nat) (k : Int) (n : Nat) (h : GeT A B k n) : ∀ d : Nat, GeT A B (k + d) (10 ^ d * n)
 | 0 => by
   have e : k + ((0 : Nat) : Int) = k := by omega
   rw [e, Nat.pow_zero, Nat.one_mul]
   exact h
 | d + 1 => by
   have h1 := (GeT_step A B (k + d) (10 ^ d * n)).2 (GeT_more A B k n h d)
   rw [show k + ((d + 1 : Nat) : Int) = k + d + 1 by omega, show 10 ^ (d + 1) * n = 10 * (10 ^ d * n) by rw [Nat.pow_succ]; ac_rfl]
   exact h1
theorem scaled_rat (b : Nat) (k : Int) : scaledN b k = ratN (mant b * 2 ^ (expo b).toNat) (2 ^ (-(expo b)).toNat) k := by
 unfold scaledN ratN
 rw [show mant b * 10 ^ k.toNat * 2 ^ (expo b).toNat = mant b * 2 ^ (expo b).toNat * 10 ^ k.toNat by ac_rfl]
theorem sci_not_less {b p : Nat} {x y : Int} (hx : SciAt b p x) (hy : SciAt b p y) : ¬ x < y := by
 intro hxy
 have h1 := hx.lt
 obtain ⟨y0, h2, h3, h4⟩ := hy.least
 rcases Int.lt_or_le x y0 with h | h
 ·obtain ⟨d, hd⟩ : ∃ d : Nat, y0 - x = ((d + 1 : Nat) : Int) := ⟨(y0 - x - 1).toNat, by omega⟩
  have h5 := GeT_more _ _ _ _ h3 (d + 1)
  rw [show (p : Int) - y0 + ((d + 1 : Nat) : Int) = (p : Int) - x by omega] at h5
  have h6 := ratN_ge (pow2_pos _) h5
  rw [← scaled_rat] at h6
  have h7 : 10 ^ (p + 1) ≤ 10 ^ (d + 1) * 10 ^ p := by
   rw [← Nat.pow_add]
   exact Nat.pow_le_pow_right (by decide) (by omega)
  omega
 ·have := h4 x h hxy
  omega
theorem sci_unique {b p : Nat} {x y : Int} (hx : SciAt b p x) (hy : SciAt b p y) : x = y := by
 have h1 := sci_not_less hx hy
 have h2 := sci_not_less hy hx
 omega
open Classical in
/-- a natural's digits -/
noncomputable def dl (n : Nat) : List UInt8 := if h : ∃ l, Canon l n then Classical.choose h else []
theorem dl_eq {l : List UInt8} {n : Nat} (h : Canon l n) : dl n = l := by
 unfold dl
 have hex : ∃ l, Canon l n := ⟨l, h⟩
 rw [dif_pos hex]
 exact canon_unique (Classical.choose_spec hex) h
open Classical in
/-- the power of a float's first digit, rounded to p + 1 digits -/
noncomputable def sciX (b p : Nat) : Int := if h : ∃ x, SciAt b p x then Classical.choose h else 0
theorem sciX_eq {b p : Nat} {x : Int} (h : SciAt b p x) : sciX b p = x := by
 unfold sciX
 have hex : ∃ x, SciAt b p x := ⟨x, h⟩
 rw [dif_pos hex]
 exact sci_unique (Classical.choose_spec hex) h
noncomputable def sciE (b p : Nat) : Int := if mant b = 0 then 0 else sciX b p
noncomputable def sciD (b p : Nat) : List UInt8 := if mant b = 0 then List.replicate (p + 1) 48 else dl (scaledN b (p - sciX b p))
noncomputable def fixT (b p : Nat) : List UInt8 := fixedL (dl (scaledN b p)) p
end Go.Proofs.YtfdnhkjeoeffoaaGreatDoor
end

section
/- Fixed and Sci as functions: what they write is told by the float and the number of digits alone. -/
namespace Go.Proofs.YtfdnhkjeoeffoaaGreatDoor
open Go.RowKit
set_option linter.unusedVariables false
theorem bytes_self (s : ByteArray) : (⟨s.data.toList.toArray⟩ : ByteArray) = s := by cases s; simp
theorem Fixed_det (b p : Nat) (w : World) (hb : b < 18446744073709551616) (hf : fin b = true) (hp : p ≤ 200) :
 Calls Tryz.prog 51 #[.float .f64 b, .int .i64 p] w fun e w' => e = .returned (.tuple #[.string ⟨(fixT b p).toArray⟩, .int .i64 0]) ∧ Below w.heap.size w w' := by
 refine (Fixed_ok b p w hb hf hp).mono ?_
 rintro e w' ⟨s, l, rfl, hc2, hs, hbw⟩
 unfold fixT
 rw [dl_eq hc2, ← hs]
 rw [bytes_self]
 exact ⟨rfl, hbw⟩
/-- what Sci writes: so many digits, and a power within bounds -/
structure SciOk (b p : Nat) : Prop where
 len : (sciD b p).length = p + 1
 lo : -325 ≤ sciE b p
 hi : sciE b p ≤ 309
 dig : Digits (sciD b p)
 fx : (dl (scaledN b ((p : Int) - sciE b p))).length ≤ p + 1
theorem scaled_zero {b : Nat} (k : Int) (h : mant b = 0) : scaledN b k = 0 := by
 have h1 := (scaledN_spec b k).2
 have h2 : numP b k = 0 := by
  unfold numP
  rw [h]
  simp
 rw [h2] at h1
 have h3 := denQ_pos b k
 rcases Nat.eq_zero_or_pos (scaledN b k) with h4 | h4
 ·exact h4
 ·exfalso
  have h5 : 2 * denQ b k ≤ 2 * scaledN b k * denQ b k := Nat.mul_le_mul_right _ (by omega)
  omega
theorem Sci_det (b p : Nat) (w : World) (hb : b < 18446744073709551616) (hf : fin b = true) (hp : p ≤ 200) :
 Calls Tryz.prog 195 #[.float .f64 b, .int .i64 p] w fun e w' => e = .returned (.tuple #[.string ⟨(sciD b p).toArray⟩, .int .i64 (sciE b p), .int .i64 0]) ∧ SciOk b p ∧ Below w.heap.size w w' := by
 by_cases hm : mant b = 0
 ·refine (Sci_zero b p w hb hf hp hm).mono ?_
  rintro e w' ⟨s, rfl, hs, hbw⟩
  have e1 : sciD b p = List.replicate (p + 1) 48 := by unfold sciD; rw [if_pos hm]
  have e2 : sciE b p = 0 := by unfold sciE; rw [if_pos hm]
  refine ⟨?_, ⟨by rw [e1]; simp, by rw [e2]; decide, by rw [e2]; decide, by rw [e1]; intro c hc; rw [List.eq_of_mem_replicate hc]; decide, ?_⟩, hbw⟩
  ·rw [e1, e2, ← hs, bytes_self]
  ·rw [scaled_zero _ hm, dl_eq (canon_mk (l := [48]) (by decide) (by simp) (by decide) (.inl rfl))]
   simp
 ·refine (Sci_loop b p w hb hf hp (Nat.pos_of_ne_zero hm)).mono ?_
  rintro e w' ⟨s, x, rfl, hc, hl, hsa, hx1, hx2, hbw⟩
  have e1 : sciE b p = x := by unfold sciE; rw [if_neg hm, sciX_eq hsa]
  have e2 : sciD b p = s.data.toList := by unfold sciD; rw [if_neg hm, sciX_eq hsa, dl_eq hc]
  refine ⟨?_, ⟨by rw [e2]; exact hl, by rw [e1]; exact hx1, by rw [e1]; exact hx2, by rw [e2]; exact hc.dig, ?_⟩, hbw⟩
  ·rw [e1, e2, bytes_self]
  ·rw [e1, dl_eq hc, hl]
   exact Nat.le_refl _
end Go.Proofs.YtfdnhkjeoeffoaaGreatDoor
end
