/- Several texts in one (K1, K6). -/
import Derived.Test.YtcmpdamfeoaapaaGreatDoorM4
section
/- Package num: digits, power, read. -/
namespace Go.Proofs.YtcmpdamfeoaapaaGreatDoor
open Go.RowKit
set_option linter.unusedVariables false

/-- the digits ahead -/
def lead (l : List UInt8) : List UInt8 := l.takeWhile (digs.contains ·)
theorem lead_drop (l : List UInt8) : l.dropWhile (digs.contains ·) = l.drop (lead l).length := by
  have h := List.takeWhile_append_dropWhile (p := (digs.contains ·)) (l := l)
  have h2 : l.drop (lead l).length = (lead l ++ l.dropWhile (digs.contains ·)).drop (lead l).length := by
    show _ = (l.takeWhile (digs.contains ·) ++ _).drop _
    rw [h]
  rw [h2, List.drop_left]
theorem lead_take (l : List UInt8) : l.take (lead l).length = lead l := by
  have h := List.takeWhile_append_dropWhile (p := (digs.contains ·)) (l := l)
  have h2 : l.take (lead l).length = (lead l ++ l.dropWhile (digs.contains ·)).take (lead l).length := by
    show _ = (l.takeWhile (digs.contains ·) ++ _).take _
    rw [h]
  rw [h2, List.take_left]
theorem lead_le (l : List UInt8) : (lead l).length ≤ l.length := (List.takeWhile_sublist _).length_le
theorem tw_all (p : UInt8 → Bool) : ∀ (l : List UInt8) (x : UInt8), x ∈ l.takeWhile p → p x = true
  | [], x, h => by simp at h
  | c :: l, x, h => by
    rw [List.takeWhile_cons] at h
    by_cases hc : p c = true
    · rw [if_pos hc] at h
      rcases List.mem_cons.1 h with rfl | h2
      · exact hc
      · exact tw_all p l x h2
    · rw [if_neg hc] at h; simp at h
theorem lead_digits (l : List UInt8) : Digits (lead l) := by
  intro c hc
  exact (digs_iff c).1 (tw_all _ l c hc)

theorem TrimLeft_digs (s : ByteArray) (w : World) :
    Calls Tryz.prog 46 #[.string s, .string ⟨#[48, 49, 50, 51, 52, 53, 54, 55, 56, 57]⟩] w fun e w' => e = .returned (.string ⟨(s.data.toList.drop (lead s.data.toList).length).toArray⟩) ∧ Below w.heap.size w w' := by
  have h := Any.strings_TrimLeft_laid Tryz.lays161 (by kernel_rfl) s ⟨#[48, 49, 50, 51, 52, 53, 54, 55, 56, 57]⟩ w (by decide) (ascii_of_all (by decide))
  have e : Lib.trimLeftS s.data.toList (⟨#[48, 49, 50, 51, 52, 53, 54, 55, 56, 57]⟩ : ByteArray).data.toList = s.data.toList.drop (lead s.data.toList).length := lead_drop _
  rw [e] at h
  exact h
theorem digits_any (s : ByteArray) (w : World) (hs : s.size ≤ 140737488355328) :
    Calls Tryz.prog 100 #[.string s] w fun e w' => e = .returned (.int .i64 ((lead s.data.toList).length : Nat)) ∧ Below w.heap.size w w' := by
  have HT := Lib.hid (TrimLeft_digs s w)
  have hle := lead_le s.data.toList
  have hsz : s.size = s.data.toList.length := by simp
  obtain ⟨T, hT⟩ : ∃ T : ByteArray, T = ⟨(s.data.toList.drop (lead s.data.toList).length).toArray⟩ := ⟨_, rfl⟩
  rw [← hT] at HT
  have hTs : T.size + (lead s.data.toList).length = s.size := by
    have h1 : T.size = T.data.toList.length := by simp
    rw [h1, hT, hsz]
    simp
    omega
  generalize (lead s.data.toList).length = n at *
  have e1 : (s.size : Int) - (T.size : Int) = (n : Int) := by omega
  clear hT hle hsz
  go_enter Tryz.func100, Tryz.ntmps100
  go_wp2_with fail
  refine HT.out.mono ?_
  rintro e w1 ⟨rfl, hb⟩
  have HB := Lib.hid hb
  clear hb HT
  go_wp2_with fail
  go_ret
  exact ⟨rfl, HB.out⟩

/-- the number of digits, no greater than 100000 -/
def powN (l : List UInt8) : Nat := l.foldl (fun n c => min (10 * n + (c.toNat - 48)) 100000) 0
theorem powN_snoc (l : List UInt8) (c : UInt8) : powN (l ++ [c]) = min (10 * powN l + (c.toNat - 48)) 100000 := by simp [powN]
theorem powN_le : ∀ l : List UInt8, powN l ≤ 100000 := by
  intro l
  rcases List.eq_nil_or_concat l with rfl | ⟨r, c, rfl⟩
  · decide
  · rw [List.concat_eq_append, powN_snoc]; omega
def powL (l : List UInt8) (minus : Bool) : Int := if minus then -(powN l : Int) else (powN l : Int)

set_option maxRecDepth 100000 in
set_option maxHeartbeats 2000000 in
theorem power_any (s : ByteArray) (minus : Bool) (w : World) (hd : Digits s.data.toList) (hs : s.size ≤ 140737488355328) :
    Calls Tryz.prog 101 #[.string s, .bool minus] w fun e w' => e = .returned (.int .i64 (powL s.data.toList minus)) ∧ Below w.heap.size w w' := by
  have hsz : s.size = s.data.toList.length := by simp
  generalize hLe : s.data.toList = L at *
  have HLe := Lib.hid hLe
  have HD := Lib.hid hd
  have HPL : Hid (powL L minus = if minus then -(powN L : Int) else (powN L : Int)) := rfl
  generalize powL L minus = R at *
  clear hd hLe
  go_enter Tryz.func101, Tryz.ntmps101
  go_wp2_with (refine wpList_bytes _ rfl _ rfl s rfl ?_; rw [HLe.out, hsz]; intro cap1 w1 hl1 hb1 hs1)
  generalize hg1 : w.heap.size = g at *
  have HL1 := Lib.hid hl1
  have HB1 := Lib.hid hb1
  have HG := Lib.hid hg1
  clear hl1 hb1 hg1
  go_wp2_with fail
  go_loop [5, 11] (fun n i => ∃ k : Nat, k ≤ L.length ∧ i = .int .i64 k ∧ n = .int .i64 ((powN (L.take k) : Nat) : Int)) (fun _ i => L.length - (intOf i).toNat)
  case atStart => exact ⟨0, Nat.zero_le _, rfl, rfl⟩
  case round =>
    obtain ⟨k, hk, rfl, rfl⟩ := hrel
    by_cases hlt : k < L.length
    · have hc := HL1.out k hlt
      rw [Nat.zero_add] at hc
      have hdd := HD.out _ (List.getElem_mem hlt)
      have hst : Hid (powN (L.take (k + 1)) = min (10 * powN (L.take k) + (L[k].toNat - 48)) 100000) := by
        show _ = _
        rw [List.take_succ_eq_append_getElem hlt, powN_snoc]
      have hpl := powN_le (L.take k)
      generalize L[k].toNat = c at *
      generalize powN (L.take k) = p at *
      obtain ⟨d, hdv⟩ : ∃ d, d = c - 48 := ⟨_, rfl⟩
      rw [← hdv] at hst
      have ed2 : ((c : Int) - 48) % 256 = (d : Int) := by omega
      have ed3 : (c : Int) - 48 = (d : Int) := by omega
      have hd9 : d ≤ 9 := by omega
      obtain ⟨q, hq⟩ : ∃ q, q = min (10 * p + d) 100000 := ⟨_, rfl⟩
      rw [← hq] at hst
      have eq1 : min ((10 : Int) * p + d) 100000 = (q : Int) := by omega
      clear hdv hq
      go_wp2_with fail
      go_round
      case rel => exact ⟨k + 1, by omega, by go_num, by rw [hst.out]⟩
      case measure => simp [intOf]; omega
    · obtain rfl : k = L.length := by omega
      have hpl := powN_le (L.take L.length)
      have hp2 : Hid (powN (L.take L.length) = powN L) := by show _ = _; rw [List.take_length]
      generalize powN (L.take L.length) = p at *
      cases minus
      · go_wp2_with fail
        go_ret
        exact ⟨by rw [HPL.out, ← hp2.out]; rfl, by rw [HG.out]; exact HB1.out⟩
      · go_wp2_with fail
        go_ret
        exact ⟨by rw [HPL.out, ← hp2.out]; rfl, by rw [HG.out]; exact HB1.out⟩

theorem ext_list (s : ByteArray) (i j : Nat) : (s.extract i j).data.toList = (s.data.toList.drop i).take (j - i) := by
  simp [ByteArray.data_extract, List.extract_eq_take_drop]
theorem size_list (s : ByteArray) : s.size = s.data.toList.length := by simp
theorem Trim_nought (s : ByteArray) (w : World) (hs : s.size ≤ 9223372036854775807) :
    Calls Tryz.prog 54 #[.string s, .string ⟨#[48]⟩] w fun e w' => e = .returned (.string ⟨(Lib.trimB s.data.toList 48).toArray⟩) ∧ Below w.heap.size w w' := by
  refine (Tryz.strings_Trim_one s 48 (by decide) w hs).mono ?_
  rintro e w' ⟨rfl, h | h⟩
  · rw [h]; exact ⟨rfl, Below.refl _ _⟩
  · rw [h]; exact ⟨rfl, (Below.refl _ _).drew⟩

/-- what read answers: of very many digits the first 900 count, and one behind them, if any that follows is no nought -/
def readN (l : List UInt8) (e : Int) : Nat :=
  if bare l = [] then 0
  else if (bare l).length ≤ 900 then readB (bare l) e
  else if Lib.trimB ((bare l).drop 900) 48 = [] then readB ((bare l).take 900) (e + (bare l).length - 900)
  else readB ((bare l).take 900 ++ [49]) (e + (bare l).length - 900 - 1)

set_option maxRecDepth 100000 in
set_option maxHeartbeats 2000000 in
theorem read_any (s : ByteArray) (x : Int) (w : World) (hd : Digits s.data.toList) (hs : s.size ≤ 140737488355328) (hx1 : -1000000000000000 ≤ x) (hx2 : x ≤ 1000000000000000) :
    Calls Tryz.prog 49 #[.string s, .int .i64 x] w fun e w' => e = .returned (.float .f64 (readN s.data.toList x)) ∧ Below w.heap.size w w' := by
  have hTL : Hid (∀ W, Calls Tryz.prog 46 #[.string s, .string ⟨#[48]⟩] W fun e w' => e = .returned (.string ⟨(bare s.data.toList).toArray⟩) ∧ w' = W) := fun W => Tryz.strings_TrimLeft_one s 48 (by decide) W
  obtain ⟨t, ht⟩ : ∃ t : ByteArray, t = ⟨(bare s.data.toList).toArray⟩ := ⟨_, rfl⟩
  rw [← ht] at hTL
  have htl : bare s.data.toList = t.data.toList := by rw [ht]
  have hdt : Digits t.data.toList := by rw [← htl]; exact bare_digits hd
  have hR : Hid (readN s.data.toList x = if t.data.toList = [] then 0 else if t.data.toList.length ≤ 900 then readB t.data.toList x else if Lib.trimB (t.data.toList.drop 900) 48 = [] then readB (t.data.toList.take 900) (x + t.data.toList.length - 900) else readB (t.data.toList.take 900 ++ [49]) (x + t.data.toList.length - 900 - 1)) := by
    show _ = _
    unfold readN
    rw [htl]
  obtain ⟨n, hn0⟩ : ∃ n, n = t.size := ⟨_, rfl⟩
  have hn1 : t.size = n := hn0.symm
  have HLT : Hid (t.data.toList.length = n) := by show _ = _; rw [hn0]; simp
  have hnl : n ≤ 140737488355328 := by
    have hbl := bare_length s.data.toList
    rw [htl, HLT.out] at hbl
    have hsz : s.size = s.data.toList.length := by simp
    omega
  rw [HLT.out] at hR
  generalize readN s.data.toList x = R at *
  have HDT := Lib.hid hdt
  clear ht htl hdt hd hn0
  by_cases h0 : t.data.toList = []
  · have he : t.toList.isEmpty = true := by rw [ByteArray.toList_eq, h0]; rfl
    obtain rfl : R = 0 := by rw [hR.out, if_pos h0]
    clear hR h0
    go_enter Tryz.func49, Tryz.ntmps49
    go_wp2_with fail
    refine (hTL.out w).mono ?_
    rintro e w1 ⟨rfl, rfl⟩
    go_wp2_with fail
    go_ret
    exact ⟨rfl, Below.refl _ _⟩
  · have he : t.toList.isEmpty = false := by rw [ByteArray.toList_eq]; simpa using h0
    by_cases h9 : n ≤ 900
    · have HR : Hid (R = readB t.data.toList x) := by show _ = _; rw [hR.out, if_neg h0, if_pos h9]
      have hts2 : (n : Int) ≤ 900 := by omega
      have hRD := Lib.hid (fun W => Read_ok t x W h0 HDT.out (by rw [HLT.out]; omega) (by omega) (by omega))
      rw [← HR.out] at hRD
      clear hR h0
      go_enter Tryz.func49, Tryz.ntmps49
      go_wp2_with fail
      refine (hTL.out w).mono ?_
      rintro e w1 ⟨rfl, rfl⟩
      go_wp2_with fail
      refine (hRD.out w1).mono ?_
      rintro e w2 ⟨rfl, hb2⟩
      have HB2 := Lib.hid hb2
      clear hb2 hRD
      go_wp2_with fail
      go_ret
      exact ⟨rfl, HB2.out⟩
    · have hts2 : 900 < (n : Int) := by omega
      have hh0 := Lib.hid h0
      clear h0
      go_enter Tryz.func49, Tryz.ntmps49
      go_wp2_with fail
      refine (hTL.out w).mono ?_
      rintro e w1 ⟨rfl, rfl⟩
      go_wp2_with fail
      have hE1 : (t.extract 900 n).data.toList = t.data.toList.drop 900 := by
        rw [ext_list]
        exact List.take_of_length_le (by rw [List.length_drop, HLT.out]; omega)
      have hE2 : (t.extract 0 900).data.toList = t.data.toList.take 900 := by rw [ext_list]; rfl
      have hx1s : (t.extract 900 n).size ≤ 9223372036854775807 := by
        have h1 := size_list (t.extract 900 n)
        rw [h1, hE1, List.length_drop, HLT.out]; omega
      have hl2 : (t.data.toList.take 900).length = 900 := by rw [List.length_take, HLT.out]; omega
      have hx2s : (t.extract 0 900).size = 900 := by
        have h1 := size_list (t.extract 0 900)
        rw [h1, hE2, hl2]
      have hTR := Lib.hid (Trim_nought (t.extract 900 n) w1 hx1s)
      rw [hE1] at hTR
      have hd2 : Digits (t.data.toList.take 900) := fun c hc => HDT.out c (List.mem_of_mem_take hc)
      by_cases hz : Lib.trimB (t.data.toList.drop 900) 48 = []
      · rw [hz] at hTR
        have HR : Hid (R = readB (t.data.toList.take 900) (x + n - 900)) := by show _ = _; rw [hR.out, if_neg hh0.out, if_neg h9, if_pos hz]
        have hRD := Lib.hid (fun W => Read_ok (t.extract 0 900) (x + n - 900) W (by rw [hE2]; intro h; rw [h] at hl2; simp at hl2) (by rw [hE2]; exact hd2) (by rw [hE2, hl2]; decide) (by omega) (by omega))
        rw [hE2, ← HR.out] at hRD
        clear hE1 hE2 hl2 hd2 hz hR HR hx1s
        refine hTR.out.mono ?_
        rintro e w2 ⟨rfl, hb2⟩
        have HB2 := Lib.hid hb2
        have hs2 := hb2.size
        clear hb2 hTR
        go_wp2_with fail
        refine (hRD.out w2).mono ?_
        rintro e w3 ⟨rfl, hb3⟩
        have HB3 := Lib.hid (HB2.out.trans (hb3.mono hs2))
        clear hb3 hRD HB2
        go_wp2_with fail
        go_ret
        exact ⟨rfl, HB3.out⟩
      · have HR : Hid (R = readB (t.data.toList.take 900 ++ [49]) (x + n - 900 - 1)) := by show _ = _; rw [hR.out, if_neg hh0.out, if_neg h9, if_neg hz]
        have hE3 : (t.extract 0 900 ++ ⟨#[49]⟩ : ByteArray).data.toList = t.data.toList.take 900 ++ [49] := by rw [ByteArray.data_append, Array.toList_append, hE2]
        have hRD := Lib.hid (fun W => Read_ok (t.extract 0 900 ++ ⟨#[49]⟩) (x + n - 900 - 1) W (by rw [hE3]; simp) (by
          rw [hE3]; intro c hc
          rcases List.mem_append.1 hc with h | h
          · exact hd2 c h
          · simp at h; subst h; decide) (by rw [hE3, List.length_append, hl2]; decide) (by omega) (by omega))
        rw [hE3, ← HR.out] at hRD
        obtain ⟨T, hT⟩ : ∃ T : ByteArray, T = ⟨(Lib.trimB (t.data.toList.drop 900) 48).toArray⟩ := ⟨_, rfl⟩
        rw [← hT] at hTR
        have hTe : T.toList.isEmpty = false := by
          rw [ByteArray.toList_eq, hT]
          simpa using hz
        clear hE1 hE2 hl2 hd2 hz hR HR hx1s hE3 hT
        refine hTR.out.mono ?_
        rintro e w2 ⟨rfl, hb2⟩
        have HB2 := Lib.hid hb2
        have hs2 := hb2.size
        clear hb2 hTR
        go_wp2_with fail
        refine (hRD.out w2).mono ?_
        rintro e w3 ⟨rfl, hb3⟩
        have HB3 := Lib.hid (HB2.out.trans (hb3.mono hs2))
        clear hb3 hRD HB2
        go_wp2_with fail
        go_ret
        exact ⟨rfl, HB3.out⟩
end Go.Proofs.YtcmpdamfeoaapaaGreatDoor
end

section
/- Package num: Whole. -/
namespace Go.Proofs.YtcmpdamfeoaapaaGreatDoor
open Go.RowKit
set_option linter.unusedVariables false

/-- is the float whole, and below 10^16 -/
def wholeOk (b : Nat) : Bool := decide (b % 9223372036854775808 < 4846369599423283200) && (FloatKind.f64.format.order (truncB b) b == some .eq)

/-- the text of a whole number -/
def WholeT (t : List UInt8) (b : Nat) (S : Bool) : Prop := ∃ l, Canon l (scaledN b 0) ∧ t = if S = true then 45 :: l else l

set_option maxRecDepth 100000 in
set_option maxHeartbeats 4000000 in
theorem Whole_no (b : Nat) (w : World) (hb : b < 18446744073709551616) (h : wholeOk b = false) :
    Calls Tryz.prog 26 #[.float .f64 b] w fun e w' => e = .returned (.tuple #[.string ⟨#[]⟩, .bool false]) ∧ w = w' := by
  have HA := Lib.hid (Abs_any b w hb)
  have HT := Lib.hid (Trunc_any b w hb)
  have hal : b % 9223372036854775808 < 9223372036854775808 := Nat.mod_lt _ (by decide)
  unfold wholeOk at h
  generalize truncB b = T at *
  generalize b % 9223372036854775808 = a at *
  by_cases h1 : a < 4846369599423283200
  · have ho := order_lt (x := a) (y := 4846369599423283200) (by omega) (by decide) h1
    have ho2 : (FloatKind.f64.format.order T b == some .eq) = false := by rw [decide_eq_true h1] at h; simpa using h
    have ho3 : (FloatKind.f64.format.order T b != some .eq) = true := by unfold bne; rw [ho2]; rfl
    clear h h1 hal hb
    go_enter Tryz.func26, Tryz.ntmps26
    go_wp2_with fail
    refine HA.out.mono ?_
    rintro e w1 ⟨rfl, rfl⟩
    go_wp2_with fail
    refine HT.out.mono ?_
    rintro e w1 ⟨rfl, rfl⟩
    go_wp2_with fail
    go_ret2
    exact ⟨rfl, rfl⟩
  · have ho : (FloatKind.f64.format.order a 4846369599423283200 == some .lt) = false := by
      rcases Nat.lt_or_ge 9218868437227405312 a with h2 | h2
      · rw [order_nan _ h2 hal]; rfl
      · rcases Nat.eq_or_lt_of_le (Nat.le_of_not_lt h1) with h3 | h3
        · rw [← h3, order_eq (by decide)]; rfl
        · rw [order_gt h2 (by decide) h3]; rfl
    clear h h1 hal hb HT
    go_enter Tryz.func26, Tryz.ntmps26
    go_wp2_with fail
    refine HA.out.mono ?_
    rintro e w1 ⟨rfl, rfl⟩
    go_wp2_with fail
    go_ret2
    exact ⟨rfl, rfl⟩

set_option maxRecDepth 100000 in
set_option maxHeartbeats 4000000 in
theorem Whole_yes (b : Nat) (w : World) (hb : b < 18446744073709551616) (h : wholeOk b = true) :
    Calls Tryz.prog 26 #[.float .f64 b] w fun e w' => ∃ s : ByteArray, e = .returned (.tuple #[.string s, .bool true]) ∧ WholeT s.data.toList b (FloatKind.f64.format.order b 0 == some .lt) ∧ Below w.heap.size w w' := by
  have HA := Lib.hid (Abs_any b w hb)
  have HT := Lib.hid (Trunc_any b w hb)
  unfold wholeOk at h
  rw [Bool.and_eq_true, decide_eq_true_eq] at h
  obtain ⟨h1, ho2⟩ := h
  have hfin : fin b = true := by
    rw [← (mant_mod b).2.2]
    exact (fin_lt_inf (Nat.mod_lt _ (by decide))).2 (by omega)
  have HF := Lib.hid (Fixed_ok b 0 w hb hfin (by decide))
  have ho := order_lt (x := b % 9223372036854775808) (y := 4846369599423283200) (by omega) (by decide) h1
  have ho3 : (FloatKind.f64.format.order (truncB b) b != some .eq) = false := by unfold bne; rw [ho2]; rfl
  obtain ⟨S, hS⟩ : ∃ S : Bool, S = (FloatKind.f64.format.order b 0 == some .lt) := ⟨_, rfl⟩
  have hS2 : (FloatKind.f64.format.order b 0 == some .lt) = S := hS.symm
  rw [hS2]
  have ho2' : FloatKind.f64.format.order (truncB b) b = some .eq := by simpa using ho2
  generalize truncB b = T at *
  generalize b % 9223372036854775808 = a at *
  clear h1 hb hfin hS ho2
  cases S
  · go_enter Tryz.func26, Tryz.ntmps26
    go_wp2_with fail
    refine HA.out.mono ?_
    rintro e w1 ⟨rfl, rfl⟩
    go_wp2_with fail
    refine HT.out.mono ?_
    rintro e w1 ⟨rfl, rfl⟩
    go_wp2_with fail
    refine HF.out.mono ?_
    rintro e w1 ⟨s, l, rfl, hc, hs, hb⟩
    have HC := Lib.hid hc
    have HS : Hid (s.data.toList = l) := by show _ = _; rw [hs]; exact fixedL_zero hc.ne
    have HB := Lib.hid hb
    clear hc hs hb
    go_wp2_with fail
    go_ret2
    exact ⟨s, rfl, ⟨l, HC.out, HS.out⟩, HB.out⟩
  · go_enter Tryz.func26, Tryz.ntmps26
    go_wp2_with fail
    refine HA.out.mono ?_
    rintro e w1 ⟨rfl, rfl⟩
    go_wp2_with fail
    refine HT.out.mono ?_
    rintro e w1 ⟨rfl, rfl⟩
    go_wp2_with fail
    refine HF.out.mono ?_
    rintro e w1 ⟨s, l, rfl, hc, hs, hb⟩
    have HC := Lib.hid hc
    have HS : Hid ((⟨#[45]⟩ ++ s : ByteArray).data.toList = 45 :: l) := by show _ = _; rw [ByteArray.data_append, Array.toList_append, hs, fixedL_zero hc.ne]; rfl
    have HB := Lib.hid hb
    have hsz : s.size ≤ 5000 := by
      rw [size_list, hs, fixedL_zero hc.ne]
      have h2 := canon_len (k := 4001) hc (Nat.lt_of_lt_of_le (nbits_le.1 (scaledN_lt (b := b) (k := 0) (by decide) (by decide))) (two_ten 4001)) (by decide)
      omega
    clear hc hs hb
    go_wp2_with fail
    go_ret2
    exact ⟨_, rfl, ⟨l, HC.out, HS.out⟩, HB.out⟩
end Go.Proofs.YtcmpdamfeoaapaaGreatDoor
end
