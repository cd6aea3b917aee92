/- Several texts in one (K1, K2, Y2, R10, R11, L5, L7, R12, L10, K4, K5, K6, K7, K8, K9). -/
import Derived.Test.YtkaelmbgfcehhaaDoorM3
import Derived.Test.YtkaelmbgfcehhaaDoorM2
import Derived.BigQuiet
import Derived.Deep.QuietTactic
set_option linter.unusedVariables false
set_option linter.unusedSimpArgs false
section
/- Package num: digits, power, read. -/
namespace Go.Proofs.YtkaelmbgfcehhaaDoor
open Go.RowKit
set_option linter.unusedVariables false

/-- the digits ahead -/
def lead (l : List UInt8) : List UInt8 := l.takeWhile (digs.contains ·)
theorem lead_drop (l : List UInt8) : l.dropWhile (digs.contains ·) = l.drop (lead l).length := by
  have h := List.takeWhile_append_dropWhile (p := (digs.contains ·)) (l := l)
  have h2 : l.drop (lead l).length = (lead l ++ l.dropWhile (digs.contains ·)).drop (lead l).length := by
    show _ = (l.takeWhile (digs.contains ·) ++ _).drop _
    rw [h]
  rw [h2, List.drop_left]
theorem lead_take (l : List UInt8) : l.take (lead l).length = lead l := by
  have h := List.takeWhile_append_dropWhile (p := (digs.contains ·)) (l := l)
  have h2 : l.take (lead l).length = (lead l ++ l.dropWhile (digs.contains ·)).take (lead l).length := by
    show _ = (l.takeWhile (digs.contains ·) ++ _).take _
    rw [h]
  rw [h2, List.take_left]
theorem lead_le (l : List UInt8) : (lead l).length ≤ l.length := (List.takeWhile_sublist _).length_le
theorem tw_all (p : UInt8 → Bool) : ∀ (l : List UInt8) (x : UInt8), x ∈ l.takeWhile p → p x = true
  | [], x, h => by simp at h
  | c :: l, x, h => by
    rw [List.takeWhile_cons] at h
    by_cases hc : p c = true
    · rw [if_pos hc] at h
      rcases List.mem_cons.1 h with rfl | h2
      · exact hc
      · exact tw_all p l x h2
    · rw [if_neg hc] at h; simp at h
theorem lead_digits (l : List UInt8) : Digits (lead l) := by
  intro c hc
  exact (digs_iff c).1 (tw_all _ l c hc)

theorem TrimLeft_digs (s : ByteArray) (w : World) :
    Calls Tryd.prog 49 #[.string s, .string ⟨#[48, 49, 50, 51, 52, 53, 54, 55, 56, 57]⟩] w fun e w' => e = .returned (.string ⟨(s.data.toList.drop (lead s.data.toList).length).toArray⟩) ∧ Below w.heap.size w w' := by
  have h := Any.strings_TrimLeft_laid Tryd.lays161 (by kernel_rfl) s ⟨#[48, 49, 50, 51, 52, 53, 54, 55, 56, 57]⟩ w (by decide) (ascii_of_all (by decide))
  have e : Lib.trimLeftS s.data.toList (⟨#[48, 49, 50, 51, 52, 53, 54, 55, 56, 57]⟩ : ByteArray).data.toList = s.data.toList.drop (lead s.data.toList).length := lead_drop _
  rw [e] at h
  exact h
theorem digits_any (s : ByteArray) (w : World) (hs : s.size ≤ 140737488355328) :
    Calls Tryd.prog 47 #[.string s] w fun e w' => e = .returned (.int .i64 ((lead s.data.toList).length : Nat)) ∧ Below w.heap.size w w' := by
  have HT := Lib.hid (TrimLeft_digs s w)
  have hle := lead_le s.data.toList
  have hsz : s.size = s.data.toList.length := by simp
  obtain ⟨T, hT⟩ : ∃ T : ByteArray, T = ⟨(s.data.toList.drop (lead s.data.toList).length).toArray⟩ := ⟨_, rfl⟩
  rw [← hT] at HT
  have hTs : T.size + (lead s.data.toList).length = s.size := by
    have h1 : T.size = T.data.toList.length := by simp
    rw [h1, hT, hsz]
    simp
    omega
  generalize (lead s.data.toList).length = n at *
  have e1 : (s.size : Int) - (T.size : Int) = (n : Int) := by omega
  clear hT hle hsz
  go_enter Tryd.func47, Tryd.ntmps47
  go_wp2_with fail
  refine HT.out.mono ?_
  rintro e w1 ⟨rfl, hb⟩
  have HB := Lib.hid hb
  clear hb HT
  go_wp2_with fail
  go_ret
  exact ⟨rfl, HB.out⟩

/-- the number of digits, no greater than 100000 -/
def powN (l : List UInt8) : Nat := l.foldl (fun n c => min (10 * n + (c.toNat - 48)) 100000) 0
theorem powN_snoc (l : List UInt8) (c : UInt8) : powN (l ++ [c]) = min (10 * powN l + (c.toNat - 48)) 100000 := by simp [powN]
theorem powN_le : ∀ l : List UInt8, powN l ≤ 100000 := by
  intro l
  rcases List.eq_nil_or_concat l with rfl | ⟨r, c, rfl⟩
  · decide
  · rw [List.concat_eq_append, powN_snoc]; omega
def powL (l : List UInt8) (minus : Bool) : Int := if minus then -(powN l : Int) else (powN l : Int)

set_option maxRecDepth 100000 in
set_option maxHeartbeats 2000000 in
theorem power_any (s : ByteArray) (minus : Bool) (w : World) (hd : Digits s.data.toList) (hs : s.size ≤ 140737488355328) :
    Calls Tryd.prog 48 #[.string s, .bool minus] w fun e w' => e = .returned (.int .i64 (powL s.data.toList minus)) ∧ Below w.heap.size w w' := by
  have hsz : s.size = s.data.toList.length := by simp
  generalize hLe : s.data.toList = L at *
  have HLe := Lib.hid hLe
  have HD := Lib.hid hd
  have HPL : Hid (powL L minus = if minus then -(powN L : Int) else (powN L : Int)) := rfl
  generalize powL L minus = R at *
  clear hd hLe
  go_enter Tryd.func48, Tryd.ntmps48
  go_wp2_with (refine wpList_bytes _ rfl _ rfl s rfl ?_; rw [HLe.out, hsz]; intro cap1 w1 hl1 hb1 hs1)
  generalize hg1 : w.heap.size = g at *
  have HL1 := Lib.hid hl1
  have HB1 := Lib.hid hb1
  have HG := Lib.hid hg1
  clear hl1 hb1 hg1
  go_wp2_with fail
  go_loop [5, 11] (fun n i => ∃ k : Nat, k ≤ L.length ∧ i = .int .i64 k ∧ n = .int .i64 ((powN (L.take k) : Nat) : Int)) (fun _ i => L.length - (intOf i).toNat)
  case atStart => exact ⟨0, Nat.zero_le _, rfl, rfl⟩
  case round =>
    obtain ⟨k, hk, rfl, rfl⟩ := hrel
    by_cases hlt : k < L.length
    · have hc := HL1.out k hlt
      rw [Nat.zero_add] at hc
      have hdd := HD.out _ (List.getElem_mem hlt)
      have hst : Hid (powN (L.take (k + 1)) = min (10 * powN (L.take k) + (L[k].toNat - 48)) 100000) := by
        show _ = _
        rw [List.take_succ_eq_append_getElem hlt, powN_snoc]
      have hpl := powN_le (L.take k)
      generalize L[k].toNat = c at *
      generalize powN (L.take k) = p at *
      obtain ⟨d, hdv⟩ : ∃ d, d = c - 48 := ⟨_, rfl⟩
      rw [← hdv] at hst
      have ed2 : ((c : Int) - 48) % 256 = (d : Int) := by omega
      have ed3 : (c : Int) - 48 = (d : Int) := by omega
      have hd9 : d ≤ 9 := by omega
      obtain ⟨q, hq⟩ : ∃ q, q = min (10 * p + d) 100000 := ⟨_, rfl⟩
      rw [← hq] at hst
      have eq1 : min ((10 : Int) * p + d) 100000 = (q : Int) := by omega
      clear hdv hq
      go_wp2_with fail
      go_round
      case rel => exact ⟨k + 1, by omega, by go_num, by rw [hst.out]⟩
      case measure => simp [intOf]; omega
    · obtain rfl : k = L.length := by omega
      have hpl := powN_le (L.take L.length)
      have hp2 : Hid (powN (L.take L.length) = powN L) := by show _ = _; rw [List.take_length]
      generalize powN (L.take L.length) = p at *
      cases minus
      · go_wp2_with fail
        go_ret
        exact ⟨by rw [HPL.out, ← hp2.out]; rfl, by rw [HG.out]; exact HB1.out⟩
      · go_wp2_with fail
        go_ret
        exact ⟨by rw [HPL.out, ← hp2.out]; rfl, by rw [HG.out]; exact HB1.out⟩

theorem ext_list (s : ByteArray) (i j : Nat) : (s.extract i j).data.toList = (s.data.toList.drop i).take (j - i) := by
  simp [ByteArray.data_extract, List.extract_eq_take_drop]
theorem size_list (s : ByteArray) : s.size = s.data.toList.length := by simp
theorem Trim_nought (s : ByteArray) (w : World) (hs : s.size ≤ 9223372036854775807) :
    Calls Tryd.prog 50 #[.string s, .string ⟨#[48]⟩] w fun e w' => e = .returned (.string ⟨(Lib.trimB s.data.toList 48).toArray⟩) ∧ Below w.heap.size w w' := by
  refine (Tryd.strings_Trim_one s 48 (by decide) w hs).mono ?_
  rintro e w' ⟨rfl, h | h⟩
  · rw [h]; exact ⟨rfl, Below.refl _ _⟩
  · rw [h]; exact ⟨rfl, (Below.refl _ _).drew⟩

/-- what read answers: of very many digits the first 900 count, and one behind them, if any that follows is no nought -/
def readN (l : List UInt8) (e : Int) : Nat :=
  if bare l = [] then 0
  else if (bare l).length ≤ 900 then readB (bare l) e
  else if Lib.trimB ((bare l).drop 900) 48 = [] then readB ((bare l).take 900) (e + (bare l).length - 900)
  else readB ((bare l).take 900 ++ [49]) (e + (bare l).length - 900 - 1)

set_option maxRecDepth 100000 in
set_option maxHeartbeats 2000000 in
theorem read_any (s : ByteArray) (x : Int) (w : World) (hd : Digits s.data.toList) (hs : s.size ≤ 140737488355328) (hx1 : -1000000000000000 ≤ x) (hx2 : x ≤ 1000000000000000) :
    Calls Tryd.prog 42 #[.string s, .int .i64 x] w fun e w' => e = .returned (.float .f64 (readN s.data.toList x)) ∧ Below w.heap.size w w' := by
  have hTL : Hid (∀ W, Calls Tryd.prog 49 #[.string s, .string ⟨#[48]⟩] W fun e w' => e = .returned (.string ⟨(bare s.data.toList).toArray⟩) ∧ w' = W) := fun W => Tryd.strings_TrimLeft_one s 48 (by decide) W
  obtain ⟨t, ht⟩ : ∃ t : ByteArray, t = ⟨(bare s.data.toList).toArray⟩ := ⟨_, rfl⟩
  rw [← ht] at hTL
  have htl : bare s.data.toList = t.data.toList := by rw [ht]
  have hdt : Digits t.data.toList := by rw [← htl]; exact bare_digits hd
  have hR : Hid (readN s.data.toList x = if t.data.toList = [] then 0 else if t.data.toList.length ≤ 900 then readB t.data.toList x else if Lib.trimB (t.data.toList.drop 900) 48 = [] then readB (t.data.toList.take 900) (x + t.data.toList.length - 900) else readB (t.data.toList.take 900 ++ [49]) (x + t.data.toList.length - 900 - 1)) := by
    show _ = _
    unfold readN
    rw [htl]
  obtain ⟨n, hn0⟩ : ∃ n, n = t.size := ⟨_, rfl⟩
  have hn1 : t.size = n := hn0.symm
  have HLT : Hid (t.data.toList.length = n) := by show _ = _; rw [hn0]; simp
  have hnl : n ≤ 140737488355328 := by
    have hbl := bare_length s.data.toList
    rw [htl, HLT.out] at hbl
    have hsz : s.size = s.data.toList.length := by simp
    omega
  rw [HLT.out] at hR
  generalize readN s.data.toList x = R at *
  have HDT := Lib.hid hdt
  clear ht htl hdt hd hn0
  by_cases h0 : t.data.toList = []
  · have he : t.toList.isEmpty = true := by rw [ByteArray.toList_eq, h0]; rfl
    obtain rfl : R = 0 := by rw [hR.out, if_pos h0]
    clear hR h0
    go_enter Tryd.func42, Tryd.ntmps42
    go_wp2_with fail
    refine (hTL.out w).mono ?_
    rintro e w1 ⟨rfl, rfl⟩
    go_wp2_with fail
    go_ret
    exact ⟨rfl, Below.refl _ _⟩
  · have he : t.toList.isEmpty = false := by rw [ByteArray.toList_eq]; simpa using h0
    by_cases h9 : n ≤ 900
    · have HR : Hid (R = readB t.data.toList x) := by show _ = _; rw [hR.out, if_neg h0, if_pos h9]
      have hts2 : (n : Int) ≤ 900 := by omega
      have hRD := Lib.hid (fun W => Read_ok t x W h0 HDT.out (by rw [HLT.out]; omega) (by omega) (by omega))
      rw [← HR.out] at hRD
      clear hR h0
      go_enter Tryd.func42, Tryd.ntmps42
      go_wp2_with fail
      refine (hTL.out w).mono ?_
      rintro e w1 ⟨rfl, rfl⟩
      go_wp2_with fail
      refine (hRD.out w1).mono ?_
      rintro e w2 ⟨rfl, hb2⟩
      have HB2 := Lib.hid hb2
      clear hb2 hRD
      go_wp2_with fail
      go_ret
      exact ⟨rfl, HB2.out⟩
    · have hts2 : 900 < (n : Int) := by omega
      have hh0 := Lib.hid h0
      clear h0
      go_enter Tryd.func42, Tryd.ntmps42
      go_wp2_with fail
      refine (hTL.out w).mono ?_
      rintro e w1 ⟨rfl, rfl⟩
      go_wp2_with fail
      have hE1 : (t.extract 900 n).data.toList = t.data.toList.drop 900 := by
        rw [ext_list]
        exact List.take_of_length_le (by rw [List.length_drop, HLT.out]; omega)
      have hE2 : (t.extract 0 900).data.toList = t.data.toList.take 900 := by rw [ext_list]; rfl
      have hx1s : (t.extract 900 n).size ≤ 9223372036854775807 := by
        have h1 := size_list (t.extract 900 n)
        rw [h1, hE1, List.length_drop, HLT.out]; omega
      have hl2 : (t.data.toList.take 900).length = 900 := by rw [List.length_take, HLT.out]; omega
      have hx2s : (t.extract 0 900).size = 900 := by
        have h1 := size_list (t.extract 0 900)
        rw [h1, hE2, hl2]
      have hTR := Lib.hid (Trim_nought (t.extract 900 n) w1 hx1s)
      rw [hE1] at hTR
      have hd2 : Digits (t.data.toList.take 900) := fun c hc => HDT.out c (List.mem_of_mem_take hc)
      by_cases hz : Lib.trimB (t.data.toList.drop 900) 48 = []
      · rw [hz] at hTR
        have HR : Hid (R = readB (t.data.toList.take 900) (x + n - 900)) := by show _ = _; rw [hR.out, if_neg hh0.out, if_neg h9, if_pos hz]
        have hRD := Lib.hid (fun W => Read_ok (t.extract 0 900) (x + n - 900) W (by rw [hE2]; intro h; rw [h] at hl2; simp at hl2) (by rw [hE2]; exact hd2) (by rw [hE2, hl2]; decide) (by omega) (by omega))
        rw [hE2, ← HR.out] at hRD
        clear hE1 hE2 hl2 hd2 hz hR HR hx1s
        refine hTR.out.mono ?_
        rintro e w2 ⟨rfl, hb2⟩
        have HB2 := Lib.hid hb2
        have hs2 := hb2.size
        clear hb2 hTR
        go_wp2_with fail
        refine (hRD.out w2).mono ?_
        rintro e w3 ⟨rfl, hb3⟩
        have HB3 := Lib.hid (HB2.out.trans (hb3.mono hs2))
        clear hb3 hRD HB2
        go_wp2_with fail
        go_ret
        exact ⟨rfl, HB3.out⟩
      · have HR : Hid (R = readB (t.data.toList.take 900 ++ [49]) (x + n - 900 - 1)) := by show _ = _; rw [hR.out, if_neg hh0.out, if_neg h9, if_neg hz]
        have hE3 : (t.extract 0 900 ++ ⟨#[49]⟩ : ByteArray).data.toList = t.data.toList.take 900 ++ [49] := by rw [ByteArray.data_append, Array.toList_append, hE2]
        have hRD := Lib.hid (fun W => Read_ok (t.extract 0 900 ++ ⟨#[49]⟩) (x + n - 900 - 1) W (by rw [hE3]; simp) (by
          rw [hE3]; intro c hc
          rcases List.mem_append.1 hc with h | h
          · exact hd2 c h
          · simp at h; subst h; decide) (by rw [hE3, List.length_append, hl2]; decide) (by omega) (by omega))
        rw [hE3, ← HR.out] at hRD
        obtain ⟨T, hT⟩ : ∃ T : ByteArray, T = ⟨(Lib.trimB (t.data.toList.drop 900) 48).toArray⟩ := ⟨_, rfl⟩
        rw [← hT] at hTR
        have hTe : T.toList.isEmpty = false := by
          rw [ByteArray.toList_eq, hT]
          simpa using hz
        clear hE1 hE2 hl2 hd2 hz hR HR hx1s hE3 hT
        refine hTR.out.mono ?_
        rintro e w2 ⟨rfl, hb2⟩
        have HB2 := Lib.hid hb2
        have hs2 := hb2.size
        clear hb2 hTR
        go_wp2_with fail
        refine (hRD.out w2).mono ?_
        rintro e w3 ⟨rfl, hb3⟩
        have HB3 := Lib.hid (HB2.out.trans (hb3.mono hs2))
        clear hb3 hRD HB2
        go_wp2_with fail
        go_ret
        exact ⟨rfl, HB3.out⟩
end Go.Proofs.YtkaelmbgfcehhaaDoor
end

section
/- Package num: numeral. -/
namespace Go.Proofs.YtkaelmbgfcehhaaDoor
open Go.RowKit
set_option linter.unusedVariables false

/-- the digits, the power and the bytes of what stands ahead of the exponent -/
def mantL (l : List UInt8) : List UInt8 × Int × Nat :=
  match l.drop (lead l).length with
  | 46 :: r => if 0 < (lead l).length + (lead r).length then (lead l ++ lead r, -((lead r).length : Int), (lead l).length + 1 + (lead r).length) else (lead l, 0, (lead l).length)
  | _ => (lead l, 0, (lead l).length)
/-- how many bytes the letter and its sign take, and whether the sign is a minus -/
def signK : List UInt8 → Nat × Bool
  | _ :: 43 :: _ => (2, false)
  | _ :: 45 :: _ => (2, true)
  | _ => (1, false)
/-- the exponent and its bytes -/
def expL (q : List UInt8) : Int × Nat :=
  match q with
  | c :: _ => if c = 101 ∨ c = 69 then (if 0 < (lead (q.drop (signK q).1)).length then (powL (lead (q.drop (signK q).1)) (signK q).2, (signK q).1 + (lead (q.drop (signK q).1)).length) else (0, 0)) else (0, 0)
  | [] => (0, 0)
def numeralL (l : List UInt8) : List UInt8 × Int × Nat :=
  if (mantL l).1 = [] then ([], 0, 0) else ((mantL l).1, (mantL l).2.1 + (expL (l.drop (mantL l).2.2)).1, (mantL l).2.2 + (expL (l.drop (mantL l).2.2)).2)

theorem hasPrefix_one (l : List UInt8) (c : UInt8) : Lib.hasPrefix l [c] = (match l with | x :: _ => x == c | [] => false) := by
  cases l with
  | nil => rfl
  | cons x r =>
    show ([c].isPrefixOf (x :: r)) = (x == c)
    simp [List.isPrefixOf]
    exact BEq.comm
theorem at_list (q : ByteArray) (i : Nat) (h : i < q.size) (c : UInt8) (hl : q.data.toList[i]? = some c) : q[i]'h = c := by
  show q.data[i]'_ = c
  have h2 : i < q.data.size := h
  rw [Array.getElem?_toList, Array.getElem?_eq_getElem h2] at hl
  exact Option.some.inj hl
theorem ne_lit (c k : UInt8) (m : Int) (hm : (k.toNat : Int) = m) (h : c ≠ k) : ((c.toNat : Int) == m) = false :=
  beq_eq_false_iff_ne.2 fun h2 => h (UInt8.toNat_inj.1 (by omega))
theorem ret3 {a : ByteArray} {x y x' y' : Int} (hx : x = x') (hy : y = y') : Ending.returned (.tuple #[.string a, .int .i64 x, .int .i64 y]) = Ending.returned (.tuple #[.string a, .int .i64 x', .int .i64 y']) := by
  subst hx; subst hy; rfl
theorem signK_other (c c1 : UInt8) (r : List UInt8) (h1 : c1 ≠ 43) (h2 : c1 ≠ 45) : signK (c :: c1 :: r) = (1, false) := by
  unfold signK
  split
  · rename_i h; injection h with _ h; injection h with h _; exact absurd h h1
  · rename_i h; injection h with _ h; injection h with h _; exact absurd h h2
  · rfl
theorem mantL_dot {l r : List UInt8} (h : l.drop (lead l).length = 46 :: r) : mantL l = if 0 < (lead l).length + (lead r).length then (lead l ++ lead r, -((lead r).length : Int), (lead l).length + 1 + (lead r).length) else (lead l, 0, (lead l).length) := by
  unfold mantL; rw [h]; rfl
theorem mantL_plain {l : List UInt8} (h : ∀ r, l.drop (lead l).length ≠ 46 :: r) : mantL l = (lead l, 0, (lead l).length) := by
  unfold mantL
  split
  · rename_i r hr; exact absurd hr (h r)
  · rfl

set_option maxRecDepth 100000 in
set_option maxHeartbeats 8000000 in
theorem numeral_any (s : ByteArray) (w : World) (hs : s.size ≤ 140737488355328) :
    Calls Tryd.prog 41 #[.string s] w fun e w' => ∃ a : ByteArray, e = .returned (.tuple #[.string a, .int .i64 (numeralL s.data.toList).2.1, .int .i64 ((numeralL s.data.toList).2.2 : Nat)]) ∧ a.data.toList = (numeralL s.data.toList).1 ∧ Below w.heap.size w w' := by
  obtain ⟨A3, X3, Y3, hnum⟩ : ∃ A3 X3 Y3, numeralL s.data.toList = (A3, X3, Y3) := ⟨_, _, _, rfl⟩
  rw [hnum]
  simp only []
  have HNUM := Lib.hid hnum
  have HD0 := Lib.hid (fun W => digits_any s W hs)
  have hle := lead_le s.data.toList
  have hsz := size_list s
  obtain ⟨n, hn⟩ : ∃ n, n = (lead s.data.toList).length := ⟨_, rfl⟩
  rw [← hn] at HD0 hle
  obtain ⟨sz, hszd⟩ : ∃ z, z = s.size := ⟨_, rfl⟩
  have hsz1 : s.size = sz := hszd.symm
  have hns : n ≤ sz := by omega
  have hsz2 : sz ≤ 140737488355328 := by omega
  have HSL : Hid (s.data.toList.length = sz) := by show _ = _; omega
  have HT0 : Hid ((s.extract 0 n).data.toList = lead s.data.toList) := by show _ = _; rw [ext_list, Nat.sub_zero, List.drop_zero, hn, lead_take]
  have hTn : ∀ i, n ≤ i → Hid ((s.extract i sz).data.toList = s.data.toList.drop i) := by
    intro i hi
    show _ = _
    rw [ext_list]
    exact List.take_of_length_le (by rw [List.length_drop, HSL.out]; omega)
  have HP0 : Hid (∀ W, Calls Tryd.prog 27 #[.string (s.extract n sz), .string ⟨#[46]⟩] W fun e w' => e = .returned (.bool (Lib.hasPrefix (s.data.toList.drop n) [46])) ∧ w' = W) := by
    intro W
    have h := Tryd.strings_HasPrefix (s.extract n sz) ⟨#[46]⟩ W
    rw [(hTn n (Nat.le_refl _)).out] at h
    exact h
  have hcase : (∃ r, s.data.toList.drop n = 46 :: r ∧ 0 < n + (lead r).length) ∨ (∃ r, s.data.toList.drop n = 46 :: r ∧ ¬ 0 < n + (lead r).length) ∨ (∀ r, s.data.toList.drop n ≠ 46 :: r) := by
    cases h : s.data.toList.drop n with
    | nil => exact .inr (.inr fun r h2 => by cases h2)
    | cons c r =>
      by_cases hc : c = 46
      · subst hc
        by_cases h0 : 0 < n + (lead r).length
        · exact .inl ⟨r, rfl, h0⟩
        · exact .inr (.inl ⟨r, rfl, h0⟩)
      · exact .inr (.inr fun r' h2 => hc (by injection h2))
  have hnl : n = (lead s.data.toList).length := hn
  have HNL := Lib.hid hnl
  clear hn hle hsz hszd hs hnl hnum
  go_enter Tryd.func41, Tryd.ntmps41
  go_wp2_with fail
  refine (HD0.out w).mono ?_
  rintro e w1 ⟨rfl, hb1⟩
  have HB1 := Lib.hid hb1
  have hs1 := hb1.size
  clear hb1 HD0
  go_wp2_with fail
  refine (HP0.out w1).mono ?_
  rintro e w5 ⟨rfl, rfl⟩
  clear HP0
  rcases hcase with ⟨r, hr, h0⟩ | ⟨r, hr, h0⟩ | hr
  case' inl =>
    obtain ⟨k, hk⟩ : ∃ k, k = (lead r).length := ⟨_, rfl⟩
    rw [← hk] at h0
    have hE1 : (s.extract (n + 1) sz).data.toList = r := by
      rw [(hTn (n + 1) (by omega)).out, ← List.drop_drop, hr]; rfl
    have hrl : r.length + 1 + n = sz := by
      have h := congrArg List.length hr
      rw [List.length_drop, HSL.out] at h
      simp at h
      omega
    have hkr : k ≤ r.length := by rw [hk]; exact lead_le r
    have hes : (s.extract (n + 1) sz).size ≤ 140737488355328 := by rw [size_list, hE1]; omega
    have HDG := Lib.hid (fun W => digits_any (s.extract (n + 1) sz) W hes)
    rw [hE1, ← hk] at HDG
    have hpre : Lib.hasPrefix (s.data.toList.drop n) [46] = true := by rw [hr, hasPrefix_one]; rfl
    obtain ⟨p, hp⟩ : ∃ p, p = n + 1 + k := ⟨_, rfl⟩
    have hpk : p - (n + 1) = k := by omega
    obtain ⟨a, ha⟩ : ∃ a, a = s.extract 0 n ++ s.extract (n + 1) p := ⟨_, rfl⟩
    have hae0 : s.extract 0 n ++ s.extract (n + 1) p = a := ha.symm
    obtain ⟨A, hAd⟩ : ∃ A, A = lead s.data.toList ++ lead r := ⟨_, rfl⟩
    have HA : Hid (a.data.toList = A) := by
      show _ = _
      rw [ha, ByteArray.data_append, Array.toList_append, HT0.out, ext_list, hpk, ← List.drop_drop, hr, hAd, hk]
      congr 1
      exact lead_take r
    have ep : (n : Int) + 1 + k = (p : Int) := by omega
    obtain ⟨ex, hex⟩ : ∃ ex : Int, ex = -(k : Int) := ⟨_, rfl⟩
    have eex : -(k : Int) = ex := hex.symm
    have hexb : -140737488355328 ≤ ex ∧ ex ≤ 0 := by omega
    have hps : p ≤ sz := by omega
    have HM : Hid (mantL s.data.toList = (A, ex, p)) := by
      show _ = _
      have h := mantL_dot (l := s.data.toList) (r := r) (by rw [← HNL.out]; exact hr)
      rw [← HNL.out, ← hk, if_pos h0, ← hAd, ← hex, ← hp] at h
      exact h
    have h0' : 0 < (n : Int) + (k : Int) := by omega
    rw [hpre]
    clear hr hk hE1 hrl hes hpre ha hAd hTn HT0 HNL h0 hex hpk
    have hpn : p = n + 1 + k := hp
    have hpn1 : n + 1 ≤ p := by omega
    clear hp hpn
    go_wp2_with fail
    refine (HDG.out w5).mono ?_
    rintro e w2 ⟨rfl, hb2⟩
    have HB2 := Lib.hid (HB1.out.trans (hb2.mono hs1))
    have hs2 : w.heap.size ≤ w2.heap.size := by have := hb2.size; omega
    clear hb2 HDG HB1
  case' inr.inl =>
    have hn0 : n = 0 := by omega
    have hk : (lead r).length = 0 := by omega
    have hE1 : (s.extract (n + 1) sz).data.toList = r := by
      rw [(hTn (n + 1) (by omega)).out, ← List.drop_drop, hr]; rfl
    have hrl : r.length + 1 + n = sz := by
      have h := congrArg List.length hr
      rw [List.length_drop, HSL.out] at h
      simp at h
      omega
    have hes : (s.extract (n + 1) sz).size ≤ 140737488355328 := by rw [size_list, hE1]; omega
    have HDG := Lib.hid (fun W => digits_any (s.extract (n + 1) sz) W hes)
    rw [hE1, hk] at HDG
    have HDG : Hid (∀ W, Calls Tryd.prog 47 #[.string (s.extract (n + 1) sz)] W fun e w' => e = .returned (.int .i64 0) ∧ Below W.heap.size W w') := HDG.out
    have hpre : Lib.hasPrefix (s.data.toList.drop n) [46] = true := by rw [hr, hasPrefix_one]; rfl
    obtain ⟨a, ha⟩ : ∃ a, a = s.extract 0 n := ⟨_, rfl⟩
    obtain ⟨A, hAd⟩ : ∃ A, A = lead s.data.toList := ⟨_, rfl⟩
    have HA : Hid (a.data.toList = A) := by
      show _ = _
      rw [ha, HT0.out, hAd]
    obtain ⟨ex, hex⟩ : ∃ ex : Int, ex = 0 := ⟨_, rfl⟩
    have hexb : -140737488355328 ≤ ex ∧ ex ≤ 0 := by omega
    have HM : Hid (mantL s.data.toList = (A, ex, n)) := by
      show _ = _
      have h := mantL_dot (l := s.data.toList) (r := r) (by rw [← HNL.out]; exact hr)
      rw [← HNL.out, if_neg h0, ← hAd, ← hex] at h
      exact h
    have h0' : ¬ 0 < (n : Int) := by omega
    have hn1sz : n + 1 ≤ sz := by omega
    rw [hpre, ← ha]
    clear hr hk hE1 hrl hes hpre ha hAd hTn HT0 HNL h0 hn0
    obtain ⟨p, rfl⟩ : ∃ p, p = n := ⟨_, rfl⟩
    have hps : p ≤ sz := hns
    go_wp2_with fail
    refine (HDG.out w5).mono ?_
    rintro e w2 ⟨rfl, hb2⟩
    have HB2 := Lib.hid (HB1.out.trans (hb2.mono hs1))
    have hs2 : w.heap.size ≤ w2.heap.size := by have := hb2.size; omega
    clear hb2 HDG HB1
  case' inr.inr =>
    have hpre : Lib.hasPrefix (s.data.toList.drop n) [46] = false := by
      rw [hasPrefix_one]
      cases h : s.data.toList.drop n with
      | nil => rfl
      | cons x t => exact beq_eq_false_iff_ne.2 fun h2 => hr t (by rw [h, h2])
    obtain ⟨a, ha⟩ : ∃ a, a = s.extract 0 n := ⟨_, rfl⟩
    obtain ⟨A, hAd⟩ : ∃ A, A = lead s.data.toList := ⟨_, rfl⟩
    have HA : Hid (a.data.toList = A) := by
      show _ = _
      rw [ha, HT0.out, hAd]
    obtain ⟨ex, hex⟩ : ∃ ex : Int, ex = 0 := ⟨_, rfl⟩
    have hexb : -140737488355328 ≤ ex ∧ ex ≤ 0 := by omega
    have HM : Hid (mantL s.data.toList = (A, ex, n)) := by
      show _ = _
      have h := mantL_plain (l := s.data.toList) (by rw [← HNL.out]; exact hr)
      rw [← HNL.out, ← hAd, ← hex] at h
      exact h
    rw [hpre, ← ha]
    clear hr hpre ha hAd hTn HT0 HNL
    obtain ⟨p, rfl⟩ : ∃ p, p = n := ⟨_, rfl⟩
    have hps : p ≤ sz := hns
    obtain ⟨w2, rfl⟩ : ∃ w2 : World, w2 = w5 := ⟨_, rfl⟩
    have HB2 := HB1
    have hs2 := hs1
    clear HB1 hs1
  all_goals
    by_cases hA0 : A = []
    · have hae : a.toList.isEmpty = true := by rw [ByteArray.toList_eq, HA.out, hA0]; rfl
      have h := HNUM.out
      unfold numeralL at h
      rw [HM.out] at h
      simp only at h
      rw [if_pos hA0] at h
      obtain ⟨h1, h2⟩ := Prod.mk.inj h
      obtain ⟨h3, h4⟩ := Prod.mk.inj h2
      have HAR : Hid ((⟨#[]⟩ : ByteArray).data.toList = A3) := by show _ = _; rw [← h1]
      have HX1 := Lib.hid h3
      have HX2 := Lib.hid h4
      clear h h1 h2 h3 h4 HNUM HM hA0 HA
      go_wp2_with fail
      go_ret3
      have hx1 := HX1.out
      have hx2 := HX2.out
      exact ⟨_, ret3 (by omega) (by omega), HAR.out, HB2.out⟩
    · have hae : a.toList.isEmpty = false := by rw [ByteArray.toList_eq, HA.out]; simpa using hA0
      have h := HNUM.out
      unfold numeralL at h
      rw [HM.out] at h
      simp only at h
      rw [if_neg hA0] at h
      obtain ⟨h1, h2⟩ := Prod.mk.inj h
      obtain ⟨h3, h4⟩ := Prod.mk.inj h2
      have HAR : Hid (a.data.toList = A3) := by show _ = _; rw [HA.out, h1]
      obtain ⟨Q, hQ⟩ : ∃ Q, Q = s.data.toList.drop p := ⟨_, rfl⟩
      rw [← hQ] at h3 h4
      have HX : Hid (X3 = ex + (expL Q).1 ∧ Y3 = p + (expL Q).2) := ⟨h3.symm, h4.symm⟩
      obtain ⟨q, hq⟩ : ∃ q, q = s.extract p sz := ⟨_, rfl⟩
      have hqe : s.extract p sz = q := hq.symm
      have HQ : Hid (q.data.toList = Q) := by
        show _ = _
        rw [hq, ext_list, hQ]
        exact List.take_of_length_le (by rw [List.length_drop, HSL.out]; omega)
      obtain ⟨qz, hqz⟩ : ∃ z, z = q.size := ⟨_, rfl⟩
      have hqz1 : q.size = qz := hqz.symm
      have HQL : Hid (Q.length = qz) := by show _ = _; rw [hqz, size_list, HQ.out]
      have hqp : qz + p = sz := by
        have h := HQL.out
        rw [hQ, List.length_drop, HSL.out] at h
        omega
      clear h h1 h2 h3 h4 HNUM HM hA0 HA hQ hq hqz
      rcases hQc : Q with _ | ⟨c, r⟩
      · have hqe0 : q.toList.isEmpty = true := by rw [ByteArray.toList_eq, HQ.out, hQc]; rfl
        have hX := HX.out
        rw [hQc] at hX
        obtain ⟨hx1, hx2⟩ := hX
        have HBB := HB2
        clear HX HQ HQL hQc
        simp only [expL] at hx1 hx2
        have HX1 := Lib.hid hx1
        have HX2 := Lib.hid hx2
        clear hx1 hx2
        go_wp2_with fail
        go_ret3
        have hx1 := HX1.out
        have hx2 := HX2.out
        exact ⟨_, ret3 (by omega) (by omega), HAR.out, HBB.out⟩
      · have hqe0 : q.toList.isEmpty = false := by rw [ByteArray.toList_eq, HQ.out, hQc]; rfl
        have hqz0 : 0 < qz := by have h := HQL.out; rw [hQc] at h; simp at h; omega
        have hqs0 : 0 < q.size := by omega
        have hq0 : q[0]'hqs0 = c := at_list q 0 hqs0 c (by rw [HQ.out, hQc]; rfl)
        have HQC : Hid (Q = c :: r) := hQc
        by_cases hce : c = 101 ∨ c = 69
        · have hc1 : (((q[0]'hqs0).toNat : Int) == 101) = true ∨ (((q[0]'hqs0).toNat : Int) == 101) = false ∧ (((q[0]'hqs0).toNat : Int) == 69) = true := by
            rw [hq0]
            rcases hce with h | h
            · left; rw [h]; decide
            · right; rw [h]; decide
          clear hq0 hqe0
          have hqe0 : q.toList.isEmpty = false := by rw [ByteArray.toList_eq, HQ.out, hQc]; rfl
          rcases hr : r with _ | ⟨c1, r1⟩
          · have HSK : Hid (signK Q = (1, false)) := by show _ = _; rw [hQc, hr]; rfl
            have hqz1' : qz = 1 := by have h := HQL.out; rw [hQc, hr] at h; simp at h; omega
            have hnot : ¬ 1 < (qz : Int) := by omega
            clear hQc hr hqz1'
            rcases hc1 with h101 | ⟨h101, h69⟩
            all_goals
              have hQk : Hid ((q.extract 1 qz).data.toList = Q.drop 1) := by
                show _ = _
                rw [ext_list, HQ.out]
                exact List.take_of_length_le (by rw [List.length_drop, HQL.out]; omega)
              have hqk : (q.extract 1 qz).size ≤ 140737488355328 := by
                rw [size_list, hQk.out, List.length_drop, HQL.out]; omega
              have HDG := Lib.hid (fun W => digits_any (q.extract 1 qz) W hqk)
              rw [hQk.out] at HDG
              have hml := lead_le (Q.drop 1)
              rw [List.length_drop, HQL.out] at hml
              have HEX : Hid (expL Q = if 0 < (lead (Q.drop 1)).length then (powL (lead (Q.drop 1)) false, 1 + (lead (Q.drop 1)).length) else (0, 0)) := by
                show _ = _
                unfold expL
                rw [HQC.out]
                simp only []
                rw [if_pos hce, ← HQC.out, HSK.out]
              have hqm : Hid ((q.extract 1 (1 + (lead (Q.drop 1)).length)).data.toList = lead (Q.drop 1)) := by
                show _ = _
                rw [ext_list, HQ.out, Nat.add_sub_cancel_left, lead_take]
              have hpl : -100000 ≤ powL (lead (Q.drop 1)) false ∧ powL (lead (Q.drop 1)) false ≤ 100000 := by
                have := powN_le (lead (Q.drop 1))
                unfold powL
                split <;> omega
              have HPW := Lib.hid (fun W h => power_any (q.extract 1 (1 + (lead (Q.drop 1)).length)) false W (by rw [hqm.out]; exact lead_digits _) h)
              rw [hqm.out] at HPW
              have HPS : Hid ((q.extract 1 (1 + (lead (Q.drop 1)).length)).size ≤ 140737488355328) := by
                show _ ≤ _
                rw [size_list, hqm.out]; omega
              generalize lead (Q.drop 1) = D at *
              generalize hm : D.length = m at *
              generalize powL D false = P at *
              have hq2 : 1 ≤ qz := by omega
              clear hQk hqk hqm hce
              go_wp2_with fail
              refine (HDG.out _).mono ?_
              rintro e w3 ⟨rfl, hb3⟩
              have HBB := Lib.hid (show Below w.heap.size w w3 by first | exact HB2.out.trans (hb3.mono hs2) | exact HB2.out.drew.trans (hb3.mono hs2))
              have hs3 : w2.heap.size ≤ w3.heap.size := hb3.size
              clear hb3 HDG HB2
              by_cases hm0 : 0 < m
              · have hX := HX.out
                rw [HEX.out, if_pos hm0] at hX
                obtain ⟨hx1, hx2⟩ := hX
                simp only at hx1 hx2
                have HX1 := Lib.hid hx1
                have HX2 := Lib.hid hx2
                clear HEX HX hx1 hx2
                have hm0' : 0 < (m : Int) := by omega
                have hkm : 1 + m ≤ qz := by omega
                go_wp2_with fail
                refine (HPW.out w3 HPS.out).mono ?_
                rintro e w4 ⟨rfl, hb4⟩
                have HBC := Lib.hid (HBB.out.trans (hb4.mono (by omega)))
                clear hb4 HPW HBB
                have HBB := HBC
                have hx1 := HX1.out
                have hx2 := HX2.out
                have HX1 := Lib.hid hx1
                have HX2 := Lib.hid hx2
                clear hx1 hx2
                go_wp2_with fail
                go_ret3
                have hx1 := HX1.out
                have hx2 := HX2.out
                exact ⟨_, ret3 (by omega) (by omega), HAR.out, HBB.out⟩
              · have hX := HX.out
                rw [HEX.out, if_neg hm0] at hX
                obtain ⟨hx1, hx2⟩ := hX
                clear HEX HX
                have hm0' : ¬ 0 < (m : Int) := by omega
                simp only at hx1 hx2
                have HX1 := Lib.hid hx1
                have HX2 := Lib.hid hx2
                clear hx1 hx2
                go_wp2_with fail
                go_ret3
                have hx1 := HX1.out
                have hx2 := HX2.out
                exact ⟨_, ret3 (by omega) (by omega), HAR.out, HBB.out⟩
          · have hqs1 : 1 < q.size := by have h := HQL.out; rw [hQc, hr] at h; simp at h; omega
            have hlt : 1 < (qz : Int) := by omega
            have hq1 : q[1]'hqs1 = c1 := at_list q 1 hqs1 c1 (by rw [HQ.out, hQc, hr]; rfl)
            by_cases h43 : c1 = 43
            · have HSK : Hid (signK Q = (2, false)) := by show _ = _; rw [hQc, hr, h43]; rfl
              have ht1 : (((q[1]'hqs1).toNat : Int) == 43) = true := by rw [hq1, h43]; decide
              have ht2 : (((q[1]'hqs1).toNat : Int) == 45) = false := by rw [hq1, h43]; decide
              clear hQc hr hq1
              rcases hc1 with h101 | ⟨h101, h69⟩
              all_goals
                go_wp2_with fail
                go_region
                have hQk : Hid ((q.extract 2 qz).data.toList = Q.drop 2) := by
                  show _ = _
                  rw [ext_list, HQ.out]
                  exact List.take_of_length_le (by rw [List.length_drop, HQL.out]; omega)
                have hqk : (q.extract 2 qz).size ≤ 140737488355328 := by
                  rw [size_list, hQk.out, List.length_drop, HQL.out]; omega
                have HDG := Lib.hid (fun W => digits_any (q.extract 2 qz) W hqk)
                rw [hQk.out] at HDG
                have hml := lead_le (Q.drop 2)
                rw [List.length_drop, HQL.out] at hml
                have HEX : Hid (expL Q = if 0 < (lead (Q.drop 2)).length then (powL (lead (Q.drop 2)) false, 2 + (lead (Q.drop 2)).length) else (0, 0)) := by
                  show _ = _
                  unfold expL
                  rw [HQC.out]
                  simp only []
                  rw [if_pos hce, ← HQC.out, HSK.out]
                have hqm : Hid ((q.extract 2 (2 + (lead (Q.drop 2)).length)).data.toList = lead (Q.drop 2)) := by
                  show _ = _
                  rw [ext_list, HQ.out, Nat.add_sub_cancel_left, lead_take]
                have hpl : -100000 ≤ powL (lead (Q.drop 2)) false ∧ powL (lead (Q.drop 2)) false ≤ 100000 := by
                  have := powN_le (lead (Q.drop 2))
                  unfold powL
                  split <;> omega
                have HPW := Lib.hid (fun W h => power_any (q.extract 2 (2 + (lead (Q.drop 2)).length)) false W (by rw [hqm.out]; exact lead_digits _) h)
                rw [hqm.out] at HPW
                have HPS : Hid ((q.extract 2 (2 + (lead (Q.drop 2)).length)).size ≤ 140737488355328) := by
                  show _ ≤ _
                  rw [size_list, hqm.out]; omega
                generalize lead (Q.drop 2) = D at *
                generalize hm : D.length = m at *
                generalize powL D false = P at *
                have hq2 : 2 ≤ qz := by omega
                clear hQk hqk hqm hce
                go_wp2_with fail
                refine (HDG.out _).mono ?_
                rintro e w3 ⟨rfl, hb3⟩
                have HBB := Lib.hid (show Below w.heap.size w w3 by first | exact HB2.out.trans (hb3.mono hs2) | exact HB2.out.drew.trans (hb3.mono hs2))
                have hs3 : w2.heap.size ≤ w3.heap.size := hb3.size
                clear hb3 HDG HB2
                by_cases hm0 : 0 < m
                · have hX := HX.out
                  rw [HEX.out, if_pos hm0] at hX
                  obtain ⟨hx1, hx2⟩ := hX
                  simp only at hx1 hx2
                  have HX1 := Lib.hid hx1
                  have HX2 := Lib.hid hx2
                  clear HEX HX hx1 hx2
                  have hm0' : 0 < (m : Int) := by omega
                  have hkm : 2 + m ≤ qz := by omega
                  go_wp2_with fail
                  refine (HPW.out w3 HPS.out).mono ?_
                  rintro e w4 ⟨rfl, hb4⟩
                  have HBC := Lib.hid (HBB.out.trans (hb4.mono (by omega)))
                  clear hb4 HPW HBB
                  have HBB := HBC
                  have hx1 := HX1.out
                  have hx2 := HX2.out
                  have HX1 := Lib.hid hx1
                  have HX2 := Lib.hid hx2
                  clear hx1 hx2
                  go_wp2_with fail
                  go_ret3
                  have hx1 := HX1.out
                  have hx2 := HX2.out
                  exact ⟨_, ret3 (by omega) (by omega), HAR.out, HBB.out⟩
                · have hX := HX.out
                  rw [HEX.out, if_neg hm0] at hX
                  obtain ⟨hx1, hx2⟩ := hX
                  clear HEX HX
                  have hm0' : ¬ 0 < (m : Int) := by omega
                  simp only at hx1 hx2
                  have HX1 := Lib.hid hx1
                  have HX2 := Lib.hid hx2
                  clear hx1 hx2
                  go_wp2_with fail
                  go_ret3
                  have hx1 := HX1.out
                  have hx2 := HX2.out
                  exact ⟨_, ret3 (by omega) (by omega), HAR.out, HBB.out⟩
            · by_cases h45 : c1 = 45
              · have HSK : Hid (signK Q = (2, true)) := by show _ = _; rw [hQc, hr, h45]; rfl
                have ht1 : (((q[1]'hqs1).toNat : Int) == 43) = false := by rw [hq1, h45]; decide
                have ht2 : (((q[1]'hqs1).toNat : Int) == 45) = true := by rw [hq1, h45]; decide
                clear hQc hr hq1
                rcases hc1 with h101 | ⟨h101, h69⟩
                all_goals
                  go_wp2_with fail
                  go_region
                  have hQk : Hid ((q.extract 2 qz).data.toList = Q.drop 2) := by
                    show _ = _
                    rw [ext_list, HQ.out]
                    exact List.take_of_length_le (by rw [List.length_drop, HQL.out]; omega)
                  have hqk : (q.extract 2 qz).size ≤ 140737488355328 := by
                    rw [size_list, hQk.out, List.length_drop, HQL.out]; omega
                  have HDG := Lib.hid (fun W => digits_any (q.extract 2 qz) W hqk)
                  rw [hQk.out] at HDG
                  have hml := lead_le (Q.drop 2)
                  rw [List.length_drop, HQL.out] at hml
                  have HEX : Hid (expL Q = if 0 < (lead (Q.drop 2)).length then (powL (lead (Q.drop 2)) true, 2 + (lead (Q.drop 2)).length) else (0, 0)) := by
                    show _ = _
                    unfold expL
                    rw [HQC.out]
                    simp only []
                    rw [if_pos hce, ← HQC.out, HSK.out]
                  have hqm : Hid ((q.extract 2 (2 + (lead (Q.drop 2)).length)).data.toList = lead (Q.drop 2)) := by
                    show _ = _
                    rw [ext_list, HQ.out, Nat.add_sub_cancel_left, lead_take]
                  have hpl : -100000 ≤ powL (lead (Q.drop 2)) true ∧ powL (lead (Q.drop 2)) true ≤ 100000 := by
                    have := powN_le (lead (Q.drop 2))
                    unfold powL
                    split <;> omega
                  have HPW := Lib.hid (fun W h => power_any (q.extract 2 (2 + (lead (Q.drop 2)).length)) true W (by rw [hqm.out]; exact lead_digits _) h)
                  rw [hqm.out] at HPW
                  have HPS : Hid ((q.extract 2 (2 + (lead (Q.drop 2)).length)).size ≤ 140737488355328) := by
                    show _ ≤ _
                    rw [size_list, hqm.out]; omega
                  generalize lead (Q.drop 2) = D at *
                  generalize hm : D.length = m at *
                  generalize powL D true = P at *
                  have hq2 : 2 ≤ qz := by omega
                  clear hQk hqk hqm hce
                  go_wp2_with fail
                  refine (HDG.out _).mono ?_
                  rintro e w3 ⟨rfl, hb3⟩
                  have HBB := Lib.hid (show Below w.heap.size w w3 by first | exact HB2.out.trans (hb3.mono hs2) | exact HB2.out.drew.trans (hb3.mono hs2))
                  have hs3 : w2.heap.size ≤ w3.heap.size := hb3.size
                  clear hb3 HDG HB2
                  by_cases hm0 : 0 < m
                  · have hX := HX.out
                    rw [HEX.out, if_pos hm0] at hX
                    obtain ⟨hx1, hx2⟩ := hX
                    simp only at hx1 hx2
                    have HX1 := Lib.hid hx1
                    have HX2 := Lib.hid hx2
                    clear HEX HX hx1 hx2
                    have hm0' : 0 < (m : Int) := by omega
                    have hkm : 2 + m ≤ qz := by omega
                    go_wp2_with fail
                    refine (HPW.out w3 HPS.out).mono ?_
                    rintro e w4 ⟨rfl, hb4⟩
                    have HBC := Lib.hid (HBB.out.trans (hb4.mono (by omega)))
                    clear hb4 HPW HBB
                    have HBB := HBC
                    have hx1 := HX1.out
                    have hx2 := HX2.out
                    have HX1 := Lib.hid hx1
                    have HX2 := Lib.hid hx2
                    clear hx1 hx2
                    go_wp2_with fail
                    go_ret3
                    have hx1 := HX1.out
                    have hx2 := HX2.out
                    exact ⟨_, ret3 (by omega) (by omega), HAR.out, HBB.out⟩
                  · have hX := HX.out
                    rw [HEX.out, if_neg hm0] at hX
                    obtain ⟨hx1, hx2⟩ := hX
                    clear HEX HX
                    have hm0' : ¬ 0 < (m : Int) := by omega
                    simp only at hx1 hx2
                    have HX1 := Lib.hid hx1
                    have HX2 := Lib.hid hx2
                    clear hx1 hx2
                    go_wp2_with fail
                    go_ret3
                    have hx1 := HX1.out
                    have hx2 := HX2.out
                    exact ⟨_, ret3 (by omega) (by omega), HAR.out, HBB.out⟩
              · have HSK : Hid (signK Q = (1, false)) := by
                  show _ = _
                  rw [hQc, hr]
                  exact signK_other c c1 r1 h43 h45
                have ht1 : (((q[1]'hqs1).toNat : Int) == 43) = false := by rw [hq1]; exact ne_lit c1 43 43 (by decide) h43
                have ht2 : (((q[1]'hqs1).toNat : Int) == 45) = false := by rw [hq1]; exact ne_lit c1 45 45 (by decide) h45
                clear hQc hr hq1
                rcases hc1 with h101 | ⟨h101, h69⟩
                all_goals
                  have hQk : Hid ((q.extract 1 qz).data.toList = Q.drop 1) := by
                    show _ = _
                    rw [ext_list, HQ.out]
                    exact List.take_of_length_le (by rw [List.length_drop, HQL.out]; omega)
                  have hqk : (q.extract 1 qz).size ≤ 140737488355328 := by
                    rw [size_list, hQk.out, List.length_drop, HQL.out]; omega
                  have HDG := Lib.hid (fun W => digits_any (q.extract 1 qz) W hqk)
                  rw [hQk.out] at HDG
                  have hml := lead_le (Q.drop 1)
                  rw [List.length_drop, HQL.out] at hml
                  have HEX : Hid (expL Q = if 0 < (lead (Q.drop 1)).length then (powL (lead (Q.drop 1)) false, 1 + (lead (Q.drop 1)).length) else (0, 0)) := by
                    show _ = _
                    unfold expL
                    rw [HQC.out]
                    simp only []
                    rw [if_pos hce, ← HQC.out, HSK.out]
                  have hqm : Hid ((q.extract 1 (1 + (lead (Q.drop 1)).length)).data.toList = lead (Q.drop 1)) := by
                    show _ = _
                    rw [ext_list, HQ.out, Nat.add_sub_cancel_left, lead_take]
                  have hpl : -100000 ≤ powL (lead (Q.drop 1)) false ∧ powL (lead (Q.drop 1)) false ≤ 100000 := by
                    have := powN_le (lead (Q.drop 1))
                    unfold powL
                    split <;> omega
                  have HPW := Lib.hid (fun W h => power_any (q.extract 1 (1 + (lead (Q.drop 1)).length)) false W (by rw [hqm.out]; exact lead_digits _) h)
                  rw [hqm.out] at HPW
                  have HPS : Hid ((q.extract 1 (1 + (lead (Q.drop 1)).length)).size ≤ 140737488355328) := by
                    show _ ≤ _
                    rw [size_list, hqm.out]; omega
                  generalize lead (Q.drop 1) = D at *
                  generalize hm : D.length = m at *
                  generalize powL D false = P at *
                  have hq2 : 1 ≤ qz := by omega
                  clear hQk hqk hqm hce
                  go_wp2_with fail
                  refine (HDG.out _).mono ?_
                  rintro e w3 ⟨rfl, hb3⟩
                  have HBB := Lib.hid (show Below w.heap.size w w3 by first | exact HB2.out.trans (hb3.mono hs2) | exact HB2.out.drew.trans (hb3.mono hs2))
                  have hs3 : w2.heap.size ≤ w3.heap.size := hb3.size
                  clear hb3 HDG HB2
                  by_cases hm0 : 0 < m
                  · have hX := HX.out
                    rw [HEX.out, if_pos hm0] at hX
                    obtain ⟨hx1, hx2⟩ := hX
                    simp only at hx1 hx2
                    have HX1 := Lib.hid hx1
                    have HX2 := Lib.hid hx2
                    clear HEX HX hx1 hx2
                    have hm0' : 0 < (m : Int) := by omega
                    have hkm : 1 + m ≤ qz := by omega
                    go_wp2_with fail
                    refine (HPW.out w3 HPS.out).mono ?_
                    rintro e w4 ⟨rfl, hb4⟩
                    have HBC := Lib.hid (HBB.out.trans (hb4.mono (by omega)))
                    clear hb4 HPW HBB
                    have HBB := HBC
                    have hx1 := HX1.out
                    have hx2 := HX2.out
                    have HX1 := Lib.hid hx1
                    have HX2 := Lib.hid hx2
                    clear hx1 hx2
                    go_wp2_with fail
                    go_ret3
                    have hx1 := HX1.out
                    have hx2 := HX2.out
                    exact ⟨_, ret3 (by omega) (by omega), HAR.out, HBB.out⟩
                  · have hX := HX.out
                    rw [HEX.out, if_neg hm0] at hX
                    obtain ⟨hx1, hx2⟩ := hX
                    clear HEX HX
                    have hm0' : ¬ 0 < (m : Int) := by omega
                    simp only at hx1 hx2
                    have HX1 := Lib.hid hx1
                    have HX2 := Lib.hid hx2
                    clear hx1 hx2
                    go_wp2_with fail
                    go_ret3
                    have hx1 := HX1.out
                    have hx2 := HX2.out
                    exact ⟨_, ret3 (by omega) (by omega), HAR.out, HBB.out⟩
        · have hx := HX.out
          have hex : expL Q = (0, 0) := by rw [hQc]; unfold expL; simp only []; rw [if_neg hce]
          rw [hex] at hx
          obtain ⟨hx1, hx2⟩ := hx
          have h101 : (((q[0]'hqs0).toNat : Int) == 101) = false := by rw [hq0]; exact ne_lit c 101 101 (by decide) fun h => hce (.inl h)
          have h69 : (((q[0]'hqs0).toNat : Int) == 69) = false := by rw [hq0]; exact ne_lit c 69 69 (by decide) fun h => hce (.inr h)
          have HBB := HB2
          clear HX hex hq0 hQc HQC
          simp only at hx1 hx2
          have HX1 := Lib.hid hx1
          have HX2 := Lib.hid hx2
          clear hx1 hx2
          go_wp2_with fail
          go_ret3
          have hx1 := HX1.out
          have hx2 := HX2.out
          exact ⟨_, ret3 (by omega) (by omega), HAR.out, HBB.out⟩
end Go.Proofs.YtkaelmbgfcehhaaDoor
end

section
/- Package lex: first, letter, see, name. -/
namespace Go.Proofs.YtkaelmbgfcehhaaDoor
open Go.RowKit
set_option linter.unusedVariables false
set_option linter.unusedSimpArgs false

theorem _root_.Go.RowKit.Below.drewN' {B : Nat} (w : World) (n : Nat) : Below B w (w.drewN n) := (Below.refl B w).drewN n
section
variable {w w' : World} {D b : Nat} {s : ByteArray} {p l : Nat} {v : Value} {L : List TokT}
theorem Sc.drewN (h : Sc w D b s p l v L) (n : Nat) : Sc (w.drewN n) D b s p l v L := h.below ((Below.refl _ _).drewN n)
end
theorem quiet_add {P : Program} {f : FuncId} {args : Array Value} {w : World} {n m : Nat} {v : Value}
    (h : Calls P f args (w.drewN (n + m)) fun e w' => e = .returned v ∧ w' = w.drewN (n + m)) : Calls P f args (w.drewN (n + m)) fun e w'' => e = .returned v ∧ ∃ k, w'' = w.drewN (n + k) :=
  h.mono fun _ _ ⟨he, hm⟩ => ⟨he, m, hm⟩
theorem wrapN (q : Nat) (h : q ≤ 1000000000000) : IntKind.i64.wrap (q : Int) = (q : Int) := by
  rw [IntKind.wrap_i64]
  omega
theorem ext_drop (s : ByteArray) (p : Nat) : (s.extract p s.size).data.toList = s.data.toList.drop p := by
  rw [ByteArray.data_extract, Array.toList_extract, List.extract_eq_take_drop]
  have : s.size - p = (s.data.toList.drop p).length := by simp
  rw [this, List.take_length]
theorem ext_take (s : ByteArray) (p n : Nat) : (s.extract p (p + n)).data.toList = (s.data.toList.drop p).take n := by
  rw [ByteArray.data_extract, Array.toList_extract, List.extract_eq_take_drop, Nat.add_sub_cancel_left]
theorem ext_bs (s : ByteArray) (p n : Nat) : s.extract p (p + n) = bs ((s.data.toList.drop p).take n) := by
  apply ByteArray.ext
  apply Array.toList_inj.1
  rw [ext_take]
  rfl
theorem drop_byte {s : ByteArray} {p : Nat} (hp : p < s.size) : s.data.toList.drop p = s[p] :: s.data.toList.drop (p + 1) := by
  have hl : p < s.data.toList.length := by rw [← size_list]; exact hp
  rw [List.drop_eq_getElem_cons hl]
  congr 1
theorem first_or : ∀ n : Fin 256, firstC (UInt8.ofNat n.val) = (n.val == 95 || (decide (97 ≤ n.val ||| 32) && decide (n.val ||| 32 ≤ 122))) := by decide +kernel
theorem first_nat (c : UInt8) : firstC c = (c.toNat == 95 || (decide (97 ≤ c.toNat ||| 32) && decide (c.toNat ||| 32 ≤ 122))) := by
  have h := first_or ⟨c.toNat, c.toNat_lt⟩
  simpa using h

set_option maxHeartbeats 4000000 in
theorem first_any (c : UInt8) (w : World) :
    Calls Tryd.prog 18 #[.int .u8 (c.toNat : Int)] w fun e w' => e = .returned (.bool (firstC c)) ∧ w' = w := by
  have hc : c.toNat < 256 := c.toNat_lt
  have hf := first_nat c
  have b1 := u8_or_nat c.toNat 32 hc (by decide)
  generalize c.toNat = n at *
  generalize firstC c = r at *
  obtain ⟨o, ho⟩ : ∃ o, o = n ||| 32 := ⟨_, rfl⟩
  rw [← ho] at hf b1
  have b2 : bits .or .u8 (n : Int) 32 = (o : Int) := b1
  clear b1 ho
  by_cases h1 : n = 95
  · have hI : (n : Int) = 95 := by omega
    have hr : r = true := by rw [hf, h1]; rfl
    subst hr h1
    clear hf
    go_enter Tryd.func18, Tryd.ntmps18
    go_wp2_with fail
    go_ret
    exact ⟨rfl, rfl⟩
  · have e0 : ((n : Int) == 95) = false := beq_eq_false_iff_ne.2 (by omega)
    have hz : (n == 95) = false := beq_eq_false_iff_ne.2 h1
    rw [hz, Bool.false_or] at hf
    by_cases h2 : 97 ≤ o
    · by_cases h3 : o ≤ 122
      · have a1 : decide ((97 : Int) ≤ (o : Int)) = true := decide_eq_true (by omega)
        have a2 : decide ((o : Int) ≤ 122) = true := decide_eq_true (by omega)
        rw [decide_eq_true h2, decide_eq_true h3] at hf
        subst hf
        clear h1 h2 h3 hz hc
        go_enter Tryd.func18, Tryd.ntmps18
        go_wp2_with fail
        go_ret
        refine ⟨?_, rfl⟩
        simp
      · have a1 : decide ((97 : Int) ≤ (o : Int)) = true := decide_eq_true (by omega)
        have a2 : decide ((o : Int) ≤ 122) = false := decide_eq_false (by omega)
        rw [decide_eq_true h2, decide_eq_false h3] at hf
        subst hf
        clear h1 h2 h3 hz hc
        go_enter Tryd.func18, Tryd.ntmps18
        go_wp2_with fail
        go_ret
        refine ⟨?_, rfl⟩
        simp
    · have a1 : decide ((97 : Int) ≤ (o : Int)) = false := decide_eq_false (by omega)
      rw [decide_eq_false h2, Bool.false_and] at hf
      subst hf
      clear h1 h2 hz hc
      go_enter Tryd.func18, Tryd.ntmps18
      go_wp2_with fail
      go_ret
      refine ⟨?_, rfl⟩
      simp

set_option maxHeartbeats 4000000 in
theorem letter_any (c : UInt8) (w : World) :
    Calls Tryd.prog 36 #[.int .u8 (c.toNat : Int)] w fun e w' => e = .returned (.bool (letterC c)) ∧ w' = w := by
  have HF := Lib.hid (first_any c w)
  have hl : letterC c = (firstC c || (decide (48 ≤ c.toNat) && decide (c.toNat ≤ 57))) := rfl
  generalize c.toNat = n at *
  generalize letterC c = r at *
  generalize firstC c = f at *
  cases f with
  | true =>
    rw [Bool.true_or] at hl
    subst hl
    go_enter Tryd.func36, Tryd.ntmps36
    go_wp2_with fail
    refine HF.out.mono ?_
    rintro e w1 ⟨rfl, rfl⟩
    go_wp2_with fail
    go_ret
    exact ⟨rfl, rfl⟩
  | false =>
    rw [Bool.false_or] at hl
    by_cases h2 : 48 ≤ n
    · by_cases h3 : n ≤ 57
      · have a1 : decide ((48 : Int) ≤ (n : Int)) = true := decide_eq_true (by omega)
        have a2 : decide ((n : Int) ≤ 57) = true := decide_eq_true (by omega)
        rw [decide_eq_true h2, decide_eq_true h3] at hl
        subst hl
        clear h2 h3
        go_enter Tryd.func36, Tryd.ntmps36
        go_wp2_with fail
        refine HF.out.mono ?_
        rintro e w1 ⟨rfl, rfl⟩
        go_wp2_with fail
        go_ret
        refine ⟨?_, rfl⟩
        simp
      · have a1 : decide ((48 : Int) ≤ (n : Int)) = true := decide_eq_true (by omega)
        have a2 : decide ((n : Int) ≤ 57) = false := decide_eq_false (by omega)
        rw [decide_eq_true h2, decide_eq_false h3] at hl
        subst hl
        clear h2 h3
        go_enter Tryd.func36, Tryd.ntmps36
        go_wp2_with fail
        refine HF.out.mono ?_
        rintro e w1 ⟨rfl, rfl⟩
        go_wp2_with fail
        go_ret
        refine ⟨?_, rfl⟩
        simp
    · have a1 : decide ((48 : Int) ≤ (n : Int)) = false := decide_eq_false (by omega)
      rw [decide_eq_false h2, Bool.false_and] at hl
      subst hl
      clear h2
      go_enter Tryd.func36, Tryd.ntmps36
      go_wp2_with fail
      refine HF.out.mono ?_
      rintro e w1 ⟨rfl, rfl⟩
      go_wp2_with fail
      go_ret
      refine ⟨?_, rfl⟩
      simp

set_option maxHeartbeats 4000000 in
theorem see_any (D b : Nat) (s t : ByteArray) (p l : Nat) (v : Value) (L : List TokT) (w : World) (h : Sc w D b s p l v L) (hp : p ≤ s.size) :
    Calls Tryd.prog 17 #[.pointer (some ⟨b, 0, none⟩), .string t] w fun e w' => e = .returned (.bool (Lib.hasPrefix (s.data.toList.drop p) t.data.toList)) ∧ Below w.heap.size w w' := by
  have HP := Lib.hid (fun W => Tryd.strings_HasPrefix (s.extract p s.size) t W)
  rw [ext_drop] at HP
  have c0 := h.c0
  have c1 := h.c1
  have hpI : (p : Int) ≤ (s.size : Int) := by omega
  clear h
  go_enter Tryd.func17, Tryd.ntmps17
  go_wp2_with fail
  go_quiet (exact Calls.quiet_of_same (HP.out _))
  go_wp2_with fail
  go_ret
  exact ⟨rfl, (Below.refl _ _).drewN _⟩

set_option maxHeartbeats 4000000 in
theorem name_any (D b : Nat) (s : ByteArray) (p l : Nat) (v : Value) (L : List TokT) (q : Nat) (w : World) (h : Sc w D b s p l v L) (hq : q ≤ s.size) (hs : s.size ≤ 1000000) :
    Calls Tryd.prog 28 #[.pointer (some ⟨b, 0, none⟩), .int .i64 (q : Int)] w fun e w' => e = .returned (.string (bs ((s.data.toList.drop q).take (nameN (s.data.toList.drop q))))) ∧ w' = w := by
  have c0 := h.c0
  clear h
  have HN : Hid (nameN (s.data.toList.drop q) = ((s.data.toList.drop q).takeWhile letterC).length) := rfl
  have hle : q + nameN (s.data.toList.drop q) ≤ s.size := by
    have h1 := (name_lines (s.data.toList.drop q)).2
    have h2 : s.size = s.data.toList.length := size_list s
    rw [List.length_drop] at h1
    omega
  rw [← ext_bs]
  generalize nameN (s.data.toList.drop q) = N at *
  go_enter Tryd.func28, Tryd.ntmps28
  go_wp2_with fail
  go_loop [5] (fun ev => ∃ m : Nat, ev = .int .i64 (m : Int) ∧ q ≤ m ∧ m ≤ q + N ∧ Hid (((s.data.toList.drop m).takeWhile letterC).length = q + N - m)) (fun ev => s.size - (intOf ev).toNat)
  case atStart => exact ⟨q, rfl, Nat.le_refl _, by omega, by have := HN.out; show _ = _; omega⟩
  case round =>
    obtain ⟨m, rfl, hqm, hmN, HK⟩ := hrel
    rcases Nat.lt_or_ge m s.size with hlt | hge
    · have hd := drop_byte hlt
      have hK := HK.out
      rw [hd, List.takeWhile_cons] at hK
      have HL := Lib.hid (letter_any s[m] w)
      have hI : (m : Int) < (s.size : Int) := by omega
      have hI2 : (m : Int) ≤ 1000000 := by omega
      generalize hC : s[m] = c at *
      cases hc : letterC c with
      | true =>
        rw [hc, if_pos rfl, List.length_cons] at hK
        rw [hc] at HL
        have HK2 := Lib.hid hK
        clear hK hd HK hc
        go_wp2_with fail
        refine HL.out.mono ?_
        rintro e w1 ⟨rfl, rfl⟩
        go_wp2_with fail
        go_round
        case rel => exact ⟨m + 1, rfl, by omega, by have := HK2.out; omega, by have := HK2.out; show _ = _; omega⟩
        case measure => simp only [intOf]; omega
      | false =>
        rw [hc, if_neg Bool.false_ne_true, List.length_nil] at hK
        rw [hc] at HL
        obtain rfl : m = q + N := by omega
        have h9 : (q : Int) ≤ ((q + N : Nat) : Int) := by omega
        clear hK hd HK hc
        go_wp2_with fail
        refine HL.out.mono ?_
        rintro e w1 ⟨rfl, rfl⟩
        go_wp2_with fail
        go_ret
        exact ⟨rfl, rfl⟩
    · have hK := HK.out
      rw [List.drop_eq_nil_of_le (by rw [← size_list]; exact hge), List.takeWhile_nil, List.length_nil] at hK
      obtain rfl : m = q + N := by omega
      have hI : (s.size : Int) ≤ ((q + N : Nat) : Int) := by omega
      have h9 : (q : Int) ≤ ((q + N : Nat) : Int) := by omega
      clear hK HK
      go_wp2_with fail
      go_ret
      exact ⟨rfl, rfl⟩
end Go.Proofs.YtkaelmbgfcehhaaDoor
end

section
/- Plain: seventeen digits tell a float; digits of a float near it. -/
namespace Go.Proofs.YtkaelmbgfcehhaaDoor
open Go

theorem mant_mof {b : Nat} (h : b < 9218868437227405312) : mant b = mof b ∧ (expo b + 1074).toNat = jof b ∧ -1074 ≤ expo b := by
  have e6 : b % 9223372036854775808 = b := Nat.mod_eq_of_lt (by omega)
  have e7 : (2 : Nat) ^ 52 = 4503599627370496 := by decide
  have hx := expo_bounds (b := b)
  refine ⟨?_, ?_, hx.1⟩
  · unfold mant mof
    rw [e6, e7, if_neg (by omega)]
    by_cases h1 : b / 4503599627370496 = 0
    · rw [if_pos h1, if_pos h1]; omega
    · rw [if_neg h1, if_neg h1]
  · unfold expo jof
    rw [e6, e7, if_neg (by omega)]
    by_cases h1 : b / 4503599627370496 = 0
    · rw [if_pos h1, h1]; rfl
    · rw [if_neg h1]; omega
theorem fin_lt_inf {b : Nat} (hb : b < 9223372036854775808) : fin b = true ↔ b < 9218868437227405312 := by
  unfold fin
  rw [Nat.mod_eq_of_lt hb]
  simp
  omega
/-- the float as the fraction that the digits are rounded from -/
def numP (b : Nat) (k : Int) : Nat := mant b * 10 ^ k.toNat * 2 ^ (expo b).toNat
def denQ (b : Nat) (k : Int) : Nat := 10 ^ (-k).toNat * 2 ^ (-(expo b)).toNat
theorem denQ_pos (b : Nat) (k : Int) : 0 < denQ b k := Nat.mul_pos (Nat.pow_pos (by decide)) (pow2_pos _)
theorem scaledN_spec (b : Nat) (k : Int) : 2 * numP b k ≤ (2 * scaledN b k + 1) * denQ b k ∧ 2 * scaledN b k * denQ b k ≤ 2 * numP b k + denQ b k := rnd_spec (denQ_pos b k)
/-- the float's value, and the digits' value, over one denominator -/
theorem value_P {b : Nat} (h : b < 9218868437227405312) (k : Int) : mof b * (2 ^ jof b * 10 ^ k.toNat) * 2 ^ (-(expo b)).toNat = numP b k * kk := by
  obtain ⟨h1, h2, h3⟩ := mant_mof h
  have h4 := pow2_int h3
  rw [h2] at h4
  unfold numP
  rw [h1]
  calc mof b * (2 ^ jof b * 10 ^ k.toNat) * 2 ^ (-(expo b)).toNat = mof b * 10 ^ k.toNat * (2 ^ (-(expo b)).toNat * 2 ^ jof b) := by ac_rfl
    _ = mof b * 10 ^ k.toNat * 2 ^ (expo b).toNat * kk := by rw [h4]; generalize kk = K; ac_rfl
theorem value_Q (b N : Nat) (k : Int) : N * 10 ^ (-k).toNat * kk * 2 ^ (-(expo b)).toNat = N * denQ b k * kk := by
  unfold denQ
  generalize kk = K
  ac_rfl
theorem lin_back {N P Q : Nat} (hN : 10000000000000000 * Q ≤ N * Q) (h1 : 2 * P ≤ 2 * (N * Q) + Q) (h2 : 2 * (N * Q) ≤ 2 * P + Q) :
    20000000000000000 * (N * Q) ≤ 20000000000000000 * P + N * Q ∧ 20000000000000000 * P ≤ 20000000000000000 * (N * Q) + N * Q := by omega
theorem near_back {b : Nat} {k : Int} (h : b < 9218868437227405312) (hN : 10 ^ 16 ≤ scaledN b k) : near (scaledN b k * 10 ^ (-k).toNat) (10 ^ k.toNat) = b := by
  obtain ⟨s1, s2⟩ := scaledN_spec b k
  have hQ := denQ_pos b k
  have hNQ : 10 ^ 16 * denQ b k ≤ scaledN b k * denQ b k := Nat.mul_le_mul_right _ hN
  rw [show (10 : Nat) ^ 16 = 10000000000000000 by decide] at hNQ
  have e1 : (2 * scaledN b k + 1) * denQ b k = 2 * (scaledN b k * denQ b k) + denQ b k := by rw [Nat.succ_mul, Nat.mul_assoc]
  have e2 : 2 * scaledN b k * denQ b k = 2 * (scaledN b k * denQ b k) := Nat.mul_assoc _ _ _
  rw [e1] at s1
  rw [e2] at s2
  obtain ⟨l1, l2⟩ := lin_back hNQ s1 s2
  have hT : 0 < 2 ^ (-(expo b)).toNat := pow2_pos _
  have v1 := value_P h k
  have v2 := value_Q b (scaledN b k) k
  refine near_close (Nat.pow_pos (by decide)) (Nat.le_of_lt h) ?_ ?_
  · refine Nat.le_of_mul_le_mul_right ?_ hT
    have m1 := Nat.mul_le_mul_right kk l1
    rw [Nat.add_mul, Nat.mul_assoc 20000000000000000, Nat.mul_assoc 20000000000000000] at m1
    rw [Nat.add_mul, Nat.mul_assoc, v2, Nat.mul_assoc 20000000000000000 (mof b * _), v1]
    generalize kk = K at *
    exact m1
  · refine Nat.le_of_mul_le_mul_right ?_ hT
    have m2 := Nat.mul_le_mul_right kk l2
    rw [Nat.add_mul, Nat.mul_assoc, Nat.mul_assoc] at m2
    rw [Nat.add_mul, Nat.mul_assoc 20000000000000000 (mof b * _), v1, Nat.mul_assoc 20000000000000000, v2]
    generalize kk = K at *
    exact m2
theorem readB_back {b : Nat} {x : Int} {l : List UInt8} (h : b < 9218868437227405312) (hs : SciAt b 16 x) (hx1 : -325 ≤ x) (hx2 : x ≤ 309) (hc : Canon l (scaledN b ((16 : Nat) - x))) (hl : l.length = 17) : readB l (x - 16) = b := by
  have hN := hs.ge
  have hpos : 0 < scaledN b ((16 : Nat) - x) := Nat.lt_of_lt_of_le (Nat.pow_pos (by decide)) hN
  have hb := bare_pos_text hc hpos
  have hbl : (bare l).length = 17 := by rw [hb, hl]
  rw [readB_near (by omega) (by omega) (by omega) (by omega) (by omega), hb, hc.val]
  have e1 : (x - 16).toNat = (-((16 : Nat) - x : Int)).toNat := by omega
  have e2 : (-(x - 16)).toNat = ((16 : Nat) - x : Int).toNat := by omega
  rw [e1, e2]
  exact near_back h hN
end Go.Proofs.YtkaelmbgfcehhaaDoor
end

section
/- Plain: half a digit below and above what is written. -/
namespace Go.Proofs.YtkaelmbgfcehhaaDoor
open Go

theorem digVal_bare : ∀ l : List UInt8, digVal (bare l) = digVal l
  | [] => rfl
  | c :: r => by
    by_cases h : c = 48
    · subst h
      rw [bare_nought, digVal_bare r, digVal_cons]
      have e : (UInt8.toNat 48 - 48 : Nat) = 0 := by decide
      rw [e, Nat.zero_mul, Nat.zero_add]
    · rw [bare_self h]
theorem near_self {b : Nat} (h : b < 9218868437227405312) : near (mant b * 2 ^ (expo b).toNat) (2 ^ (-(expo b)).toNat) = b := by
  obtain ⟨h1, h2, h3⟩ := mant_mof h
  have h4 := pow2_int h3
  rw [h2] at h4
  refine near_exact (pow2_pos _) ?_ (Nat.le_of_lt h)
  rw [h1, Nat.mul_comm (2 ^ jof b), h4, Nat.mul_assoc, Nat.mul_comm kk]
theorem cross_lo {A B c : Nat} {k : Int} (h : c * (10 ^ (-k).toNat * B) ≤ 10 * (A * 10 ^ k.toNat)) : c * 10 ^ (-(k + 1)).toNat * B ≤ A * 10 ^ (k + 1).toNat := by
  rcases Int.lt_or_le k 0 with hk | hk
  · rw [show (-k).toNat = (-(k + 1)).toNat + 1 by omega, show k.toNat = 0 by omega, Nat.pow_succ, Nat.pow_zero, Nat.mul_one] at h
    rw [show (k + 1).toNat = 0 by omega, Nat.pow_zero, Nat.mul_one]
    generalize 10 ^ (-(k + 1)).toNat = D at *
    have e : c * (D * 10 * B) = 10 * (c * D * B) := by ac_rfl
    rw [e] at h
    omega
  · rw [show (-k).toNat = 0 by omega, Nat.pow_zero, Nat.one_mul] at h
    rw [show (k + 1).toNat = k.toNat + 1 by omega, show (-(k + 1)).toNat = 0 by omega, Nat.pow_succ, Nat.pow_zero, Nat.mul_one]
    generalize 10 ^ k.toNat = D at *
    have e : A * (D * 10) = 10 * (A * D) := by ac_rfl
    rw [e]
    exact h
theorem cross_hi {A B c : Nat} {k : Int} (h : 10 * (A * 10 ^ k.toNat) ≤ c * (10 ^ (-k).toNat * B)) : A * 10 ^ (k + 1).toNat ≤ c * 10 ^ (-(k + 1)).toNat * B := by
  rcases Int.lt_or_le k 0 with hk | hk
  · rw [show (-k).toNat = (-(k + 1)).toNat + 1 by omega, show k.toNat = 0 by omega, Nat.pow_succ, Nat.pow_zero, Nat.mul_one] at h
    rw [show (k + 1).toNat = 0 by omega, Nat.pow_zero, Nat.mul_one]
    generalize 10 ^ (-(k + 1)).toNat = D at *
    have e : c * (D * 10 * B) = 10 * (c * D * B) := by ac_rfl
    rw [e] at h
    omega
  · rw [show (-k).toNat = 0 by omega, Nat.pow_zero, Nat.one_mul] at h
    rw [show (k + 1).toNat = k.toNat + 1 by omega, show (-(k + 1)).toNat = 0 by omega, Nat.pow_succ, Nat.pow_zero, Nat.mul_one]
    generalize 10 ^ k.toNat = D at *
    have e : A * (D * 10) = 10 * (A * D) := by ac_rfl
    rw [e]
    exact h
theorem numP_eq (b : Nat) (k : Int) : numP b k = mant b * 2 ^ (expo b).toNat * 10 ^ k.toNat := by unfold numP; ac_rfl
theorem lo_le {b p : Nat} {x : Int} {t : List UInt8} (h : b < 9218868437227405312) (hx1 : -325 ≤ x) (hx2 : x ≤ 309) (hp : p ≤ 200) (hN : 0 < scaledN b (p - x)) (hl : t.length ≤ p + 1) (hv : digVal t = scaledN b (p - x) - 1) : readB (t ++ [53]) (x - p - 1) ≤ b := by
  by_cases h0 : (bare (t ++ [53])).length = 0
  · rw [readB_nil (List.eq_nil_of_length_eq_zero h0)]
    exact Nat.zero_le _
  · have hbl : (bare (t ++ [53])).length ≤ p + 2 := by
      have := bare_length (t ++ [53])
      rw [List.length_append] at this
      simp at this
      omega
    rcases Int.lt_or_le ((bare (t ++ [53])).length + (x - p - 1)) (-330) with c3 | c3
    · rw [readB_low (by omega) (by omega)]
      exact Nat.zero_le _
    · rw [readB_near h0 (by omega) (by omega) (by omega) (by omega), digVal_bare, digVal_snoc, hv]
      have e5 : (UInt8.toNat 53 - 48 : Nat) = 5 := by decide
      rw [e5]
      have hs := (scaledN_spec b (p - x)).2
      have hs2 : (10 * (scaledN b (p - x) - 1) + 5) * denQ b (p - x) ≤ 10 * numP b (p - x) := by
        obtain ⟨N, hNe⟩ : ∃ N, scaledN b (p - x) = N + 1 := ⟨scaledN b (p - x) - 1, by omega⟩
        rw [hNe] at hs ⊢
        generalize denQ b (p - x) = Q at *
        generalize numP b (p - x) = P at *
        have e1 : 2 * (N + 1) * Q = 2 * (N * Q) + 2 * Q := by rw [Nat.mul_assoc, Nat.succ_mul N, Nat.mul_add]
        have e2 : (10 * (N + 1 - 1) + 5) * Q = 10 * (N * Q) + 5 * Q := by rw [Nat.add_sub_cancel, Nat.add_mul, Nat.mul_assoc]
        rw [e1] at hs
        rw [e2]
        omega
      generalize 10 * (scaledN b (p - x) - 1) + 5 = c at *
      rw [numP_eq] at hs2
      have h4 := cross_lo hs2
      have h5 : near (c * 10 ^ (x - p - 1).toNat) (10 ^ (-(x - p - 1)).toNat) ≤ near (mant b * 2 ^ (expo b).toNat) (2 ^ (-(expo b)).toNat) := by
        refine near_mono (Nat.pow_pos (by decide)) (pow2_pos _) ?_
        rw [show x - p - 1 = -((p : Int) - x + 1) by omega, Int.neg_neg]
        exact h4
      rw [near_self h] at h5
      exact h5
theorem hi_ge {b p : Nat} {x : Int} {l : List UInt8} (h : b < 9218868437227405312) (hx1 : -325 ≤ x) (hx2 : x ≤ 309) (hp : p ≤ 200) (hN : 0 < scaledN b (p - x)) (hl : l.length = p + 1) (hc : Canon l (scaledN b (p - x))) : b ≤ readB (l ++ [53]) (x - p - 1) := by
  have hb : bare (l ++ [53]) = l ++ [53] := by
    obtain ⟨c, r, rfl, hcc⟩ := canon_pos_text hc hN
    exact bare_self hcc
  have hbl : (bare (l ++ [53])).length = p + 2 := by rw [hb, List.length_append, hl]; rfl
  rw [readB_near (by omega) (by omega) (by omega) (by omega) (by omega), hb, digVal_snoc, hc.val]
  have e5 : (UInt8.toNat 53 - 48 : Nat) = 5 := by decide
  rw [e5]
  have hs := (scaledN_spec b (p - x)).1
  have hs2 : 10 * numP b (p - x) ≤ (10 * scaledN b (p - x) + 5) * denQ b (p - x) := by
    generalize scaledN b (p - x) = N at *
    generalize denQ b (p - x) = Q at *
    generalize numP b (p - x) = P at *
    have e1 : (2 * N + 1) * Q = 2 * (N * Q) + Q := by rw [Nat.succ_mul, Nat.mul_assoc]
    have e2 : (10 * N + 5) * Q = 10 * (N * Q) + 5 * Q := by rw [Nat.add_mul, Nat.mul_assoc]
    rw [e1] at hs
    rw [e2]
    omega
  generalize 10 * scaledN b (p - x) + 5 = c at *
  rw [numP_eq] at hs2
  have h4 := cross_hi hs2
  have h5 : near (mant b * 2 ^ (expo b).toNat) (2 ^ (-(expo b)).toNat) ≤ near (c * 10 ^ (x - p - 1).toNat) (10 ^ (-(x - p - 1)).toNat) := by
    refine near_mono (pow2_pos _) (Nat.pow_pos (by decide)) ?_
    rw [show x - p - 1 = -((p : Int) - x + 1) by omega, Int.neg_neg]
    exact h4
  rw [near_self h] at h5
  exact h5
end Go.Proofs.YtkaelmbgfcehhaaDoor
end

section
/- thresherlaw03: DecBack; math.IsNaN, math.IsInf. -/
namespace Go.Proofs.YtkaelmbgfcehhaaDoor
open Go.RowKit
set_option linter.unusedVariables false

theorem read_nan {b : Nat} (h : 9218868437227405312 < b) (h2 : b < 9223372036854775808) : ∃ f, FloatKind.f64.format.read b = .nan false f := by
  have e1 : FloatKind.f64.format.signWeight = 9223372036854775808 := by decide
  have e2 : FloatKind.f64.format.binade = 4503599627370496 := by decide
  have e3 : FloatKind.f64.format.infRung = 9218868437227405312 := by decide
  have e5 : (b / 9223372036854775808 % 2 == 1) = false := by rw [Nat.div_eq_of_lt (by omega)]; rfl
  have e6 : b % 9223372036854775808 = b := Nat.mod_eq_of_lt (by omega)
  unfold Ieee.Format.read
  simp only [e1, e2, e3, e5, e6]
  rw [if_neg (by omega), if_neg (by omega), if_neg (by omega)]
  exact ⟨_, rfl⟩
theorem order_nan {b : Nat} (c : Nat) (h : 9218868437227405312 < b) (h2 : b < 9223372036854775808) : FloatKind.f64.format.order b c = none := by
  obtain ⟨f, hf⟩ := read_nan h h2
  unfold Ieee.Format.order
  rw [hf]
  cases FloatKind.f64.format.read c <;> rfl

theorem bare_zeros (k : Nat) (l : List UInt8) : bare (List.replicate k 48 ++ l) = bare l := by
  induction k with
  | zero => rfl
  | succ k ih => rw [List.replicate_succ, List.cons_append, bare_nought, ih]
theorem bare_all (k : Nat) : bare (List.replicate k 48) = [] := by
  have h := bare_zeros k []
  rw [List.append_nil] at h
  rw [h]; rfl
theorem zeros_digits (k : Nat) : Digits (List.replicate k 48) := by
  intro c hc
  rw [(List.mem_replicate.1 hc).2]; decide
theorem mant_zero {b : Nat} (h : b < 9218868437227405312) (hm : mant b = 0) : b = 0 := by
  rw [(mant_mof h).1] at hm
  unfold mof at hm
  split at hm <;> omega

end Go.Proofs.YtkaelmbgfcehhaaDoor
end

section
/- thresherlaw03: below. -/
namespace Go.Proofs.YtkaelmbgfcehhaaDoor
open Go.RowKit
set_option linter.unusedVariables false

/-- the block of a string's bytes -/
structure RowM (w : World) (g : Nat) (L : List UInt8) : Prop where
  row : ∃ cur, w.heap[g]? = some (.cells cur 5 (cur.size, cur.size + 1)) ∧ ∀ i (h : i < L.length), cur[i]? = some (.int .u8 (L[i].toNat : Nat))
theorem RowM.ltg {w : World} {g : Nat} {L : List UInt8} (h : RowM w g L) : g < w.heap.size := by
  obtain ⟨cur, hg, ht⟩ := h.row
  exact lt_of_heap hg
theorem RowM.cell {w : World} {g : Nat} {L : List UInt8} (h : RowM w g L) (i : Nat) (hi : i < L.length) : w.cell? ⟨g, i, none⟩ = some (.int .u8 (L[i].toNat : Nat)) := by
  obtain ⟨cur, hg, ht⟩ := h.row
  simp [World.cell?, hg, ht i hi]
theorem RowM.frozen {w : World} {g : Nat} {L : List UInt8} (h : RowM w g L) (i : Nat) (hi : i < L.length) : w.frozen? ⟨g, i, none⟩ = false := by
  obtain ⟨cur, hg, ht⟩ := h.row
  have h1 : i < cur.size := by
    rcases Nat.lt_or_ge i cur.size with h | h
    · exact h
    · have := ht i hi
      rw [Array.getElem?_eq_none (by omega)] at this; cases this
  simp [World.frozen?, hg]
  omega
theorem RowM.set {w : World} {g : Nat} {L : List UInt8} (h : RowM w g L) (i y : Nat) (hi : i < L.length) (hy : y < 256) : RowM (w.setCell ⟨g, i, none⟩ (.int .u8 (y : Nat))) g (L.set i (UInt8.ofNat y)) := by
  obtain ⟨cur, hg, ht⟩ := h.row
  refine ⟨cur.setIfInBounds i (.int .u8 (y : Nat)), by rw [setCell_heap_same hg i _]; simp, fun j hj => ?_⟩
  rw [List.length_set] at hj
  rw [List.getElem_set, Array.getElem?_setIfInBounds]
  have h1 : i < cur.size := by
    rcases Nat.lt_or_ge i cur.size with h | h
    · exact h
    · have := ht i hi
      rw [Array.getElem?_eq_none (by omega)] at this; cases this
  by_cases hij : i = j
  · subst hij
    rw [if_pos rfl, if_pos h1, if_pos rfl, UInt8.toNat_ofNat', Nat.mod_eq_of_lt hy]
  · rw [if_neg hij, if_neg hij]
    exact ht j hj

theorem wpList_bytesM (w : World) {ops : Array Oper} {rest : List Oper} {o : Oper} {a : Act} {Q : Exit → Act → World → Prop} (hg : o.guard = none) (x : Operand) (ho : o.op = .convert 9 44 x) (s : ByteArray) (hx : a.eval x = .string s)
    (hK : ∀ cap w', RowM w' w.heap.size s.data.toList → Below w.heap.size w w' → w'.heap.size = w.heap.size + 1 → wpList Tryd.prog ops Q rest (a.put o.dst (.slice (some ⟨w.heap.size, 0, none⟩) s.size cap)) w') : wpList Tryd.prog ops Q (o :: rest) a w := by
  have hr := Lib.run_convert_string_bytes (P := Tryd.prog) w 9 44 5 s undStr undBytes undByte
  refine wpList_plain hg fun K' hK' => ?_
  unfold Oper.wp
  simp [execOp, ho, hx, hr, Result.andThen]
  refine hK' _ _ (hK _ _ ?_ (Go.Joins.below_bytesWorld _ _ _ _ (Nat.le_refl _)) (Lib.bytesWorld_size _ _ _))
  refine ⟨_, Lib.bytesWorld_at_new w 5 s, fun i hi => ?_⟩
  have h1 := Lib.bytesWorld_cell w 5 s i (by simpa using hi)
  have h2 := Lib.bytesWorld_at_new w 5 s
  have h3 : (Lib.bytesCells w 5 s)[i]? = some (.int .u8 (s.data.toList.getD i 0).toNat) := by
    unfold World.cell? at h1
    rw [h2] at h1
    simpa using h1
  rw [h3]
  have h4 : i < s.data.size := by simpa using hi
  simp [List.getD, Array.getElem?_eq_getElem h4]

theorem digVal_app (a b : List UInt8) : digVal (a ++ b) = digVal a * 10 ^ b.length + digVal b := by
  unfold digVal
  rw [List.foldl_append]
  exact digVal_from b _
theorem digVal_nines : ∀ m : Nat, digVal (List.replicate m 57) + 1 = 10 ^ m
  | 0 => rfl
  | m + 1 => by
    rw [List.replicate_succ, digVal_cons, List.length_replicate]
    have h := digVal_nines m
    have e : (UInt8.toNat 57 - 48 : Nat) = 9 := by decide
    rw [e, Nat.pow_succ]
    omega
theorem digVal_noughts : ∀ m : Nat, digVal (List.replicate m 48) = 0
  | 0 => rfl
  | m + 1 => by
    rw [List.replicate_succ, digVal_cons, digVal_noughts m]
    have e : (UInt8.toNat 48 - 48 : Nat) = 0 := by decide
    rw [e, Nat.zero_mul]

/-- the row while the noughts at its end are made nines -/
def bel (l : List UInt8) (k : Nat) : List UInt8 := l.take k ++ List.replicate (l.length - k) 57
theorem bel_length (l : List UInt8) (k : Nat) (h : k ≤ l.length) : (bel l k).length = l.length := by simp [bel]; omega
theorem bel_full (l : List UInt8) : bel l l.length = l := by simp [bel]
theorem bel_at (l : List UInt8) (k : Nat) (h : k < l.length) : (bel l (k + 1))[k]'(by rw [bel_length _ _ h]; exact h) = l[k] := by
  unfold bel
  rw [List.getElem_append_left (by simp; omega)]
  simp
theorem bel_set (l : List UInt8) (k : Nat) (y : UInt8) (h : k < l.length) : (bel l (k + 1)).set k y = l.take k ++ y :: List.replicate (l.length - (k + 1)) 57 := by
  unfold bel
  rw [List.take_succ_eq_append_getElem h, List.append_assoc, List.set_append_right _ _ (by simp; omega)]
  congr 1
  simp [Nat.min_eq_left (Nat.le_of_lt h)]
theorem bel_nine (l : List UInt8) (k : Nat) (h : k < l.length) : (bel l (k + 1)).set k 57 = bel l k := by
  rw [bel_set l k 57 h]
  unfold bel
  rw [show l.length - k = l.length - (k + 1) + 1 by omega, List.replicate_succ]
theorem noughts_at {l : List UInt8} {k : Nat} (h : ∀ c ∈ l.drop k, c = 48) : l.drop k = List.replicate (l.length - k) 48 := by
  rw [List.eq_replicate_iff]
  exact ⟨by simp, h⟩
theorem bel_value (l : List UInt8) (k c : Nat) (h : k < l.length) (hc : l[k].toNat = c + 1) (h48 : 48 ≤ c) (hd : ∀ x ∈ l.drop (k + 1), x = 48) : digVal ((bel l (k + 1)).set k (UInt8.ofNat c)) + 1 = digVal l := by
  have hlt := l[k].toNat_lt
  have e1 : l = l.take k ++ l[k] :: l.drop (k + 1) := by rw [← List.drop_eq_getElem_cons h, List.take_append_drop]
  have e2 : digVal l = digVal (l.take k ++ l[k] :: l.drop (k + 1)) := by rw [← e1]
  rw [bel_set l k _ h, e2, digVal_app, digVal_app, digVal_cons, digVal_cons, noughts_at hd, digVal_noughts, hc, UInt8.toNat_ofNat', Nat.mod_eq_of_lt (by omega)]
  simp only [List.length_cons, List.length_replicate]
  have h9 := digVal_nines (l.length - (k + 1))
  obtain ⟨q, hq⟩ : ∃ q, c = 48 + q := ⟨c - 48, by omega⟩
  subst hq
  rw [show 48 + q - 48 = q by omega, show 48 + q + 1 - 48 = q + 1 by omega, Nat.add_mul]
  omega
theorem bel_digits {l : List UInt8} (h : Digits l) (k c : Nat) (hk : k < l.length) (hc : 48 ≤ c ∧ c ≤ 57) : Digits ((bel l (k + 1)).set k (UInt8.ofNat c)) := by
  rw [bel_set l k _ hk]
  intro x hx
  rcases List.mem_append.1 hx with h1 | h1
  · exact h x (List.mem_of_mem_take h1)
  · rcases List.mem_cons.1 h1 with rfl | h2
    · rw [UInt8.toNat_ofNat', Nat.mod_eq_of_lt (by omega)]; exact hc
    · rw [(List.mem_replicate.1 h2).2]; decide

end Go.Proofs.YtkaelmbgfcehhaaDoor
end

section
/- Plain: whole numbers below 2^53 as floats. -/
namespace Go.Proofs.YtkaelmbgfcehhaaDoor
open Go

theorem kk_pos : 0 < kk := by unfold kk; exact pow2_pos _
theorem places {k : Nat} (h : k ≤ 52) : 52 - k + (k + 1022) = bias := by
  obtain ⟨d, hd⟩ : ∃ d, d = 52 - k := ⟨_, rfl⟩
  rw [← hd]
  have h2 : d + k = 52 := by omega
  rw [← Nat.add_assoc, h2]
  rfl
theorem whole_bits {n : Nat} (h : n < 9007199254740992) : FloatKind.f64.nearest (n : Int) < 9218868437227405312 ∧ mof (FloatKind.f64.nearest (n : Int)) * 2 ^ jof (FloatKind.f64.nearest (n : Int)) = n * kk := by
  have e2 : FloatKind.f64.format.binade = 4503599627370496 := by decide
  have e3 : FloatKind.f64.format.infRung = 9218868437227405312 := by decide
  have e4 : FloatKind.f64.format.leastPlace = -1074 := by decide
  have e5 : FloatKind.f64.format.fractionBits = 52 := by decide
  have e6 : FloatKind.f64.nearest (n : Int) = FloatKind.f64.format.nearest false n 0 := by
    unfold FloatKind.nearest FloatKind.encode Ieee.Format.write
    simp
    rw [decide_eq_false (by omega)]
  rw [e6]
  unfold Ieee.Format.nearest
  by_cases h0 : n = 0
  · subst h0
    rw [if_pos rfl]
    have e7 : FloatKind.f64.format.word false 0 = 0 := by decide
    rw [e7]
    refine ⟨by decide, ?_⟩
    rw [show mof 0 = 0 by decide, Nat.zero_mul, Nat.zero_mul]
  · rw [if_neg h0]
    have hlog := Nat.log2_lt h0 (k := 53)
    have hl1 : n.log2 < 53 := hlog.2 h
    have hl2 : 2 ^ n.log2 ≤ n := Nat.log2_self_le h0
    have hl3 : n < 2 ^ (n.log2 + 1) := Nat.lt_log2_self
    generalize n.log2 = k at *
    simp only [e2, e3, e4, e5]
    have e8 : max ((0 : Int) + (k : Int) - (52 : Nat)) (-1074) = (k : Int) - 52 := by omega
    rw [e8]
    have e9 : ((0 : Int) - ((k : Int) - 52)).toNat = 52 - k := by omega
    have e10 : ((k : Int) - 52 - 0).toNat = 0 := by omega
    have e11 : ((k : Int) - 52 - -1074).toNat = k + 1022 := by omega
    rw [e9, e10, e11]
    obtain ⟨m, hm⟩ : ∃ m, m = n * 2 ^ (52 - k) := ⟨_, rfl⟩
    have ecut : Ieee.Toward.even.cut false (n <<< (52 - k)) 0 = m := by
      rw [Nat.shiftLeft_eq, ← hm]
      unfold Ieee.Toward.cut
      simp [Nat.mod_one]
    rw [ecut]
    have hm1 : 2 ^ 52 ≤ m := by
      have h1 : 2 ^ k * 2 ^ (52 - k) ≤ n * 2 ^ (52 - k) := Nat.mul_le_mul_right _ hl2
      rw [← Nat.pow_add, show k + (52 - k) = 52 by omega] at h1
      omega
    have hm2 : m < 2 ^ 53 := by
      have h1 : n * 2 ^ (52 - k) < 2 ^ (k + 1) * 2 ^ (52 - k) := Nat.mul_lt_mul_of_pos_right hl3 (pow2_pos _)
      rw [← Nat.pow_add, show k + 1 + (52 - k) = 53 by omega] at h1
      omega
    have e7 : (2 : Nat) ^ 52 = 4503599627370496 := by decide
    have e7b : (2 : Nat) ^ 53 = 9007199254740992 := by decide
    rw [e7] at hm1
    rw [e7b] at hm2
    have hlt : (k + 1022) * 4503599627370496 + m < 9218868437227405312 := by omega
    have ew : FloatKind.f64.format.word false (min ((k + 1022) * 4503599627370496 + m) 9218868437227405312) = (k + 1022) * 4503599627370496 + m := by
      unfold Ieee.Format.word
      rw [Nat.min_eq_left (Nat.le_of_lt hlt)]
      rfl
    rw [ew]
    refine ⟨hlt, ?_⟩
    have hj : jof ((k + 1022) * 4503599627370496 + m) = k + 1022 := by unfold jof; rw [e7]; omega
    have hmm : mof ((k + 1022) * 4503599627370496 + m) = m := by unfold mof; rw [e7, if_neg (by omega)]; omega
    rw [hj, hmm, hm, Nat.mul_assoc, ← Nat.pow_add]
    have eb := places (show k ≤ 52 by omega)
    exact congrArg (fun z => n * 2 ^ z) eb
theorem scaledN_whole {B n : Nat} (k : Nat) (hB : B < 9218868437227405312) (hv : mof B * 2 ^ jof B = n * kk) : scaledN B (k : Int) = n * 10 ^ k := by
  have h1 := value_P hB (k : Int)
  have e1 : ((k : Int)).toNat = k := rfl
  have hQ : denQ B (k : Int) = 2 ^ (-(expo B)).toNat := by
    unfold denQ
    rw [show (-(k : Int)).toNat = 0 by omega, Nat.pow_zero, Nat.one_mul]
  have hk : 0 < kk := kk_pos
  have h2 : numP B (k : Int) = n * 10 ^ k * denQ B (k : Int) := by
    rw [← Nat.mul_assoc, hv, e1] at h1
    rw [hQ]
    refine Nat.eq_of_mul_eq_mul_right hk ?_
    rw [← h1]
    generalize kk = K
    ac_rfl
  have h3 : scaledN B (k : Int) = rnd (numP B (k : Int)) (denQ B (k : Int)) := rfl
  rw [h3, h2]
  have hQ0 := denQ_pos B (k : Int)
  exact rnd_close (by omega) (by omega)
theorem canon_shift {l : List UInt8} {n : Nat} (h : Canon l n) (hn : 0 < n) (k : Nat) : Canon (l ++ List.replicate k 48) (n * 10 ^ k) := by
  obtain ⟨c, r, rfl, hc⟩ := canon_pos_text h hn
  refine ⟨by simp, ?_, ?_, ?_⟩
  · intro x hx
    rcases List.mem_append.1 hx with h1 | h1
    · exact h.dig x h1
    · rw [(List.mem_replicate.1 h1).2]; decide
  · rw [digVal_app, digVal_noughts, h.val, List.length_replicate, Nat.add_zero]
  · intro c' r' he h48
    rw [List.cons_append] at he
    injection he with h1 h2
    exact absurd (UInt8.toNat_inj.1 (h1 ▸ h48)) hc
theorem fixedL_zero {l : List UInt8} (h : l ≠ []) : fixedL l 0 = l := by
  have h1 : ¬ l.length ≤ 0 := by have := List.length_pos_iff.2 h; omega
  simp [fixedL, h1]
theorem fixedL_whole {l l2 : List UInt8} {n k : Nat} (h : Canon l n) (h2 : Canon l2 (n * 10 ^ k)) (hk : 0 < k) : fixedL l2 k = l ++ 46 :: List.replicate k 48 := by
  rcases Nat.eq_zero_or_pos n with hn | hn
  · subst hn
    rw [Nat.zero_mul] at h2
    rw [canon_zero_text h, canon_zero_text h2]
    unfold fixedL
    simp only [List.length_singleton]
    rw [if_pos (show 1 ≤ k by omega), if_pos hk]
    have e : List.replicate (k + 1 - 1) 48 ++ [48] = (48 : UInt8) :: List.replicate k 48 := by
      rw [Nat.add_sub_cancel, ← List.replicate_succ', List.replicate_succ]
    rw [e]
    simp only [List.length_cons, List.length_replicate]
    rw [Nat.add_sub_cancel_left]
    rfl
  · have e := canon_unique h2 (canon_shift h hn k)
    subst e
    have hl := List.length_pos_iff.2 h.ne
    unfold fixedL
    simp only
    have hle : ¬ (l ++ List.replicate k 48).length ≤ k := by rw [List.length_append, List.length_replicate]; omega
    rw [if_pos hk, if_neg hle]
    simp
theorem readB_whole {l : List UInt8} {n k B : Nat} (h : Canon l n) (hl : l.length ≤ 20) (hk : k ≤ 20) (hB : B < 9218868437227405312) (hv : mof B * 2 ^ jof B = n * kk) : readB (List.replicate k 48 ++ l ++ List.replicate k 48) (-(k : Int)) = B := by
  have e0 : bare (List.replicate k 48 ++ l ++ List.replicate k 48) = bare (l ++ List.replicate k 48) := by
    rw [List.append_assoc, bare_zeros]
  rcases Nat.eq_zero_or_pos n with hn | hn
  · subst hn
    have hb : bare (l ++ List.replicate k 48) = [] := by
      rw [canon_zero_text h, List.singleton_append, bare_nought, bare_all]
    rw [readB_nil (e0.trans hb)]
    rw [Nat.zero_mul] at hv
    have hm0 : mof B = 0 := by
      rcases Nat.mul_eq_zero.1 hv with h | h
      · exact h
      · have := pow2_pos (jof B); omega
    have hp := bits_parts B
    have hg := mof_ge B
    rcases hg with hg | hg
    · rw [hm0, hg] at hp; omega
    · omega
  · have hc := canon_shift h hn k
    have hb : bare (l ++ List.replicate k 48) = l ++ List.replicate k 48 := bare_pos_text hc (Nat.mul_pos hn (Nat.pow_pos (by decide)))
    have hbl : (bare (List.replicate k 48 ++ l ++ List.replicate k 48)).length = l.length + k := by rw [e0, hb]; simp
    have hl0 := List.length_pos_iff.2 h.ne
    rw [readB_near (by omega) (by omega) (by omega) (by omega) (by omega), e0, hb, hc.val]
    have e1 : (-(k : Int)).toNat = 0 := by omega
    have e2 : (- -(k : Int)).toNat = k := by omega
    rw [e1, e2, Nat.pow_zero, Nat.mul_one]
    refine near_exact (Nat.pow_pos (by decide)) ?_ (Nat.le_of_lt hB)
    rw [← Nat.mul_assoc, hv]
    generalize kk = K
    ac_rfl
end Go.Proofs.YtkaelmbgfcehhaaDoor
end

section
/- thresherlaw03: DecWhole. -/
namespace Go.Proofs.YtkaelmbgfcehhaaDoor
open Go.RowKit
set_option linter.unusedVariables false

theorem bytes_ext {s t : ByteArray} (h : s.data.toList = t.data.toList) : s = t := by
  cases s; cases t
  simp only at h
  rw [Array.toList_inj.1 h]

/-- so many noughts -/
def zb (j : Nat) : ByteArray := ⟨(List.replicate j 48).toArray⟩
theorem zb_list (j : Nat) : (zb j).data.toList = List.replicate j 48 := by simp [zb]
theorem zb_size (j : Nat) : (zb j).size = j := by
  have h := congrArg List.length (zb_list j)
  simpa using h
theorem zb_succ (j : Nat) : zb j ++ ⟨#[48]⟩ = zb (j + 1) := bytes_ext (by simp [zb_list, List.replicate_succ'])

end Go.Proofs.YtkaelmbgfcehhaaDoor
end

section
/- Package num: signed, Trunc. -/
namespace Go.Proofs.YtkaelmbgfcehhaaDoor
open Go.RowKit
set_option linter.unusedVariables false

theorem top_bit {b : Nat} (h : b < 18446744073709551616) : b &&& 2 ^ 63 = b / 9223372036854775808 * 9223372036854775808 := by
  have e63 : (2 : Nat) ^ 63 = 9223372036854775808 := by decide
  refine Nat.eq_of_testBit_eq fun i => ?_
  rw [Nat.testBit_and, Nat.testBit_two_pow]
  rcases Nat.lt_or_ge b 9223372036854775808 with h1 | h1
  · rw [Nat.div_eq_of_lt h1, Nat.zero_mul, Nat.zero_testBit]
    by_cases hi : 63 = i
    · subst hi
      rw [Nat.testBit_lt_two_pow (by omega)]; rfl
    · rw [decide_eq_false hi, Bool.and_false]
  · have h2 : b / 9223372036854775808 = 1 := by omega
    rw [h2, Nat.one_mul, ← e63, Nat.testBit_two_pow]
    by_cases hi : 63 = i
    · subst hi
      obtain ⟨r, hr⟩ : ∃ r, b = 2 ^ 63 + r := ⟨b - 2 ^ 63, by omega⟩
      rw [hr, Nat.testBit_two_pow_add_eq, Nat.testBit_lt_two_pow (by omega)]; rfl
    · rw [decide_eq_false hi, Bool.and_false]
theorem and63 (b : Nat) (h : b < 18446744073709551616) : bits .and .u64 (b : Int) 9223372036854775808 = ((b / 9223372036854775808 * 9223372036854775808 : Nat) : Int) := by
  have h1 := u64_and_nat b 9223372036854775808 h (by decide)
  rw [show b &&& 9223372036854775808 = b / 9223372036854775808 * 9223372036854775808 from top_bit h] at h1
  exact h1
theorem or63 (x s : Nat) (h : x < 9223372036854775808) (hs : s < 2) : bits .or .u64 (x : Int) ((s * 9223372036854775808 : Nat) : Int) = ((x + s * 9223372036854775808 : Nat) : Int) := by
  have h1 := u64_or_nat x (s * 9223372036854775808) (by omega) (by omega)
  rw [h1]
  congr 1
  rw [Nat.or_comm, Nat.add_comm, Nat.mul_comm, show (9223372036854775808 : Nat) = 2 ^ 63 by decide]
  exact (Nat.two_pow_add_eq_or_of_lt h s).symm

/-- what stands ahead of the point -/
def truncB (b : Nat) : Nat :=
  if fin b = false ∨ 0 ≤ expo b then b
  else FloatKind.f64.nearest ((mant b / 2 ^ (-(expo b)).toNat : Nat) : Int) + b / 9223372036854775808 * 9223372036854775808
theorem shr_min {m k : Nat} (h : m < 9007199254740992) : m / 2 ^ (min k 63) = m / 2 ^ k := by
  rcases Nat.lt_or_ge k 64 with h1 | h1
  · rw [Nat.min_eq_left (by omega)]
  · rw [Nat.min_eq_right (by omega)]
    have h2 := p2_le (a := 53) (b := 63) (by omega)
    have h3 := p2_le (a := 53) (b := k) (by omega)
    have h4 : (2 : Nat) ^ 53 = 9007199254740992 := by decide
    rw [Nat.div_eq_of_lt (by omega), Nat.div_eq_of_lt (by omega)]

end Go.Proofs.YtkaelmbgfcehhaaDoor
end

section
/- Package num: Whole; floats with a sign compared. -/
namespace Go.Proofs.YtkaelmbgfcehhaaDoor
open Go.RowKit
set_option linter.unusedVariables false

theorem read_neg {a : Nat} (h : a < 9218868437227405312) : FloatKind.f64.format.read (a + 9223372036854775808) = .number true (mof a) ((jof a : Int) - 1074) := by
  have e1 : FloatKind.f64.format.signWeight = 9223372036854775808 := by decide
  have e2 : FloatKind.f64.format.binade = 4503599627370496 := by decide
  have e3 : FloatKind.f64.format.infRung = 9218868437227405312 := by decide
  have e4 : FloatKind.f64.format.leastPlace = -1074 := by decide
  have e5 : ((a + 9223372036854775808) / 9223372036854775808 % 2 == 1) = true := by
    rw [Nat.add_div_right _ (by decide), Nat.div_eq_of_lt (by omega)]; rfl
  have e6 : (a + 9223372036854775808) % 9223372036854775808 = a := by rw [Nat.add_mod_right]; exact Nat.mod_eq_of_lt (by omega)
  unfold Ieee.Format.read
  simp only [e1, e2, e3, e4, e5, e6]
  have e7 : (2 : Nat) ^ 52 = 4503599627370496 := by decide
  unfold mof jof
  rw [e7]
  clear e5 e6
  by_cases hs : a < 4503599627370496
  · rw [if_pos hs, if_pos (Nat.div_eq_of_lt hs), Nat.div_eq_of_lt hs]
    rfl
  · have h8 : 4503599627370496 + a % 4503599627370496 = a % 4503599627370496 + 4503599627370496 := Nat.add_comm _ _
    have h9 : -1074 + ((a / 4503599627370496 - 1 : Nat) : Int) = ((a / 4503599627370496 - 1 : Nat) : Int) - 1074 := by omega
    have h10 : a / 4503599627370496 ≠ 0 := by omega
    rw [if_neg hs, if_pos h, if_neg h10, h8, h9]
/-- how a datum's number compares: the values over the least step -/
theorem order_num (s t : Bool) (a c : Nat) : Ieee.Datum.order (.number s (mof a) ((jof a : Int) - 1074)) (.number t (mof c) ((jof c : Int) - 1074)) = some (compare (if s then -(vl a : Int) else (vl a : Int)) (if t then -(vl c : Int) else (vl c : Int))) := by
  unfold Ieee.Datum.order
  simp only
  congr 1
  obtain ⟨d, hd⟩ : ∃ d, d = min (jof a) (jof c) := ⟨_, rfl⟩
  have e1 : ((jof a : Int) - 1074 - min ((jof a : Int) - 1074) ((jof c : Int) - 1074)).toNat = jof a - d := by omega
  have e2 : ((jof c : Int) - 1074 - min ((jof a : Int) - 1074) ((jof c : Int) - 1074)).toNat = jof c - d := by omega
  rw [e1, e2]
  unfold Ieee.signed
  rw [Nat.shiftLeft_eq, Nat.shiftLeft_eq]
  have h1 : mof a * 2 ^ (jof a - d) * 2 ^ d = vl a := by unfold vl; rw [Nat.mul_assoc, ← Nat.pow_add, Nat.sub_add_cancel (by omega)]
  have h2 : mof c * 2 ^ (jof c - d) * 2 ^ d = vl c := by unfold vl; rw [Nat.mul_assoc, ← Nat.pow_add, Nat.sub_add_cancel (by omega)]
  have hp := pow2_pos d
  generalize mof a * 2 ^ (jof a - d) = x at *
  generalize mof c * 2 ^ (jof c - d) = y at *
  generalize 2 ^ d = P at *
  have key : ∀ u v : Int, compare (u * P) (v * P) = compare u v := by
    intro u v
    have hP : (0 : Int) < (P : Int) := by omega
    rcases Int.lt_trichotomy u v with h | h | h
    · rw [Int.compare_eq_lt.2 h, Int.compare_eq_lt.2 (Int.mul_lt_mul_of_pos_right h hP)]
    · rw [h, Int.compare_eq_eq.2 rfl, Int.compare_eq_eq.2 rfl]
    · rw [Int.compare_eq_gt.2 h, Int.compare_eq_gt.2 (Int.mul_lt_mul_of_pos_right h hP)]
  rw [← key, ← h1, ← h2]
  congr 1
  · cases s
    · simp
    · simp [Int.neg_mul]
  · cases t
    · simp
    · simp [Int.neg_mul]
theorem order_eq_sign {a c s : Nat} (ha : a < 9218868437227405312) (hc : c < 9218868437227405312) (hs : s < 2) (h : FloatKind.f64.format.order (a + s * 9223372036854775808) (c + s * 9223372036854775808) = some .eq) : vl a = vl c := by
  unfold Ieee.Format.order at h
  have h01 : s = 0 ∨ s = 1 := by omega
  rcases h01 with rfl | rfl
  · rw [Nat.zero_mul, Nat.add_zero, Nat.add_zero, read_fin ha, read_fin hc, order_num] at h
    have h2 := Int.compare_eq_eq.1 (Option.some.inj h)
    simp at h2
    omega
  · rw [Nat.one_mul, read_neg ha, read_neg hc, order_num] at h
    have h2 := Int.compare_eq_eq.1 (Option.some.inj h)
    simp at h2
    omega
theorem order_same {b : Nat} (hb : b < 18446744073709551616) (hf : b % 9223372036854775808 < 9218868437227405312) : FloatKind.f64.format.order b b = some .eq := by
  unfold Ieee.Format.order
  rcases Nat.lt_or_ge b 9223372036854775808 with h | h
  · rw [Nat.mod_eq_of_lt h] at hf
    rw [read_fin hf, order_num, Int.compare_eq_eq.2 rfl]
  · obtain ⟨a, rfl⟩ : ∃ a, b = a + 9223372036854775808 := ⟨b - 9223372036854775808, by omega⟩
    rw [Nat.add_mod_right, Nat.mod_eq_of_lt (by omega)] at hf
    rw [read_neg hf, order_num, Int.compare_eq_eq.2 rfl]

theorem mant_mod (b : Nat) : mant (b % 9223372036854775808) = mant b ∧ expo (b % 9223372036854775808) = expo b ∧ fin (b % 9223372036854775808) = fin b := by
  refine ⟨?_, ?_, ?_⟩
  · unfold mant; rw [Nat.mod_mod]
    have e : b % 9223372036854775808 % 4503599627370496 = b % 4503599627370496 := Nat.mod_mod_of_dvd _ (by decide)
    rw [e]
  · unfold expo; rw [Nat.mod_mod]
  · unfold fin; rw [Nat.mod_mod]
end Go.Proofs.YtkaelmbgfcehhaaDoor
end

section
/- Package num: Whole. -/
namespace Go.Proofs.YtkaelmbgfcehhaaDoor
open Go.RowKit
set_option linter.unusedVariables false

/-- is the float whole, and below 10^16 -/
def wholeOk (b : Nat) : Bool := decide (b % 9223372036854775808 < 4846369599423283200) && (FloatKind.f64.format.order (truncB b) b == some .eq)

/-- the text of a whole number -/
def WholeT (t : List UInt8) (b : Nat) (S : Bool) : Prop := ∃ l, Canon l (scaledN b 0) ∧ t = if S = true then 45 :: l else l

end Go.Proofs.YtkaelmbgfcehhaaDoor
end

section
/- Package num: build. -/
namespace Go.Proofs.YtkaelmbgfcehhaaDoor
open Go.RowKit
set_option linter.unusedVariables false

/-- the bits of m steps of the place j -/
theorem vl_bits {m j : Nat} (hm : m < 9007199254740992) (hj : j ≤ 2045) (hn : 4503599627370496 ≤ m ∨ j = 0) : j * 4503599627370496 + m < 9218868437227405312 ∧ vl (j * 4503599627370496 + m) = m * 2 ^ j := by
  have e7 : (2 : Nat) ^ 52 = 4503599627370496 := by decide
  refine ⟨by omega, ?_⟩
  unfold vl
  rcases Nat.lt_or_ge m 4503599627370496 with h | h
  · have h0 : j = 0 := by omega
    subst h0
    have e1 : jof (0 * 4503599627370496 + m) = 0 := by unfold jof; rw [e7, Nat.zero_mul, Nat.zero_add, Nat.div_eq_of_lt h]
    have e2 : mof (0 * 4503599627370496 + m) = m := by unfold mof; rw [e7, Nat.zero_mul, Nat.zero_add, if_pos (Nat.div_eq_of_lt h)]
    rw [e1, e2]
  · have hd : (j * 4503599627370496 + m) / 4503599627370496 = j + 1 := by omega
    have e1 : jof (j * 4503599627370496 + m) = j := by unfold jof; rw [e7, hd]; omega
    have e2 : mof (j * 4503599627370496 + m) = m := by unfold mof; rw [e7, hd, if_neg (by omega)]; omega
    rw [e1, e2]

end Go.Proofs.YtkaelmbgfcehhaaDoor
end

section
/- Plain: floats by their values with a sign; a whole number as a float. -/
namespace Go.Proofs.YtkaelmbgfcehhaaDoor
open Go.RowKit
set_option linter.unusedVariables false

/-- a float's value over the least step, with its sign -/
def sv (b : Nat) : Int := if b / 9223372036854775808 = 0 then (vl (b % 9223372036854775808) : Int) else -(vl (b % 9223372036854775808) : Int)

theorem read_sv {b : Nat} (hb : b < 18446744073709551616) (hf : b % 9223372036854775808 < 9218868437227405312) :
    ∃ s : Bool, FloatKind.f64.format.read b = .number s (mof (b % 9223372036854775808)) ((jof (b % 9223372036854775808) : Int) - 1074) ∧ sv b = if s then -(vl (b % 9223372036854775808) : Int) else (vl (b % 9223372036854775808) : Int) := by
  rcases Nat.lt_or_ge b 9223372036854775808 with h | h
  · have e := Nat.mod_eq_of_lt h
    refine ⟨false, ?_, ?_⟩
    · rw [e] at hf ⊢; exact read_fin hf
    · unfold sv; rw [if_pos (Nat.div_eq_of_lt h)]; exact (if_neg (by decide)).symm
  · obtain ⟨a, rfl⟩ : ∃ a, b = a + 9223372036854775808 := ⟨b - 9223372036854775808, by omega⟩
    have e : (a + 9223372036854775808) % 9223372036854775808 = a := by omega
    refine ⟨true, ?_, ?_⟩
    · rw [e] at hf ⊢; exact read_neg hf
    · unfold sv; rw [if_neg (by omega)]; exact (if_pos (by decide)).symm
theorem order_sv {a c : Nat} (ha : a < 18446744073709551616) (hc : c < 18446744073709551616) (fa : a % 9223372036854775808 < 9218868437227405312) (fc : c % 9223372036854775808 < 9218868437227405312) :
    FloatKind.f64.format.order a c = some (compare (sv a) (sv c)) := by
  obtain ⟨s, h1, h2⟩ := read_sv ha fa
  obtain ⟨t, h3, h4⟩ := read_sv hc fc
  unfold Ieee.Format.order
  rw [h1, h3, order_num, h2, h4]
theorem order_sv_eq {a c : Nat} (ha : a < 18446744073709551616) (hc : c < 18446744073709551616) (fa : a % 9223372036854775808 < 9218868437227405312) (fc : c % 9223372036854775808 < 9218868437227405312) (h : sv a = sv c) :
    FloatKind.f64.format.order a c = some .eq := by
  rw [order_sv ha hc fa fc, h, Int.compare_eq_eq.2 rfl]

theorem nearest_neg (m : Nat) (p : Int) : FloatKind.f64.format.nearest true m p = FloatKind.f64.format.nearest false m p + 9223372036854775808 := by
  have e1 : FloatKind.f64.format.signWeight = 9223372036854775808 := by decide
  have hc : ∀ n d, Ieee.Toward.even.cut true n d = Ieee.Toward.even.cut false n d := fun _ _ => rfl
  unfold Ieee.Format.nearest
  unfold Ieee.Format.word
  rw [e1]
  by_cases hm : m = 0
  · rw [if_pos hm, if_pos hm]; rfl
  · rw [if_neg hm, if_neg hm]
    simp only [hc]
    simp [Nat.add_comm]
theorem nearest_int (n : Int) : FloatKind.f64.nearest n = FloatKind.f64.nearest (n.natAbs : Int) + if n < 0 then 9223372036854775808 else 0 := by
  have e : ∀ k : Int, FloatKind.f64.nearest k = FloatKind.f64.format.nearest (decide (k < 0)) k.natAbs 0 := fun _ => rfl
  rw [e, e]
  have h2 : (decide ((n.natAbs : Int) < 0)) = false := decide_eq_false (by omega)
  rw [h2, Int.natAbs_natCast]
  by_cases h : n < 0
  · rw [decide_eq_true h, nearest_neg, if_pos h]
  · rw [decide_eq_false h, if_neg h]; rfl
theorem nearest_sv {n : Int} (h : n.natAbs < 9007199254740992) : FloatKind.f64.nearest n < 18446744073709551616 ∧ FloatKind.f64.nearest n % 9223372036854775808 < 9218868437227405312 ∧ sv (FloatKind.f64.nearest n) = n * (kk : Int) := by
  obtain ⟨h1, h2⟩ := whole_bits h
  rw [nearest_int]
  change vl _ = _ at h2
  generalize FloatKind.f64.nearest (n.natAbs : Int) = B at *
  by_cases hn : n < 0
  · rw [if_pos hn]
    refine ⟨by omega, by omega, ?_⟩
    unfold sv
    rw [if_neg (by omega), Nat.add_mod_right, Nat.mod_eq_of_lt (by omega), h2, Int.natCast_mul, ← Int.neg_mul]
    congr 1
    omega
  · rw [if_neg hn, Nat.add_zero]
    refine ⟨by omega, by omega, ?_⟩
    unfold sv
    rw [if_pos (by omega), Nat.mod_eq_of_lt (by omega), h2, Int.natCast_mul]
    congr 1
    omega

/-- what is left of a division of floats -/
def ModR (x y r : Nat) : Prop := ∃ B, B < 9218868437227405312 ∧ r = B + x / 9223372036854775808 * 9223372036854775808 ∧ vl B = vl (x % 9223372036854775808) % vl (y % 9223372036854775808)

theorem ModR_sv {x y r : Nat} (hx : x < 18446744073709551616) (h : ModR x y r) : r < 18446744073709551616 ∧ r % 9223372036854775808 < 9218868437227405312 ∧ sv r = (sv x).tmod (sv y) := by
  obtain ⟨B, h1, rfl, h3⟩ := h
  have hd : x / 9223372036854775808 = 0 ∨ x / 9223372036854775808 = 1 := by omega
  have hy : ∀ v : Int, v.tmod (sv y) = v.tmod (vl (y % 9223372036854775808) : Int) := by
    intro v; unfold sv; split
    · rfl
    · rw [Int.tmod_neg]
  rw [hy]
  unfold sv
  rcases hd with h4 | h4
  · rw [h4]
    refine ⟨by omega, by omega, ?_⟩
    rw [if_pos (by omega), if_pos rfl, Nat.zero_mul, Nat.add_zero, Nat.mod_eq_of_lt (by omega), h3]
    rfl
  · rw [h4]
    refine ⟨by omega, by omega, ?_⟩
    rw [if_neg (by omega), if_neg (by omega), Nat.one_mul, Nat.add_mod_right, Nat.mod_eq_of_lt (by omega), h3, Int.neg_tmod]
    rfl
theorem vl_inj {a b : Nat} (h : vl a = vl b) : a = b := by
  rcases Nat.lt_trichotomy a b with h1 | h1 | h1
  · exact absurd h (Nat.ne_of_lt (vl_lt h1))
  · exact h1
  · exact absurd h.symm (Nat.ne_of_lt (vl_lt h1))
theorem vl_parts {b : Nat} (hf : fin b = true) : mant b * 2 ^ (expo b + 1074).toNat = vl (b % 9223372036854775808) ∧ -1074 ≤ expo b := by
  rw [← (mant_mod b).2.2] at hf
  have h := (fin_lt_inf (Nat.mod_lt _ (by decide))).1 hf
  obtain ⟨h1, h2, h3⟩ := mant_mof h
  rw [(mant_mod b).1] at h1
  rw [(mant_mod b).2.1] at h2 h3
  exact ⟨by unfold vl; rw [h1, h2], h3⟩
end Go.Proofs.YtkaelmbgfcehhaaDoor
end

section
/- Plain: a natural as a float is the nearest one. -/
namespace Go.Proofs.YtkaelmbgfcehhaaDoor
open Go
set_option linter.unusedVariables false

theorem cut_rnd {n d : Nat} (hd : d ≤ n.log2 + 2) : Ieee.Toward.even.cut false n d = rnd n (2 ^ d) := by
  unfold Ieee.Toward.cut rnd
  rw [Nat.min_eq_left hd, Nat.one_shiftLeft]
  simp only
  generalize 2 ^ d = g
  generalize n / g = q
  generalize n % g = r
  by_cases h : g < 2 * r ∨ 2 * r = g ∧ q % 2 = 1
  · rw [if_pos h]
    have e : (decide (g < 2 * r) || (g == 2 * r && q % 2 == 1)) = true := by
      rw [Bool.or_eq_true, Bool.and_eq_true, decide_eq_true_eq, beq_iff_eq, beq_iff_eq]
      rcases h with h | ⟨h, h2⟩
      · exact .inl h
      · exact .inr ⟨h.symm, h2⟩
    rw [e]; rfl
  · rw [if_neg h]
    have e : (decide (g < 2 * r) || (g == 2 * r && q % 2 == 1)) = false := by
      rw [Bool.or_eq_false_iff, Bool.and_eq_false_iff, decide_eq_false_iff_not, beq_eq_false_iff_ne, beq_eq_false_iff_ne]
      refine ⟨fun h2 => h (.inl h2), ?_⟩
      by_cases h2 : g = 2 * r
      · exact .inr fun h3 => h (.inr ⟨h2.symm, h3⟩)
      · exact .inl h2
    rw [e]; rfl
theorem placesUp {k : Nat} (h : 52 ≤ k) : bias + (k - 52) = k + 1022 := by
  obtain ⟨d, hd⟩ : ∃ d, d = k - 52 := ⟨_, rfl⟩
  have h2 : k = d + 52 := by omega
  rw [← hd, h2, Nat.add_comm bias]
  rfl
theorem near_big {n : Nat} (h : 9007199254740992 ≤ n) : FloatKind.f64.nearest (n : Int) = near n 1 := by
  have e2 : FloatKind.f64.format.binade = 4503599627370496 := by decide
  have e3 : FloatKind.f64.format.infRung = 9218868437227405312 := by decide
  have e4 : FloatKind.f64.format.leastPlace = -1074 := by decide
  have e5 : FloatKind.f64.format.fractionBits = 52 := by decide
  have e6 : FloatKind.f64.nearest (n : Int) = FloatKind.f64.format.nearest false n 0 := by
    unfold FloatKind.nearest FloatKind.encode Ieee.Format.write
    simp
    rw [decide_eq_false (by omega)]
  rw [e6]
  unfold Ieee.Format.nearest
  have h0 : n ≠ 0 := by omega
  rw [if_neg h0]
  have hl2 : 2 ^ n.log2 ≤ n := Nat.log2_self_le h0
  have hl3 : n < 2 ^ (n.log2 + 1) := Nat.lt_log2_self
  have hl1 : 53 ≤ n.log2 := by
    rcases Nat.lt_or_ge n.log2 53 with h1 | h1
    · have h2 := (Nat.log2_lt h0 (k := 53)).1 h1
      have e7b : (2 : Nat) ^ 53 = 9007199254740992 := by decide
      omega
    · exact h1
  have hcut := cut_rnd (n := n) (d := n.log2 - 52) (by omega)
  generalize n.log2 = k at *
  simp only [e2, e3, e4, e5]
  have e8 : max ((0 : Int) + (k : Int) - (52 : Nat)) (-1074) = (k : Int) - 52 := by omega
  rw [e8]
  have e9 : ((0 : Int) - ((k : Int) - 52)).toNat = 0 := by omega
  have e10 : ((k : Int) - 52 - 0).toNat = k - 52 := by omega
  have e11 : ((k : Int) - 52 - -1074).toNat = k + 1022 := by omega
  rw [e9, e10, e11, Nat.shiftLeft_zero, hcut]
  have hpl := placesUp (k := k) (by omega)
  have hkk : kk = 2 ^ bias := rfl
  have hpow : kk * 2 ^ (k - 52) = 2 ^ (k + 1022) := by
    have h3 := Nat.pow_add 2 bias (k - 52)
    rw [hpl] at h3
    exact h3.symm
  have e12 : (2 : Nat) ^ 52 * 2 ^ (k - 52) = 2 ^ k := by rw [← Nat.pow_add, show 52 + (k - 52) = k by omega]
  have hstep : Step (n * kk) 1 (k + 1022) := by
    refine ⟨?_, .inr ?_⟩
    · rw [Nat.mul_one, ← hpow]
      have h1 : n * kk < 2 ^ (k + 1) * kk := Nat.mul_lt_mul_of_pos_right hl3 kk_pos
      have h2 : ∀ c : Nat, 2 ^ 53 * (c * 2 ^ (k - 52)) = 2 ^ (k + 1) * c := by
        intro c
        rw [Nat.pow_succ 2 k, ← e12, two53]
        generalize 2 ^ (k - 52) = g
        generalize 2 ^ 52 = g2
        ac_rfl
      rw [h2]; exact h1
    · rw [Nat.mul_one, ← hpow]
      have h1 : 2 ^ k * kk ≤ n * kk := Nat.mul_le_mul_right _ hl2
      have h2 : ∀ c : Nat, 2 ^ 52 * (c * 2 ^ (k - 52)) = 2 ^ k * c := by
        intro c
        rw [← e12]
        generalize 2 ^ (k - 52) = g
        generalize 2 ^ 52 = g2
        ac_rfl
      rw [h2]; exact h1
  have hn : near n 1 = nb (n * kk) 1 (k + 1022) := step_same (by decide) (by decide) (stepOf_step _ (by decide)) hstep rfl
  rw [hn]
  unfold nb Ieee.Format.word
  have hr : rnd (n * kk) (2 ^ (k + 1022) * 1) = rnd n (2 ^ (k - 52)) := rnd_same (Nat.mul_pos (pow2_pos _) (by decide)) (pow2_pos _) (by rw [Nat.mul_one, ← hpow, Nat.mul_assoc])
  rw [hr, show (2 : Nat) ^ 52 = 4503599627370496 by decide]
  exact if_neg (by decide)
theorem nearest_near (n : Nat) : FloatKind.f64.nearest (n : Int) = near n 1 := by
  rcases Nat.lt_or_ge n 9007199254740992 with h | h
  · obtain ⟨h1, h2⟩ := whole_bits h
    exact (near_exact (by decide) (by rw [Nat.mul_one]; exact h2.symm) (Nat.le_of_lt h1)).symm
  · exact near_big h
end Go.Proofs.YtkaelmbgfcehhaaDoor
end
