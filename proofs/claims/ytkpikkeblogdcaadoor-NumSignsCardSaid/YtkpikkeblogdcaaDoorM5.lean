/- Several texts in one (D8, D9, L1, L2, R9, L3, R10, R11, L5). -/
import Derived.Test.YtkpikkeblogdcaaDoorM4
import Derived.Shelf.Strings.SlTrimAscii
import GoSem.Core.Float
section
/- Package dec: Sci, the loop. -/
namespace Go.Proofs.YtkpikkeblogdcaaDoor
open Go.RowKit
set_option linter.unusedVariables false

/-- what Sci answers: the digits and the power of ten: the least one from the start on at which p + 1 digits are enough -/
structure SciAt (b p : Nat) (x : Int) : Prop where
  ge : 10 ^ p ≤ scaledN b (p - x)
  lt : scaledN b (p - x) < 10 ^ (p + 1)
  least : ∃ y0, y0 ≤ x ∧ GeT (mant b * 2 ^ (expo b).toNat) (2 ^ (-(expo b)).toNat) (p - y0) (10 ^ p) ∧ ∀ y, y0 ≤ y → y < x → 10 ^ (p + 1) ≤ scaledN b (p - y)

theorem canon_ne_zero {l : List UInt8} {x : Nat} (h : Canon l x) (hx : 0 < x) : l ≠ [48] := by
  intro hl
  have h1 := h.val
  rw [hl] at h1
  have h2 : digVal [48] = 0 := by decide
  omega

set_option maxRecDepth 100000 in
set_option maxHeartbeats 4000000 in
theorem Sci_loop (b : Nat) (p : Nat) (w : World) (hb : b < 18446744073709551616) (hf : fin b = true) (hp : p ≤ 200) (hm : 0 < mant b) :
    Calls Tryd.prog 20 #[.float .f64 b, .int .i64 p] w fun e w' => ∃ (s : ByteArray) (x : Int), e = .returned (.tuple #[.string s, .int .i64 x, .int .i64 0]) ∧ Canon s.data.toList (scaledN b (p - x)) ∧ s.data.toList.length = p + 1 ∧ SciAt b p x ∧ -325 ≤ x ∧ x ≤ 309 ∧ Below w.heap.size w w' := by
  have HP := Lib.hid (Parts_any b w hb)
  rw [hf] at HP
  have hm1 := mant_lt b
  have he := expo_bounds (b := b)
  obtain ⟨hm2, hm3⟩ := nbits_pos hm
  have hm4 : nbits (mant b) ≤ 53 := nbits_le.2 (by rw [show (2 : Nat) ^ 53 = 9007199254740992 by decide]; exact hm1)
  obtain ⟨t, ht⟩ : ∃ t : Int, t = (nbits (mant b) : Int) - 1 + expo b := ⟨_, rfl⟩
  obtain ⟨x0, hx0⟩ : ∃ x0 : Int, x0 = exp0 t := ⟨_, rfl⟩
  have hx0' : (t * 30103).tdiv 100000 - 2 = x0 := hx0.symm
  have hx1 : -325 ≤ x0 := by rw [hx0]; exact (exp0_bounds (by omega) (by omega)).1
  have hx2 : x0 ≤ 306 := by rw [hx0]; exact (exp0_bounds (by omega) (by omega)).2
  have hB : 0 < 2 ^ (-(expo b)).toNat := Nat.pow_pos (by decide)
  have hA := fin_lt (m := mant b) (j := (expo b).toNat) (i := 12) (-(expo b)).toNat (by rw [show (2 : Nat) ^ 53 = 9007199254740992 by decide]; exact hm1) (by omega) (by decide)
  have hst : GeT (mant b * 2 ^ (expo b).toNat) (2 ^ (-(expo b)).toNat) ((p : Int) - x0) (10 ^ p) := by
    have h := sci_start hm2 (e := expo b) (by omega) (by omega) p
    rw [show ((nbits (mant b) - 1 : Nat) : Int) + expo b = t by omega, ← hx0] at h
    exact h
  have HX : Hid (∀ x : Int, x0 ≤ x → (∀ y, x0 ≤ y → y < x → 10 ^ (p + 1) ≤ scaledN b (p - y)) → x ≤ 309) := by
    intro x h1 h2
    rcases Int.lt_or_le x0 x with h | h
    · have h3 := h2 (x - 1) (by omega) (by omega)
      rw [scaledN_rat] at h3
      have := sci_high (H := 25 * 12 + 9) hB hA h3
      omega
    · omega
  have HRD : Hid (∀ (x : Int) (l : List UInt8), x0 ≤ x → (∀ y, x0 ≤ y → y < x → 10 ^ (p + 1) ≤ scaledN b (p - y)) → Canon l (scaledN b (p - x)) →
      (p + 1 < l.length ∧ 10 ^ (p + 1) ≤ scaledN b (p - x)) ∨ (l.length = p + 1 ∧ l ≠ [48] ∧ SciAt b p x)) := by
    intro x l h1 h2 hc
    rcases Nat.lt_or_ge (scaledN b (p - x)) (10 ^ (p + 1)) with h | h
    · have h3 : 10 ^ p ≤ scaledN b (p - x) := by
        rw [scaledN_rat]
        refine sci_down hB ?_
        rcases Int.lt_or_le x0 x with h4 | h4
        · refine .inr ?_
          have h5 := h2 (x - 1) (by omega) (by omega)
          rw [scaledN_rat] at h5
          rwa [show (p : Int) - x + 1 = p - (x - 1) by omega]
        · refine .inl ?_
          rwa [show x = x0 by omega]
      refine .inr ⟨Nat.le_antisymm (canon_len hc h (by omega)) (canon_len_gt hc h3), canon_ne_zero hc (Nat.lt_of_lt_of_le (Nat.pow_pos (by decide)) h3), h3, h, x0, h1, hst, h2⟩
    · exact .inl ⟨canon_len_gt hc h, h⟩
  have HS : Hid (∀ (x : Int) (W : World), x0 ≤ x → x ≤ 309 → Calls Tryd.prog 46 #[.int .u64 (mant b : Nat), .int .i64 (expo b), .int .i64 (p - x)] W fun r w' => ∃ v, r = .returned v ∧ NatV w' v (scaledN b (p - x)) ∧ Below W.heap.size W w') :=
    fun x W h1 h2 => scaled_b b (p - x) W (by omega) (by omega)
  have HT : Hid (∀ (x : Int) (W : World) (v : Value), x0 ≤ x → x ≤ 309 → NatV W v (scaledN b (p - x)) → Calls Tryd.prog 45 #[v] W fun e w' => ∃ s : ByteArray, e = .returned (.tuple #[.string s, .int .i64 0]) ∧ Canon s.data.toList (scaledN b (p - x)) ∧ s.data.toList.length ≤ 4001 ∧ Below W.heap.size W w') :=
    fun x W v h1 h2 h => text_b (by omega) (by omega) h
  have HF := Lib.hid (fun W => FromV (mant b) _ rfl (by omega) W)
  have HBT : Hid (∀ (v : Value) (W : World), NatV W v (mant b) → Calls Tryd.prog 50 #[v] W fun r W' => r = .returned (.int .i64 (nbits (mant b) : Nat)) ∧ W = W') :=
    fun v W h => Bits_V v _ W h (limbs_of_bits (by omega))
  have hm0 : (mant b : Int) ≠ 0 := by omega
  generalize scaledN b = N at *
  generalize nbits (mant b) = nm at *
  generalize mant b = m at *
  generalize expo b = x at *
  clear hb hf hB hA hst hx0 hm hm2
  have hpi : (p : Int) ≤ 200 := by omega
  go_enter Tryd.func20, Tryd.ntmps20
  go_wp2_with fail
  refine HP.out.mono ?_
  rintro e w1 ⟨rfl, rfl⟩
  clear HP
  go_wp2_with fail
  refine (HF.out w).mono ?_
  rintro e w1 ⟨v1, rfl, hn1, hb1⟩
  have HBT1 := Lib.hid (HBT.out v1 w1 hn1)
  have HB1 := Lib.hid hb1
  have hs1 := hb1.size
  clear hn1 hb1 HBT HF
  go_wp2_with fail
  refine HBT1.out.mono ?_
  rintro e w2 ⟨rfl, rfl⟩
  clear HBT1
  have et : (nm : Int) - 1 + x = t := ht.symm
  clear ht
  have het : (t * 30103).tdiv 100000 = x0 + 2 := by omega
  go_wp2_with fail
  go_loopw [10] (fun ev wr => ∃ (y : Int), x0 ≤ y ∧ y ≤ 309 ∧ ev = .int .i64 y ∧ Below w.heap.size w wr ∧ w.heap.size ≤ wr.heap.size ∧ ∀ z, x0 ≤ z → z < y → 10 ^ (p + 1) ≤ N (p - z)) (fun ev _ => (400 - intOf ev).toNat)
  case atStart =>
    refine ⟨x0, Int.le_refl _, by omega, ?_, HB1.out, hs1, fun z h1 h2 => by omega⟩
    first | rfl | (congr 1; omega)
  case round =>
    obtain ⟨y, hy1, hy2, rfl, hbw, hsw, hl⟩ := hrel
    have HB := Lib.hid hbw; have HL := Lib.hid hl
    clear hbw hl HB1 het et
    have hc1 : x0 ≤ y := hy1
    go_wp2_with fail
    refine (HS.out y wr hy1 hy2).mono ?_
    rintro e w3 ⟨v3, rfl, hn3, hb3⟩
    have HT3 := Lib.hid (HT.out y w3 v3 hy1 hy2 hn3)
    have HB3 := Lib.hid (HB.out.trans (hb3.mono hsw))
    have hs3 := hb3.size
    clear hn3 hb3 HB
    go_wp2_with fail
    refine HT3.out.mono ?_
    rintro e w4 ⟨s, rfl, hc, hl4, hb4⟩
    have HB4 := Lib.hid (HB3.out.trans (hb4.mono (by omega)))
    have hs4 := hb4.size
    have HC := Lib.hid hc
    have hR := HRD.out y s.data.toList hy1 HL.out hc
    have hsz : s.size = s.data.toList.length := by simp
    obtain ⟨n, hn⟩ : ∃ n, n = s.size := ⟨_, rfl⟩
    rw [← hsz, ← hn] at hR hl4
    have hn1 : s.size = n := hn.symm
    clear hc hb4 HB3 HT3 hsz hn
    rcases hR with ⟨h1, h2⟩ | ⟨h1, h2, h3⟩
    · have h1' : (p : Int) + 1 < (n : Int) := by omega
      have HG := Lib.hid h2
      clear h2 h1
      have HL2 : Hid (∀ z, x0 ≤ z → z < y + 1 → 10 ^ (p + 1) ≤ N (p - z)) := by
        intro z hz1 hz2
        rcases Int.lt_or_le z y with h | h
        · exact HL.out z hz1 h
        · rw [show z = y by omega]; exact HG.out
      have hy3 : y + 1 ≤ 309 := HX.out (y + 1) (by omega) HL2.out
      go_wp2_with fail
      go_roundw
      case rel => exact ⟨y + 1, by omega, hy3, rfl, HB4.out, by omega, HL2.out⟩
      case measure => show (400 - (y + 1)).toNat < (400 - y).toNat; omega
    · have h1' : (n : Int) = (p : Int) + 1 := by omega
      have hne : (s.toList == [48]) = false := beq_eq_false_iff_ne.2 (by rw [ByteArray.toList_eq]; exact h2)
      have HG := Lib.hid h3
      clear h2 h1 h3
      have HN : Hid (s.data.toList.length = p + 1) := by
        have hsz : s.size = s.data.toList.length := by simp
        show _ = _
        omega
      go_wp2_with fail
      go_ret3
      exact ⟨s, y, rfl, HC.out, HN.out, HG.out, by omega, hy2, HB4.out⟩
end Go.Proofs.YtkpikkeblogdcaaDoor
end

section
/- Package dec: Read. -/
namespace Go.Proofs.YtkpikkeblogdcaaDoor
open Go.RowKit
set_option linter.unusedVariables false

theorem Trim_digs (s : ByteArray) (w : World) (hs : s.size ≤ 9223372036854775807) :
    Calls Tryd.prog 35 #[.string s, .string ⟨#[48, 49, 50, 51, 52, 53, 54, 55, 56, 57]⟩] w fun e w' => e = .returned (.string ⟨(Lib.trimS s.data.toList digs).toArray⟩) ∧ Below w.heap.size w w' :=
  Any.strings_Trim_laid Tryd.lays160 (by kernel_rfl) s ⟨#[48, 49, 50, 51, 52, 53, 54, 55, 56, 57]⟩ w hs (by decide) (ascii_of_all (by decide))

theorem Inf_pos (w : World) : Calls Tryd.prog 37 #[.int .i64 1] w fun e w' => e = .returned (.float .f64 9218868437227405312) ∧ w' = w := by
  go_enter Tryd.func37, Tryd.ntmps37
  go_wp2_with fail
  go_ret
  exact ⟨rfl, rfl⟩

set_option maxRecDepth 100000 in
set_option maxHeartbeats 2000000 in
theorem Read_bad (s : ByteArray) (x : Int) (w : World) (hs : s.size ≤ 9223372036854775807) (h : s.data.toList = [] ∨ ¬ Digits s.data.toList) :
    Calls Tryd.prog 14 #[.string s, .int .i64 x] w fun e w' => e = .returned (.tuple #[.float .f64 0, .int .i64 30]) ∧ Below w.heap.size w w' := by
  have HT := Lib.hid (Trim_digs s w hs)
  go_enter Tryd.func14, Tryd.ntmps14
  rcases h with h | h
  · have h0 : s.toList.isEmpty = true := by rw [ByteArray.toList_eq, h]; rfl
    clear h
    go_wp2_with fail
    go_ret2
    exact ⟨rfl, Below.refl _ _⟩
  · by_cases he : s.data.toList = []
    · exact absurd (by rw [he]; intro c hc; simp at hc) h
    have h0 : s.toList.isEmpty = false := by rw [ByteArray.toList_eq]; simpa using he
    clear he
    obtain ⟨T, hT⟩ : ∃ T : ByteArray, T = ⟨(Lib.trimS s.data.toList digs).toArray⟩ := ⟨_, rfl⟩
    have h1 : T.toList.isEmpty = false := by
      rw [ByteArray.toList_eq, hT]
      cases h2 : Lib.trimS s.data.toList digs with
      | nil => exact absurd (trimS_bad h2) h
      | cons _ _ => rfl
    rw [← hT] at HT
    clear hT h
    go_wp2_with fail
    refine HT.out.mono ?_
    rintro e w1 ⟨rfl, hb⟩
    have HB := Lib.hid hb
    clear hb HT
    go_wp2_with fail
    go_ret2
    exact ⟨rfl, HB.out⟩

theorem Trim_ok (s : ByteArray) (w : World) (hs : s.size ≤ 9223372036854775807) (h : Digits s.data.toList) :
    Calls Tryd.prog 35 #[.string s, .string ⟨#[48, 49, 50, 51, 52, 53, 54, 55, 56, 57]⟩] w fun e w' => e = .returned (.string ⟨#[]⟩) ∧ Below w.heap.size w w' := by
  have h1 := Trim_digs s w hs
  rw [trimS_digits h] at h1
  exact h1

set_option maxRecDepth 100000 in
set_option maxHeartbeats 2000000 in
theorem Read_long (s : ByteArray) (x : Int) (w : World) (hs : s.size ≤ 9223372036854775807) (hd : Digits s.data.toList) (hl : 1024 < s.data.toList.length) :
    Calls Tryd.prog 14 #[.string s, .int .i64 x] w fun e w' => e = .returned (.tuple #[.float .f64 0, .int .i64 3]) ∧ Below w.heap.size w w' := by
  have HT := Lib.hid (Trim_ok s w hs hd)
  have h0 : s.toList.isEmpty = false := by
    rw [ByteArray.toList_eq]
    cases h : s.data.toList with
    | nil => rw [h] at hl; simp at hl
    | cons _ _ => rfl
  have hl2 : 1024 < (s.size : Int) := by
    have hsz : s.size = s.data.toList.length := by simp
    omega
  clear hd hl
  go_enter Tryd.func14, Tryd.ntmps14
  go_wp2_with fail
  refine HT.out.mono ?_
  rintro e w1 ⟨rfl, hb⟩
  have HB := Lib.hid hb
  clear hb HT
  go_wp2_with fail
  go_ret2
  exact ⟨rfl, HB.out⟩

set_option maxRecDepth 100000 in
set_option maxHeartbeats 4000000 in
theorem Read_ok (s : ByteArray) (x : Int) (w : World) (hn : s.data.toList ≠ []) (hd : Digits s.data.toList) (hl : s.data.toList.length ≤ 1024) (hx1 : -9223372036854775808 ≤ x) (hx2 : x ≤ 9223372036854775807) :
    Calls Tryd.prog 14 #[.string s, .int .i64 x] w fun e w' => e = .returned (.tuple #[.float .f64 (readB s.data.toList x), .int .i64 0]) ∧ Below w.heap.size w w' := by
  have hsz : s.size = s.data.toList.length := by simp
  have HT := Lib.hid (Trim_ok s w (by omega) hd)
  have h0 : s.toList.isEmpty = false := by
    rw [ByteArray.toList_eq]
    simpa using hn
  have hTL : Hid (∀ W, Calls Tryd.prog 36 #[.string s, .string ⟨#[48]⟩] W fun e w' => e = .returned (.string ⟨(bare s.data.toList).toArray⟩) ∧ w' = W) := fun W => Tryd.strings_TrimLeft_one s 48 (by decide) W
  obtain ⟨t, ht⟩ : ∃ t : ByteArray, t = ⟨(bare s.data.toList).toArray⟩ := ⟨_, rfl⟩
  rw [← ht] at hTL
  have htl : t.data.toList = bare s.data.toList := by rw [ht]
  obtain ⟨n, hn0⟩ : ∃ n, n = t.size := ⟨_, rfl⟩
  have hn1 : t.size = n := hn0.symm
  have hn2 : (bare s.data.toList).length = n := by rw [← htl, hn0]; simp
  have hn3 : n ≤ 1024 := by have := bare_length s.data.toList; omega
  have hdt : Digits t.data.toList := by rw [htl]; exact bare_digits hd
  have hR : Hid (readB s.data.toList x = if n = 0 ∨ x < -4000 then 0 else if 2000 < x ∨ 310 < (n : Int) + x then 9218868437227405312 else if (n : Int) + x < -330 then 0 else near (digVal t.data.toList * 10 ^ x.toNat) (10 ^ (-x).toNat)) := by
    show _ = _
    unfold readB
    rw [hn2, htl]
  have HD0 : Hid (n ≠ 0 → 0 < digVal t.data.toList) := fun h => by rw [htl]; exact bare_pos hd (by rw [hn2]; exact h)
  generalize readB s.data.toList x = R at *
  have HDT := Lib.hid hdt
  have hlt : t.data.toList.length = n := by rw [htl, hn2]
  have HLT := Lib.hid hlt
  generalize hLe : s.data.toList = L at *
  have HLe := Lib.hid hLe
  have HD := Lib.hid hd
  clear hd hn hLe ht htl hn0 hn2 hdt hlt
  go_enter Tryd.func14, Tryd.ntmps14
  go_wp2_with fail
  refine HT.out.mono ?_
  rintro e w1 ⟨rfl, hb⟩
  have HB := Lib.hid hb
  have hs1 := hb.size
  clear hb HT
  have hls : (s.size : Int) ≤ 1024 := by omega
  go_wp2_with (refine wpList_bytes _ rfl _ rfl s rfl ?_; rw [HLe.out, hsz]; intro cap1 w2 hl2 hb2 hs2)
  have HB2 := Lib.hid (HB.out.trans (hb2.mono hs1))
  generalize hg1 : w1.heap.size = g1 at *
  have HL1 := Lib.hid hl2
  clear hg1 hl2 hb2 HB hls
  go_wp2_with fail
  go_loop [28] (fun i => ∃ k : Nat, k ≤ L.length ∧ i = .int .i64 k) (fun i => L.length - (intOf i).toNat)
  case atStart => exact ⟨0, Nat.zero_le _, rfl⟩
  case round =>
    obtain ⟨k, hk, rfl⟩ := hrel
    by_cases hlt : k < L.length
    · have hc := HL1.out k hlt
      rw [Nat.zero_add] at hc
      have hdd := HD.out _ (List.getElem_mem hlt)
      generalize L[k].toNat = c at *
      go_wp2_with fail
      go_round
      case rel => exact ⟨k + 1, by omega, by go_num⟩
      case measure => simp [intOf]; omega
    · obtain rfl : k = L.length := by omega
      clear HL1
      go_wp2_with fail
      refine (hTL.out w2).mono ?_
      rintro e w3 ⟨rfl, rfl⟩
      clear hTL
      have HB3 := Lib.hid (HB2.out)
      have hs3 := hs2
      have hbs := HB2.out.size
      clear HB2 hs2 HLe hsz h0 hk hlt HD hl
      by_cases hc0 : n = 0 ∨ x < -4000
      · obtain rfl : R = 0 := by rw [hR.out, if_pos hc0]
        rcases hc0 with h | h
        · clear hn3
          subst h
          go_wp2_with fail
          go_ret2
          exact ⟨rfl, HB3.out⟩
        · by_cases h2 : n = 0
          · subst h2
            go_wp2_with fail
            go_ret2
            exact ⟨rfl, HB3.out⟩
          · have h3 : (n : Int) ≠ 0 := by omega
            go_wp2_with fail
            go_ret2
            exact ⟨rfl, HB3.out⟩
      · have h3 : (n : Int) ≠ 0 := by omega
        have h4 : -4000 ≤ x := by omega
        have hD0 := HD0.out (by omega)
        have hno : ¬ (((n : Int) == 0) = true ∨ x < -4000) := by rw [beq_iff_eq]; omega
        by_cases hc1 : 2000 < x ∨ 310 < (n : Int) + x
        · obtain rfl : R = 9218868437227405312 := by rw [hR.out, if_neg hc0, if_pos hc1]
          clear hR hc0
          by_cases h5 : 2000 < x
          · clear hc1
            go_wp2_with fail
            refine (Inf_pos w3).mono ?_
            rintro e w4 ⟨rfl, rfl⟩
            go_wp2_with fail
            go_ret2
            exact ⟨rfl, HB3.out⟩
          · have h6 : 310 < (n : Int) + x := by omega
            clear hc1
            go_wp2_with fail
            refine (Inf_pos w3).mono ?_
            rintro e w4 ⟨rfl, rfl⟩
            go_wp2_with fail
            go_ret2
            exact ⟨rfl, HB3.out⟩
        · have h5 : x ≤ 2000 := by omega
          have h6 : (n : Int) + x ≤ 310 := by omega
          by_cases hc2 : (n : Int) + x < -330
          · obtain rfl : R = 0 := by rw [hR.out, if_neg hc0, if_neg hc1, if_pos hc2]
            clear hR hc0
            go_wp2_with fail
            go_ret2
            exact ⟨rfl, HB3.out⟩
          · have hR2 : R = near (digVal t.data.toList * 10 ^ x.toNat) (10 ^ (-x).toNat) := by rw [hR.out, if_neg hc0, if_neg hc1, if_neg hc2]
            have HRR := Lib.hid hR2
            have h7 : -330 ≤ (n : Int) + x := by omega
            clear hR hc0 hc1 hc2 hR2
            have hDl : digVal t.data.toList < 10 ^ n := by rw [← HLT.out]; exact digVal_lt HDT.out
            have hB1 : nbits (digVal t.data.toList) ≤ 4100 := read_d hDl hn3
            have hB2 := read_x hDl hn3 h6
            have hB3 := read_v hDl h6
            have hB4 : nbits (10 ^ x.toNat) ≤ 5700 := read_pow (by omega)
            have hB5 : nbits (10 ^ (-x).toNat) ≤ 5700 := read_pow (by omega)
            have hne : t.data.toList ≠ [] := by intro h; have := HLT.out; rw [h] at this; simp at this; omega
            have HPA := Lib.hid (fun W => Parse_any t W hne HDT.out (limbs_of_bits (by omega)) (by have := HLT.out; omega))
            have hp1 : 0 < (10 : Nat) ^ (-x).toNat := Nat.pow_pos (by decide)
            generalize digVal t.data.toList = D at *
            have P1 := Lib.hid (fun W => pow10_any x.toNat W (limbs_of_bits (by omega)) (by omega))
            have P2 := Lib.hid (fun W => pow10_any (-x).toNat W (limbs_of_bits (by omega)) (by omega))
            have M1 := Lib.hid (fun W va vb h1 h2 => Mul_any va vb D (10 ^ x.toNat) W h1 h2 (limbs_of_bits (by omega)) (limbs_of_bits (by omega)) (limbs_of_bits (by omega)))
            have hNE : Hid (∀ (W : World) (va vb : Value), NatV W va (D * 10 ^ x.toNat) → NatV W vb (10 ^ (-x).toNat) → Calls Tryd.prog 41 #[va, vb] W fun e W' => e = .returned (.float .f64 R) ∧ Below W.heap.size W W') := by
              intro W va vb h1 h2
              refine (nearest_any va vb _ _ W h1 h2 hp1 (by omega) (by omega) hB3).mono ?_
              rintro e W' ⟨E, hE, rfl, hb⟩
              rw [nearBits_near (Nat.mul_pos hD0 (Nat.pow_pos (by decide))) hp1 hE]
              exact ⟨by rw [HRR.out], hb⟩
            obtain ⟨k1, hk1⟩ : ∃ k : Nat, k = x.toNat := ⟨_, rfl⟩
            obtain ⟨k2, hk2⟩ : ∃ k : Nat, k = (-x).toNat := ⟨_, rfl⟩
            have e1 : max x 0 = (k1 : Int) := by omega
            have e2 : max (-x) 0 = (k2 : Int) := by omega
            rw [← hk1] at P1 M1 hNE
            rw [← hk2] at P2 hNE
            generalize 10 ^ k1 = p1 at *
            generalize 10 ^ k2 = p2 at *
            clear hDl hB1 hB2 hB3 hB4 hB5 hne hp1 HRR hk1 hk2
            go_wp2_with fail
            refine (HPA.out w3).mono ?_
            rintro e w4 ⟨v4, rfl, hv4, hb4⟩
            have HV4 := Lib.hid hv4
            have HB4 := Lib.hid (HB3.out.trans (hb4.mono hbs))
            have hs4 := hb4.size
            clear hv4 hb4 HB3 HPA
            go_wp2_with fail
            refine (P1.out w4).mono ?_
            rintro e w5 ⟨v5, rfl, hv5, hb5⟩
            have HM := Lib.hid (M1.out w5 v4 v5 (HV4.out.below hb5) hv5)
            have HB5 := Lib.hid (HB4.out.trans (hb5.mono (by omega)))
            have hs5 := hb5.size
            clear hv5 hb5 HB4 HV4 P1 M1
            go_wp2_with fail
            refine HM.out.mono ?_
            rintro e w6 ⟨v6, rfl, hv6, hb6⟩
            have HV6 := Lib.hid hv6
            have HB6 := Lib.hid (HB5.out.trans (hb6.mono (by omega)))
            have hs6 := hb6.size
            clear hv6 hb6 HB5 HM
            go_wp2_with fail
            refine (P2.out w6).mono ?_
            rintro e w7 ⟨v7, rfl, hv7, hb7⟩
            have HN := Lib.hid (hNE.out w7 v6 v7 (HV6.out.below hb7) hv7)
            have HB7 := Lib.hid (HB6.out.trans (hb7.mono (by omega)))
            have hs7 := hb7.size
            clear hv7 hb7 HB6 HV6 P2 hNE
            go_wp2_with fail
            refine HN.out.mono ?_
            rintro e w8 ⟨rfl, hb8⟩
            have HB8 := Lib.hid (HB7.out.trans (hb8.mono (by omega)))
            clear hb8 HN HB7
            go_wp2_with fail
            go_ret2
            exact ⟨rfl, HB8.out⟩
end Go.Proofs.YtkpikkeblogdcaaDoor
end

section
/- thresherlaw03: text, same. -/
namespace Go.Proofs.YtkpikkeblogdcaaDoor
open Go.RowKit
set_option linter.unusedVariables false

theorem same_any (x y : Nat) (w : World) : Calls Tryd.prog 16 #[.float .f64 x, .float .f64 y] w fun e w' => e = .returned (.bool (x == y)) ∧ w' = w := by
  go_enter Tryd.func16, Tryd.ntmps16
  go_wp2_with fail
  go_ret
  refine ⟨?_, rfl⟩
  rw [show ((x : Int) == (y : Int)) = (x == y) by rw [Bool.eq_iff_iff, beq_iff_eq, beq_iff_eq]; omega]
  rfl

/-- the sign of a digit -/
def dig (r : Nat) : UInt8 := UInt8.ofNat (48 + r)
theorem dig_nat (r : Nat) (h : r < 10) : (dig r).toNat = 48 + r := by
  unfold dig; rw [UInt8.toNat_ofNat', Nat.mod_eq_of_lt (by omega)]
theorem cell_one (w : World) (t : TypeId) (n : Nat) (v : Int) (hv : v = (48 + n % 10 : Nat)) : ∀ j (hj : j < [dig (n % 10)].length), (w.alloc (.cells #[.int .u8 v] t)).cell? ⟨w.heap.size, j, none⟩ = some (.int .u8 ([dig (n % 10)][j].toNat : Nat)) := by
  intro j hj
  have h1 : j < 1 := hj
  obtain rfl : j = 0 := by omega
  simp only [List.getElem_cons_zero]
  rw [dig_nat _ (by omega), World.cell?_alloc_new, hv]
  rfl

/-- the digits of n so far: the least of them are r, m is what is left -/
structure Left (n m : Nat) (l r : List UInt8) : Prop where
  eq : l = dig (m % 10) :: r
  val : n = m * 10 ^ r.length + digVal r
  dig : Digits r
  pos : r = [] ∨ 0 < m
theorem Left.start (n : Nat) : Left n n [Go.Proofs.YtkpikkeblogdcaaDoor.dig (n % 10)] [] := ⟨rfl, by simp [digVal], by intro c hc; simp at hc, .inl rfl⟩
theorem Left.digits {n m : Nat} {l r : List UInt8} (h : Left n m l r) : Digits l := by
  rw [h.eq]
  intro c hc
  rcases List.mem_cons.1 hc with rfl | h2
  · rw [dig_nat _ (by omega)]; omega
  · exact h.dig c h2
theorem Left.digVal {n m : Nat} {l r : List UInt8} (h : Left n m l r) : digVal l = (m % 10) * 10 ^ r.length + Go.Proofs.YtkpikkeblogdcaaDoor.digVal r := by
  rw [h.eq, digVal_cons, dig_nat _ (by omega)]
  congr 2
  omega
theorem Left.step {n m : Nat} {l r : List UInt8} (h : Left n m l r) (hm : 10 ≤ m) : Left n (m / 10) (Go.Proofs.YtkpikkeblogdcaaDoor.dig (m / 10 % 10) :: l) l := by
  refine ⟨rfl, ?_, h.digits, .inr (by omega)⟩
  rw [h.digVal]
  have h1 := h.val
  have e : l.length = r.length + 1 := by rw [h.eq]; rfl
  rw [e, Nat.pow_succ]
  generalize 10 ^ r.length = P at *
  have e2 : m = 10 * (m / 10) + m % 10 := by omega
  rw [h1]
  generalize m / 10 = a at *
  generalize m % 10 = b at *
  subst e2
  have e3 : (10 * a + b) * P = a * (P * 10) + b * P := by rw [Nat.add_mul, Nat.mul_comm 10 a, Nat.mul_assoc, Nat.mul_comm 10 P]
  omega
theorem Left.canon {n m : Nat} {l r : List UInt8} (h : Left n m l r) (hm : m < 10) : Canon l n := by
  refine ⟨by rw [h.eq]; simp, h.digits, ?_, ?_⟩
  · rw [h.digVal, h.val, Nat.mod_eq_of_lt hm]
  · intro c t hl hc
    rw [h.eq] at hl
    injection hl with h1 h2
    subst h2
    rw [← h1, dig_nat _ (by omega)] at hc
    rcases h.pos with h3 | h3
    · exact h3
    · omega
theorem Left.short {n m : Nat} {l r : List UInt8} (h : Left n m l r) (hn : n < 18446744073709551616) : l.length ≤ 20 := by
  have e : l.length = r.length + 1 := by rw [h.eq]; rfl
  rcases h.pos with h1 | h1
  · rw [e, h1]; decide
  · have h2 : 10 ^ r.length ≤ n := by
      rw [h.val]
      have : 1 * 10 ^ r.length ≤ m * 10 ^ r.length := Nat.mul_le_mul_right _ h1
      omega
    have h3 : r.length < 20 := (Nat.pow_lt_pow_iff_right (a := 10) (by decide)).1 (Nat.lt_of_le_of_lt h2 (Nat.lt_of_lt_of_le hn (by decide)))
    omega

set_option maxRecDepth 100000 in
set_option maxHeartbeats 2000000 in
theorem text_any (n : Nat) (w : World) (hn : n < 18446744073709551616) :
    Calls Tryd.prog 24 #[.int .u64 n] w fun e w' => ∃ s : ByteArray, e = .returned (.string s) ∧ Canon s.data.toList n ∧ s.data.toList.length ≤ 20 ∧ Below w.heap.size w w' := by
  go_enter Tryd.func24, Tryd.ntmps24
  go_wp2_with
    (refine wpList_string _ rfl _ rfl w.heap.size 1 [dig (n % 10)] rfl (cell_one w _ n _ (by omega)) ?_)
  go_loopw [0, 3] (fun mv sv wr => ∃ (m : Nat) (s : ByteArray) (r : List UInt8), mv = .int .u64 m ∧ m ≤ n ∧ sv = .string s ∧ Left n m s.data.toList r ∧ Below w.heap.size w wr ∧ w.heap.size ≤ wr.heap.size) (fun mv _ _ => (intOf mv).toNat)
  case atStart => exact ⟨n, _, [], rfl, Nat.le_refl _, rfl, Left.start n, (Below.refl _ _).alloc (Nat.le_refl _) _, by simp⟩
  case round =>
    obtain ⟨m, s, r, rfl, hmn, rfl, hl, hb, hs⟩ := hrel
    have HL := Lib.hid hl
    have HB := Lib.hid hb
    have hsl : s.size ≤ 20 := by
      have hsz : s.size = s.data.toList.length := by simp
      have := hl.short hn
      omega
    clear hl hb
    have hm64 : m < 18446744073709551616 := by omega
    by_cases h10 : 10 ≤ m
    · obtain ⟨k, hk⟩ : ∃ k, k = m / 10 := ⟨_, rfl⟩
      have ek : (m : Int) / 10 = (k : Int) := by omega
      have ek2 : (m : Int).tdiv 10 = (k : Int) := by rw [Int.tdiv_eq_ediv_of_nonneg (by omega)]; omega
      obtain ⟨k, hk⟩ : ∃ k, k = m / 10 := ⟨_, rfl⟩
      have hk64 : k < 18446744073709551616 := by omega
      have hkm : k < m := by omega
      have hl2 := HL.out.step h10
      rw [← hk] at hl2
      have HL2 := Lib.hid hl2
      have hkn : k ≤ n := by omega
      have hm10 : (k : Int) = (m : Int) / 10 := by omega
      clear hl2 hk HL
      obtain ⟨M, hM⟩ : ∃ M : Int, M = (m : Int) := ⟨_, rfl⟩
      rw [← hM] at hm10 ⊢
      have hM1 : 10 ≤ M := by omega
      have hM2 : M < 18446744073709551616 := by omega
      have HM := Lib.hid hM
      have ek : M / 10 = (k : Int) := hm10.symm
      clear hM hm10 h10 hm64 hmn
      go_wp2_with
        (refine wpList_string _ rfl _ rfl wr.heap.size 1 [dig (k % 10)] rfl (cell_one wr _ k _ (by omega)) ?_)
      go_roundw
      case rel =>
        refine ⟨k, _, s.data.toList, rfl, hkn, rfl, ?_, HB.out.alloc hs _, by simp; omega⟩
        rw [ByteArray.data_append, Array.toList_append]
        exact HL2.out
      case measure =>
        rw [HM.out]
        show k < m
        exact hkm
    · go_wp2_with fail
      go_ret
      exact ⟨s, rfl, HL.out.canon (by omega), HL.out.short hn, HB.out⟩
end Go.Proofs.YtkpikkeblogdcaaDoor
end

section
/- thresherlaw03: fixed; a number has one text. -/
namespace Go.Proofs.YtkpikkeblogdcaaDoor
open Go.RowKit
set_option linter.unusedVariables false

theorem digits_unique : ∀ l l' : List UInt8, Digits l → Digits l' → l.length = l'.length → digVal l = digVal l' → l = l'
  | [], [], _, _, _, _ => rfl
  | [], _ :: _, _, _, h, _ => by simp at h
  | _ :: _, [], _, _, h, _ => by simp at h
  | c :: r, c' :: r', hd, hd', hl, hv => by
    have hl2 : r.length = r'.length := by simpa using hl
    have h1 := hd c (by simp)
    have h1' := hd' c' (by simp)
    have hr : Digits r := fun x hx => hd x (by simp [hx])
    have hr' : Digits r' := fun x hx => hd' x (by simp [hx])
    rw [digVal_cons, digVal_cons, hl2] at hv
    have h2 := digVal_lt hr
    have h2' := digVal_lt hr'
    rw [hl2] at h2
    have hP : 0 < 10 ^ r'.length := Nat.pow_pos (by decide)
    generalize 10 ^ r'.length = P at *
    have ha : (digVal r + P * (c.toNat - 48)) / P = (digVal r' + P * (c'.toNat - 48)) / P := by
      rw [Nat.mul_comm P, Nat.mul_comm P, Nat.add_comm, hv, Nat.add_comm]
    rw [Nat.add_mul_div_left _ _ hP, Nat.add_mul_div_left _ _ hP, Nat.div_eq_of_lt h2, Nat.div_eq_of_lt h2'] at ha
    have hc : c = c' := UInt8.toNat_inj.1 (by omega)
    subst hc
    rw [digits_unique r r' hr hr' hl2 (by omega)]
theorem canon_low {l : List UInt8} {x : Nat} (h : Canon l x) (hl : 1 < l.length) : 10 ^ (l.length - 1) ≤ x := by
  cases h1 : l with
  | nil => exact absurd h1 h.ne
  | cons c r =>
    have h2 := h.dig c (by rw [h1]; simp)
    have h3 : c.toNat ≠ 48 := fun h4 => by
      have := h.top c r h1 h4
      rw [h1, this] at hl; simp at hl
    have h5 := h.val
    rw [h1, digVal_cons] at h5
    have h6 : 1 * 10 ^ r.length ≤ (c.toNat - 48) * 10 ^ r.length := Nat.mul_le_mul_right _ (by omega)
    simp only [List.length_cons, Nat.add_sub_cancel]
    omega
theorem canon_length {l l' : List UInt8} {x : Nat} (h : Canon l x) (h' : Canon l' x) : l.length ≤ l'.length := by
  rcases Nat.lt_or_ge l'.length l.length with h1 | h1
  · exfalso
    have h0 : 0 < l'.length := List.length_pos_iff.2 h'.ne
    have h2 := canon_low h (by omega)
    have h3 := digVal_lt h'.dig
    rw [h'.val] at h3
    have h4 : 10 ^ l'.length ≤ 10 ^ (l.length - 1) := Nat.pow_le_pow_right (by decide) (by omega)
    omega
  · exact h1
/-- a number has one text -/
theorem canon_unique {l l' : List UInt8} {x : Nat} (h : Canon l x) (h' : Canon l' x) : l = l' :=
  digits_unique l l' h.dig h'.dig (Nat.le_antisymm (canon_length h h') (canon_length h' h)) (by rw [h.val, h'.val])
theorem digits_mk {l : List UInt8} (h : (l.all fun c => decide (48 ≤ c.toNat) && decide (c.toNat ≤ 57)) = true) : Digits l := by
  intro c hc
  have := List.all_eq_true.1 h c hc
  simpa using this
theorem canon_mk {l : List UInt8} {x : Nat} (h : (l.all fun c => decide (48 ≤ c.toNat) && decide (c.toNat ≤ 57)) = true) (hne : l ≠ []) (hv : digVal l = x) (ht : l.length = 1 ∨ l.head? ≠ some 48) : Canon l x := by
  refine ⟨hne, ?_, hv, ?_⟩
  · intro c hc
    have := List.all_eq_true.1 h c hc
    simpa using this
  · intro c r hl hc
    rcases ht with h1 | h1
    · rw [hl] at h1; simpa using h1
    · rw [hl] at h1
      exact absurd (by simp; exact UInt8.toNat_inj.1 hc) h1

def okAt (i : Nat) : Bool := !(decide (1000 ≤ scaledN 4653144203864309760 (3 - ((i : Int) - 325))) && decide (scaledN 4653144203864309760 (3 - ((i : Int) - 325)) < 10000)) || i == 328
theorem okAll : (List.range 635).all okAt = true := by kernel_rfl
theorem sci_fixed {x : Int} (h1 : -325 ≤ x) (h2 : x ≤ 309) (h : SciAt 4653144203864309760 3 x) : x = 3 := by
  have h3 := List.all_eq_true.1 okAll (x + 325).toNat (List.mem_range.2 (by omega))
  unfold okAt at h3
  rw [show (((x + 325).toNat : Nat) : Int) - 325 = x by omega] at h3
  have h4 := h.ge
  have h5 := h.lt
  rw [show (10 : Nat) ^ 3 = 1000 by decide] at h4
  rw [show (10 : Nat) ^ (3 + 1) = 10000 by decide] at h5
  have e : ((3 : Nat) : Int) = 3 := rfl
  rw [e] at h4 h5
  rw [decide_eq_true h4, decide_eq_true h5] at h3
  have h6 : (x + 325).toNat = 328 := by simpa using h3
  omega

theorem toBytes {s : ByteArray} {l : List UInt8} (h : s.data.toList = l) : s = ⟨l.toArray⟩ := by
  cases s; simp at h; subst h; rfl

theorem Read_fixed (w : World) : Calls Tryd.prog 14 #[.string ⟨#[51, 49, 52, 49, 54]⟩, .int .i64 (-4)] w fun e w' => e = .returned (.tuple #[.float .f64 4614256673094690983, .int .i64 0]) ∧ Below w.heap.size w w' := by
  have h := Read_ok ⟨#[51, 49, 52, 49, 54]⟩ (-4) w (by simp) (digits_mk (by decide)) (by decide) (by decide) (by decide)
  rw [show readB (⟨#[51, 49, 52, 49, 54]⟩ : ByteArray).data.toList (-4) = 4614256673094690983 by kernel_rfl] at h
  exact h
theorem Fixed_fixed (w : World) : Calls Tryd.prog 18 #[.float .f64 4612811918334230528, .int .i64 0] w fun e w' => e = .returned (.tuple #[.string ⟨#[50]⟩, .int .i64 0]) ∧ Below w.heap.size w w' := by
  refine (Fixed_ok 4612811918334230528 0 w (by decide) (by decide) (by decide)).mono ?_
  rintro e w' ⟨s, l, rfl, hc, hs, hb⟩
  rw [show scaledN 4612811918334230528 (0 : Nat) = 2 by kernel_rfl] at hc
  have hl := canon_unique hc (canon_mk (l := [50]) (by decide) (by simp) (by decide) (.inl rfl))
  rw [hl] at hs
  rw [toBytes hs]
  exact ⟨rfl, hb⟩
theorem Sci_fixed (w : World) : Calls Tryd.prog 20 #[.float .f64 4653144203864309760, .int .i64 3] w fun e w' => e = .returned (.tuple #[.string ⟨#[49, 50, 51, 52]⟩, .int .i64 3, .int .i64 0]) ∧ Below w.heap.size w w' := by
  refine (Sci_loop 4653144203864309760 3 w (by decide) (by decide) (by decide) (by decide)).mono ?_
  rintro e w' ⟨s, x, rfl, hc, hl, hsa, hx1, hx2, hb⟩
  obtain rfl := sci_fixed hx1 hx2 hsa
  rw [show scaledN 4653144203864309760 ((3 : Nat) - 3) = 1234 by kernel_rfl] at hc
  have hl := canon_unique hc (canon_mk (l := [49, 50, 51, 52]) (by decide) (by simp) (by decide) (.inr (by decide)))
  rw [toBytes hl]
  exact ⟨rfl, hb⟩

set_option maxRecDepth 100000 in
set_option maxHeartbeats 2000000 in
theorem fixed_any (w : World) : Calls Tryd.prog 13 #[] w fun e w' => e = .returned (.bool true) ∧ Below w.heap.size w w' := by
  go_enter Tryd.func13, Tryd.ntmps13
  go_wp2_with fail
  refine (Read_fixed w).mono ?_
  rintro e w1 ⟨rfl, hb1⟩
  have HB1 := Lib.hid hb1
  have hs1 := hb1.size
  clear hb1
  go_wp2_with fail
  refine (Fixed_fixed w1).mono ?_
  rintro e w2 ⟨rfl, hb2⟩
  have HB2 := Lib.hid (HB1.out.trans (hb2.mono hs1))
  have hs2 := hb2.size
  clear hb2 HB1
  go_wp2_with fail
  refine (Sci_fixed w2).mono ?_
  rintro e w3 ⟨rfl, hb3⟩
  have HB3 := Lib.hid (HB2.out.trans (hb3.mono (by omega)))
  clear hb3 HB2
  go_wp2_with fail
  go_ret
  exact ⟨rfl, HB3.out⟩
end Go.Proofs.YtkpikkeblogdcaaDoor
end

section
/- Plain: how the model reads a float's bits, and compares them. -/
namespace Go.Proofs.YtkpikkeblogdcaaDoor
open Go

/-- the float in steps of the least one -/
def vl (b : Nat) : Nat := mof b * 2 ^ jof b
theorem vl_lt {x y : Nat} (h : x < y) : vl x < vl y := by
  unfold vl
  have hx := bits_parts x
  have hy := bits_parts y
  have h1 := mof_lt x
  have h2 := mof_lt y
  have h3 := mof_ge x
  have h4 := mof_ge y
  rcases Nat.lt_trichotomy (jof x) (jof y) with hj | hj | hj
  · have h5 : 2 ^ 52 ≤ mof y := by rcases h4 with h | h; omega; exact h
    calc mof x * 2 ^ jof x < 2 ^ 53 * 2 ^ jof x := Nat.mul_lt_mul_of_pos_right h1 (pow2_pos _)
      _ = 2 ^ 52 * 2 ^ (jof x + 1) := by rw [two53, Nat.pow_succ 2 (jof x), Nat.mul_assoc, Nat.mul_comm 2]
      _ ≤ 2 ^ 52 * 2 ^ jof y := Nat.mul_le_mul_left _ (Nat.pow_le_pow_right (by decide) hj)
      _ ≤ mof y * 2 ^ jof y := Nat.mul_le_mul_right _ h5
  · rw [hj]
    exact Nat.mul_lt_mul_of_pos_right (by rw [hj] at hx; omega) (pow2_pos _)
  · exfalso
    have h5 : (jof y + 1) * 2 ^ 52 ≤ jof x * 2 ^ 52 := Nat.mul_le_mul_right _ hj
    rw [Nat.add_mul] at h5
    have h6 : 2 ^ 52 ≤ mof x := by rcases h3 with h | h; omega; exact h
    have h7 : (2 : Nat) ^ 53 = 2 ^ 52 + 2 ^ 52 := by decide
    omega
theorem vl_le {x y : Nat} (h : x ≤ y) : vl x ≤ vl y := by
  rcases Nat.eq_or_lt_of_le h with rfl | h
  · exact Nat.le_refl _
  · exact Nat.le_of_lt (vl_lt h)
theorem read_inf : FloatKind.f64.format.read 9218868437227405312 = .infinity false := by decide
theorem read_fin {b : Nat} (h : b < 9218868437227405312) : FloatKind.f64.format.read b = .number false (mof b) ((jof b : Int) - 1074) := by
  have e1 : FloatKind.f64.format.signWeight = 9223372036854775808 := by decide
  have e2 : FloatKind.f64.format.binade = 4503599627370496 := by decide
  have e3 : FloatKind.f64.format.infRung = 9218868437227405312 := by decide
  have e4 : FloatKind.f64.format.leastPlace = -1074 := by decide
  have e5 : (b / 9223372036854775808 % 2 == 1) = false := by rw [Nat.div_eq_of_lt (by omega)]; rfl
  have e6 : b % 9223372036854775808 = b := Nat.mod_eq_of_lt (by omega)
  unfold Ieee.Format.read
  simp only [e1, e2, e3, e4, e5, e6]
  have e7 : (2 : Nat) ^ 52 = 4503599627370496 := by decide
  unfold mof jof
  rw [e7]
  by_cases hs : b < 4503599627370496
  · rw [if_pos hs, if_pos (by omega)]
    congr 1
    rw [Nat.div_eq_of_lt hs]
    rfl
  · rw [if_neg hs, if_pos h, if_neg (by omega)]
    congr 1
    all_goals omega
theorem order_fin {x y : Nat} (hx : x < 9218868437227405312) (hy : y < 9218868437227405312) : FloatKind.f64.format.order x y = some (compare x y) := by
  unfold Ieee.Format.order
  rw [read_fin hx, read_fin hy]
  unfold Ieee.Datum.order
  simp only
  congr 1
  obtain ⟨c, hc⟩ : ∃ c, c = min (jof x) (jof y) := ⟨_, rfl⟩
  have e1 : ((jof x : Int) - 1074 - min ((jof x : Int) - 1074) ((jof y : Int) - 1074)).toNat = jof x - c := by omega
  have e2 : ((jof y : Int) - 1074 - min ((jof x : Int) - 1074) ((jof y : Int) - 1074)).toNat = jof y - c := by omega
  rw [e1, e2]
  unfold Ieee.signed
  simp only [Bool.false_eq_true, if_false]
  rw [Nat.shiftLeft_eq, Nat.shiftLeft_eq]
  have h1 : mof x * 2 ^ (jof x - c) * 2 ^ c = vl x := by unfold vl; rw [Nat.mul_assoc, ← Nat.pow_add, Nat.sub_add_cancel (by omega)]
  have h2 : mof y * 2 ^ (jof y - c) * 2 ^ c = vl y := by unfold vl; rw [Nat.mul_assoc, ← Nat.pow_add, Nat.sub_add_cancel (by omega)]
  have hp := pow2_pos c
  generalize mof x * 2 ^ (jof x - c) = a at *
  generalize mof y * 2 ^ (jof y - c) = b at *
  rcases Nat.lt_trichotomy x y with h | h | h
  · have h3 := vl_lt h
    rw [← h1, ← h2] at h3
    have h4 := Nat.lt_of_mul_lt_mul_right h3
    rw [Int.compare_eq_lt.2 (by omega), Nat.compare_eq_lt.2 h]
  · subst h
    have h4 : a = b := Nat.eq_of_mul_eq_mul_right hp (h1.trans h2.symm)
    subst h4
    rw [Int.compare_eq_eq.2 rfl, Nat.compare_eq_eq.2 rfl]
  · have h3 := vl_lt h
    rw [← h1, ← h2] at h3
    have h4 := Nat.lt_of_mul_lt_mul_right h3
    rw [Int.compare_eq_gt.2 (by omega), Nat.compare_eq_gt.2 h]
/-- floats that are not negative, and no NaN, are compared as their bits -/
theorem order_pos {x y : Nat} (hx : x ≤ 9218868437227405312) (hy : y ≤ 9218868437227405312) : FloatKind.f64.format.order x y = some (compare x y) := by
  rcases Nat.eq_or_lt_of_le hx with h1 | h1 <;> rcases Nat.eq_or_lt_of_le hy with h2 | h2
  · subst h1 h2; decide
  · subst h1
    unfold Ieee.Format.order
    rw [read_inf, read_fin h2, Nat.compare_eq_gt.2 h2]
    rfl
  · subst h2
    unfold Ieee.Format.order
    rw [read_inf, read_fin h1, Nat.compare_eq_lt.2 h1]
    rfl
  · exact order_fin h1 h2
theorem order_lt {x y : Nat} (hx : x ≤ 9218868437227405312) (hy : y ≤ 9218868437227405312) (h : x < y) : FloatKind.f64.format.order x y = some .lt := by rw [order_pos hx hy, Nat.compare_eq_lt.2 h]
theorem order_gt {x y : Nat} (hx : x ≤ 9218868437227405312) (hy : y ≤ 9218868437227405312) (h : y < x) : FloatKind.f64.format.order x y = some .gt := by rw [order_pos hx hy, Nat.compare_eq_gt.2 h]
theorem order_eq {x : Nat} (hx : x ≤ 9218868437227405312) : FloatKind.f64.format.order x x = some .eq := by rw [order_pos hx hx, Nat.compare_eq_eq.2 rfl]
end Go.Proofs.YtkpikkeblogdcaaDoor
end

section
/- thresherlaw03: DecRises. -/
namespace Go.Proofs.YtkpikkeblogdcaaDoor
open Go.RowKit
set_option linter.unusedVariables false

theorem bare_self {c : UInt8} {r : List UInt8} (h : c ≠ 48) : bare (c :: r) = c :: r := by
  unfold bare
  rw [List.dropWhile_cons, if_neg (by simpa using h)]
theorem bare_nought (l : List UInt8) : bare (48 :: l) = bare l := by
  unfold bare
  rw [List.dropWhile_cons, if_pos (by decide)]
theorem canon_zero_text {l : List UInt8} (h : Canon l 0) : l = [48] :=
  canon_unique h (canon_mk (by decide) (by simp) (by decide) (.inl rfl))
theorem canon_pos_text {l : List UInt8} {n : Nat} (h : Canon l n) (hn : 0 < n) : ∃ c r, l = c :: r ∧ c ≠ 48 := by
  cases h1 : l with
  | nil => exact absurd h1 h.ne
  | cons c r =>
    refine ⟨c, r, rfl, fun hc => ?_⟩
    have h2 := h.top c r h1 (by rw [hc]; decide)
    rw [h1, h2, hc] at h
    have h3 := h.val
    have h4 : digVal [48] = 0 := by decide
    omega
theorem readB_nil {l : List UInt8} (h : bare l = []) (e : Int) : readB l e = 0 := by
  unfold readB
  rw [h, if_pos (.inl rfl)]
theorem readB_le (l : List UInt8) (e : Int) : readB l e ≤ 9218868437227405312 := by
  unfold readB
  split
  · omega
  · split
    · omega
    · split
      · omega
      · exact near_le _ _
theorem readB_inf {l : List UInt8} {e : Int} (h0 : (bare l).length ≠ 0) (h1 : -4000 ≤ e) (h : 310 < (bare l).length + e) : readB l e = 9218868437227405312 := by
  unfold readB
  rw [if_neg (by omega), if_pos (.inr h)]
theorem readB_low {l : List UInt8} {e : Int} (h2 : e ≤ 2000) (h : (bare l).length + e < -330) : readB l e = 0 := by
  unfold readB
  by_cases h3 : (bare l).length = 0 ∨ e < -4000
  · rw [if_pos h3]
  · rw [if_neg h3, if_neg (by omega), if_pos h]
theorem readB_near {l : List UInt8} {e : Int} (h0 : (bare l).length ≠ 0) (h1 : -4000 ≤ e) (h2 : e ≤ 2000) (h3 : -330 ≤ (bare l).length + e) (h4 : (bare l).length + e ≤ 310) : readB l e = near (digVal (bare l) * 10 ^ e.toNat) (10 ^ (-e).toNat) := by
  unfold readB
  rw [if_neg (by omega), if_neg (by omega), if_neg (by omega)]
theorem bare_pos_text {l : List UInt8} {n : Nat} (h : Canon l n) (hn : 0 < n) : bare l = l := by
  obtain ⟨c, r, rfl, hc⟩ := canon_pos_text h hn
  exact bare_self hc
theorem readB_append {l : List UInt8} {n : Nat} {e : Int} (h : Canon l n) (h1 : -700 ≤ e) (h2 : e ≤ 700) : readB (l ++ [48]) (e - 1) = readB l e := by
  rcases Nat.eq_zero_or_pos n with hn | hn
  · subst hn
    rw [canon_zero_text h, readB_nil (by decide), readB_nil (by decide)]
  · have hb0 := bare_pos_text h hn
    have hb : bare (l ++ [48]) = l ++ [48] := by
      obtain ⟨c, r, rfl, hc⟩ := canon_pos_text h hn
      exact bare_self hc
    have hk : (bare (l ++ [48])).length = l.length + 1 := by rw [hb]; simp
    have hk0 : (bare l).length = l.length := by rw [hb0]
    have hk1 : l.length ≠ 0 := by have := List.length_pos_iff.2 h.ne; omega
    rcases Int.lt_or_le 310 (l.length + e) with c2 | c2
    · rw [readB_inf (by omega) (by omega) (by omega), readB_inf (by omega) (by omega) (by omega)]
    · rcases Int.lt_or_le (l.length + e) (-330) with c3 | c3
      · rw [readB_low (by omega) (by omega), readB_low (by omega) (by omega)]
      · rw [readB_near (by omega) (by omega) (by omega) (by omega) (by omega), readB_near (by omega) (by omega) (by omega) (by omega) (by omega), hb, hb0, digVal_snoc, h.val]
        have e0 : (UInt8.toNat 48 - 48 : Nat) = 0 := by decide
        rw [e0, Nat.add_zero]
        refine near_same (Nat.pow_pos (by decide)) (Nat.pow_pos (by decide)) ?_
        rcases Int.lt_or_le 0 e with he | he
        · rw [show e.toNat = (e - 1).toNat + 1 by omega, show (-e).toNat = (-(e - 1)).toNat by omega, Nat.pow_succ]
          generalize 10 ^ (-(e - 1)).toNat = P
          generalize 10 ^ (e - 1).toNat = Q
          ac_rfl
        · rw [show (-(e - 1)).toNat = (-e).toNat + 1 by omega, show (e - 1).toNat = e.toNat by omega, Nat.pow_succ]
          generalize 10 ^ (-e).toNat = P
          generalize 10 ^ e.toNat = Q
          ac_rfl
theorem readB_noughts (l : List UInt8) (e : Int) : readB (48 :: 48 :: l) e = readB l e := by
  unfold readB
  rw [bare_nought, bare_nought]
theorem canon_rise {l l' : List UInt8} {n m : Nat} (h : Canon l n) (h' : Canon l' m) (hn : 0 < n) (hnm : n ≤ m) : l.length ≤ l'.length := by
  have h3 := digVal_lt h'.dig
  rw [h'.val] at h3
  have h0 : 0 < l'.length := List.length_pos_iff.2 h'.ne
  rcases Nat.lt_or_ge l'.length l.length with h1 | h1
  · have h2 := canon_low h (by omega)
    have h4 : 10 ^ l'.length ≤ 10 ^ (l.length - 1) := Nat.pow_le_pow_right (by decide) (by omega)
    omega
  · exact h1
theorem readB_mono {l l' : List UInt8} {n m : Nat} {e : Int} (h : Canon l n) (h' : Canon l' m) (hnm : n ≤ m) (h1 : -700 ≤ e) (h2 : e ≤ 700) : readB l e ≤ readB l' e := by
  rcases Nat.eq_zero_or_pos n with hn | hn
  · subst hn
    rw [canon_zero_text h, readB_nil (by decide)]
    exact Nat.zero_le _
  · have hl := canon_rise h h' hn hnm
    have hk : (bare l).length = l.length := by rw [bare_pos_text h hn]
    have hk' : (bare l').length = l'.length := by rw [bare_pos_text h' (by omega)]
    have hk1 : l.length ≠ 0 := by have := List.length_pos_iff.2 h.ne; omega
    rcases Int.lt_or_le 310 (l'.length + e) with c2 | c2
    · rw [readB_inf (l := l') (by omega) (by omega) (by omega)]
      exact readB_le _ _
    · rcases Int.lt_or_le (l.length + e) (-330) with c3 | c3
      · rw [readB_low (l := l) (by omega) (by omega)]
        exact Nat.zero_le _
      · rw [readB_near (l := l) (by omega) (by omega) (by omega) (by omega) (by omega), readB_near (l := l') (by omega) (by omega) (by omega) (by omega) (by omega), bare_pos_text h hn, bare_pos_text h' (by omega), h.val, h'.val]
        exact near_mono (Nat.pow_pos (by decide)) (Nat.pow_pos (by decide)) (Nat.mul_le_mul_right _ (Nat.mul_le_mul_right _ hnm))

set_option maxRecDepth 100000 in
set_option maxHeartbeats 4000000 in
theorem rises_any (n m : Nat) (e0 : Int) (w : World) (hn : n < 18446744073709551616) (hm : m < 18446744073709551616) (he1 : -9223372036854775808 ≤ e0) (he2 : e0 ≤ 9223372036854775807) :
    Calls Tryd.prog 5 #[.int .u64 n, .int .u64 m, .int .i64 e0] w fun e w' => e = .returned (.bool true) ∧ Below w.heap.size w w' := by
  obtain ⟨E, hE⟩ : ∃ E : Int, E = min (max e0 (-700)) 700 := ⟨_, rfl⟩
  have e1 : min (max e0 (-700)) 700 = E := hE.symm
  have hE1 : -700 ≤ E := by omega
  have hE2 : E ≤ 700 := by omega
  have T1 := Lib.hid (fun W => text_any n W hn)
  have T2 := Lib.hid (fun W => text_any m W hm)
  clear hE
  go_enter Tryd.func5, Tryd.ntmps5
  go_wp2_with fail
  refine (fixed_any w).mono ?_
  rintro e w1 ⟨rfl, hb1⟩
  have HB1 := Lib.hid hb1
  have hs1 := hb1.size
  clear hb1
  go_wp2_with fail
  refine (T1.out w1).mono ?_
  rintro e w2 ⟨s, rfl, hc2, hl2, hb2⟩
  have HC2 := Lib.hid hc2
  have HB2 := Lib.hid (HB1.out.trans (hb2.mono hs1))
  have hs2 := hb2.size
  clear hb2 HB1 T1 hc2
  go_wp2_with fail
  refine (T2.out w2).mono ?_
  rintro e w3 ⟨t, rfl, hc3, hl3, hb3⟩
  have HC3 := Lib.hid hc3
  have HB3 := Lib.hid (HB2.out.trans (hb3.mono (by omega)))
  have hs3 := hb3.size
  clear hb3 HB2 T2 hc3
  have hsz : s.size ≤ 20 := by simpa using hl2
  have R1 := Lib.hid (fun W => Read_ok s E W HC2.out.ne HC2.out.dig (by omega) (by omega) (by omega))
  have R2 := Lib.hid (fun W => Read_ok t E W HC3.out.ne HC3.out.dig (by omega) (by omega) (by omega))
  have hR3 : Hid (∀ W, Calls Tryd.prog 14 #[.string (s ++ ⟨#[48]⟩), .int .i64 (E - 1)] W fun e w' => e = .returned (.tuple #[.float .f64 (readB s.data.toList E), .int .i64 0]) ∧ Below W.heap.size W w') := by
    intro W
    have hd : (s ++ ⟨#[48]⟩ : ByteArray).data.toList = s.data.toList ++ [48] := by simp
    have h := Read_ok (s ++ ⟨#[48]⟩) (E - 1) W (by rw [hd]; simp) (by
      rw [hd]; intro c hc
      rcases List.mem_append.1 hc with h | h
      · exact HC2.out.dig c h
      · simp at h; subst h; decide) (by rw [hd]; simp; omega) (by omega) (by omega)
    rw [hd, readB_append HC2.out hE1 hE2] at h
    exact h
  have hR4 : Hid (∀ W, Calls Tryd.prog 14 #[.string (⟨#[48, 48]⟩ ++ s), .int .i64 E] W fun e w' => e = .returned (.tuple #[.float .f64 (readB s.data.toList E), .int .i64 0]) ∧ Below W.heap.size W w') := by
    intro W
    have hd : (⟨#[48, 48]⟩ ++ s : ByteArray).data.toList = 48 :: 48 :: s.data.toList := by simp
    have h := Read_ok (⟨#[48, 48]⟩ ++ s) E W (by rw [hd]; simp) (by
      rw [hd]; intro c hc
      rcases List.mem_cons.1 hc with h | h
      · subst h; decide
      · rcases List.mem_cons.1 h with h | h
        · subst h; decide
        · exact HC2.out.dig c h) (by rw [hd]; simp; omega) (by omega) (by omega)
    rw [hd, readB_noughts] at h
    exact h
  have hX := readB_le s.data.toList E
  have hY := readB_le t.data.toList E
  have hM1 : Hid (n ≤ m → readB s.data.toList E ≤ readB t.data.toList E) := fun h => readB_mono HC2.out HC3.out h hE1 hE2
  have hM2 : Hid (m ≤ n → readB t.data.toList E ≤ readB s.data.toList E) := fun h => readB_mono HC3.out HC2.out h hE1 hE2
  generalize readB s.data.toList E = X at *
  generalize readB t.data.toList E = Y at *
  clear hl2 hl3 HC2 HC3
  go_wp2_with fail
  refine (R1.out w3).mono ?_
  rintro e w4 ⟨rfl, hb4⟩
  have HB4 := Lib.hid (HB3.out.trans (hb4.mono (by omega)))
  have hs4 := hb4.size
  clear hb4 HB3 R1
  go_wp2_with fail
  refine (R2.out w4).mono ?_
  rintro e w5 ⟨rfl, hb5⟩
  have HB5 := Lib.hid (HB4.out.trans (hb5.mono (by omega)))
  have hs5 := hb5.size
  clear hb5 HB4 R2
  go_wp2_with fail
  refine (hR3.out w5).mono ?_
  rintro e w6 ⟨rfl, hb6⟩
  have HB6 := Lib.hid (HB5.out.trans (hb6.mono (by omega)))
  have hs6 := hb6.size
  clear hb6 HB5 hR3
  go_wp2_with fail
  refine (hR4.out w6).mono ?_
  rintro e w7 ⟨rfl, hb7⟩
  have HB7 := Lib.hid (HB6.out.trans (hb7.mono (by omega)))
  have hs7 := hb7.size
  clear hb7 HB6 hR4
  have S1 := Lib.hid (same_any X X w7)
  rw [beq_self_eq_true] at S1
  go_wp2_with fail
  refine S1.out.mono ?_
  rintro e w8 ⟨rfl, rfl⟩
  go_wp2_with fail
  refine S1.out.mono ?_
  rintro e w8 ⟨rfl, rfl⟩
  clear S1
  rcases Nat.lt_trichotomy n m with h | h | h
  · have h2 := hM1.out (Nat.le_of_lt h)
    have hi : (n : Int) < (m : Int) := by omega
    rcases Nat.eq_or_lt_of_le h2 with h3 | h3
    · subst h3
      have ho := order_eq hX
      clear hM1 hM2 h2 h
      go_wp2_with fail
      go_ret
      exact ⟨rfl, HB7.out⟩
    · have ho := order_lt hX hY h3
      clear hM1 hM2 h2 h h3
      go_wp2_with fail
      go_ret
      exact ⟨rfl, HB7.out⟩
  · obtain rfl : X = Y := Nat.le_antisymm (hM1.out (Nat.le_of_eq h)) (hM2.out (Nat.le_of_eq h.symm))
    subst h
    have ho := order_eq hX
    clear hM1 hM2
    go_wp2_with fail
    go_ret
    exact ⟨rfl, HB7.out⟩
  · have h2 := hM2.out (Nat.le_of_lt h)
    have hi : (m : Int) < (n : Int) := by omega
    rcases Nat.eq_or_lt_of_le h2 with h3 | h3
    · subst h3
      have ho := order_eq hX
      clear hM1 hM2 h2 h
      go_wp2_with fail
      go_ret
      exact ⟨rfl, HB7.out⟩
    · have ho := order_gt hX hY h3
      clear hM1 hM2 h2 h h3
      go_wp2_with fail
      go_ret
      exact ⟨rfl, HB7.out⟩
end Go.Proofs.YtkpikkeblogdcaaDoor
end

section
/- Plain: seventeen digits tell a float; digits of a float near it. -/
namespace Go.Proofs.YtkpikkeblogdcaaDoor
open Go

theorem mant_mof {b : Nat} (h : b < 9218868437227405312) : mant b = mof b ∧ (expo b + 1074).toNat = jof b ∧ -1074 ≤ expo b := by
  have e6 : b % 9223372036854775808 = b := Nat.mod_eq_of_lt (by omega)
  have e7 : (2 : Nat) ^ 52 = 4503599627370496 := by decide
  have hx := expo_bounds (b := b)
  refine ⟨?_, ?_, hx.1⟩
  · unfold mant mof
    rw [e6, e7, if_neg (by omega)]
    by_cases h1 : b / 4503599627370496 = 0
    · rw [if_pos h1, if_pos h1]; omega
    · rw [if_neg h1, if_neg h1]
  · unfold expo jof
    rw [e6, e7, if_neg (by omega)]
    by_cases h1 : b / 4503599627370496 = 0
    · rw [if_pos h1, h1]; rfl
    · rw [if_neg h1]; omega
theorem fin_lt_inf {b : Nat} (hb : b < 9223372036854775808) : fin b = true ↔ b < 9218868437227405312 := by
  unfold fin
  rw [Nat.mod_eq_of_lt hb]
  simp
  omega
/-- the float as the fraction that the digits are rounded from -/
def numP (b : Nat) (k : Int) : Nat := mant b * 10 ^ k.toNat * 2 ^ (expo b).toNat
def denQ (b : Nat) (k : Int) : Nat := 10 ^ (-k).toNat * 2 ^ (-(expo b)).toNat
theorem denQ_pos (b : Nat) (k : Int) : 0 < denQ b k := Nat.mul_pos (Nat.pow_pos (by decide)) (pow2_pos _)
theorem scaledN_spec (b : Nat) (k : Int) : 2 * numP b k ≤ (2 * scaledN b k + 1) * denQ b k ∧ 2 * scaledN b k * denQ b k ≤ 2 * numP b k + denQ b k := rnd_spec (denQ_pos b k)
/-- the float's value, and the digits' value, over one denominator -/
theorem value_P {b : Nat} (h : b < 9218868437227405312) (k : Int) : mof b * (2 ^ jof b * 10 ^ k.toNat) * 2 ^ (-(expo b)).toNat = numP b k * kk := by
  obtain ⟨h1, h2, h3⟩ := mant_mof h
  have h4 := pow2_int h3
  rw [h2] at h4
  unfold numP
  rw [h1]
  calc mof b * (2 ^ jof b * 10 ^ k.toNat) * 2 ^ (-(expo b)).toNat = mof b * 10 ^ k.toNat * (2 ^ (-(expo b)).toNat * 2 ^ jof b) := by ac_rfl
    _ = mof b * 10 ^ k.toNat * 2 ^ (expo b).toNat * kk := by rw [h4]; generalize kk = K; ac_rfl
theorem value_Q (b N : Nat) (k : Int) : N * 10 ^ (-k).toNat * kk * 2 ^ (-(expo b)).toNat = N * denQ b k * kk := by
  unfold denQ
  generalize kk = K
  ac_rfl
theorem lin_back {N P Q : Nat} (hN : 10000000000000000 * Q ≤ N * Q) (h1 : 2 * P ≤ 2 * (N * Q) + Q) (h2 : 2 * (N * Q) ≤ 2 * P + Q) :
    20000000000000000 * (N * Q) ≤ 20000000000000000 * P + N * Q ∧ 20000000000000000 * P ≤ 20000000000000000 * (N * Q) + N * Q := by omega
theorem near_back {b : Nat} {k : Int} (h : b < 9218868437227405312) (hN : 10 ^ 16 ≤ scaledN b k) : near (scaledN b k * 10 ^ (-k).toNat) (10 ^ k.toNat) = b := by
  obtain ⟨s1, s2⟩ := scaledN_spec b k
  have hQ := denQ_pos b k
  have hNQ : 10 ^ 16 * denQ b k ≤ scaledN b k * denQ b k := Nat.mul_le_mul_right _ hN
  rw [show (10 : Nat) ^ 16 = 10000000000000000 by decide] at hNQ
  have e1 : (2 * scaledN b k + 1) * denQ b k = 2 * (scaledN b k * denQ b k) + denQ b k := by rw [Nat.succ_mul, Nat.mul_assoc]
  have e2 : 2 * scaledN b k * denQ b k = 2 * (scaledN b k * denQ b k) := Nat.mul_assoc _ _ _
  rw [e1] at s1
  rw [e2] at s2
  obtain ⟨l1, l2⟩ := lin_back hNQ s1 s2
  have hT : 0 < 2 ^ (-(expo b)).toNat := pow2_pos _
  have v1 := value_P h k
  have v2 := value_Q b (scaledN b k) k
  refine near_close (Nat.pow_pos (by decide)) (Nat.le_of_lt h) ?_ ?_
  · refine Nat.le_of_mul_le_mul_right ?_ hT
    have m1 := Nat.mul_le_mul_right kk l1
    rw [Nat.add_mul, Nat.mul_assoc 20000000000000000, Nat.mul_assoc 20000000000000000] at m1
    rw [Nat.add_mul, Nat.mul_assoc, v2, Nat.mul_assoc 20000000000000000 (mof b * _), v1]
    generalize kk = K at *
    exact m1
  · refine Nat.le_of_mul_le_mul_right ?_ hT
    have m2 := Nat.mul_le_mul_right kk l2
    rw [Nat.add_mul, Nat.mul_assoc, Nat.mul_assoc] at m2
    rw [Nat.add_mul, Nat.mul_assoc 20000000000000000 (mof b * _), v1, Nat.mul_assoc 20000000000000000, v2]
    generalize kk = K at *
    exact m2
theorem readB_back {b : Nat} {x : Int} {l : List UInt8} (h : b < 9218868437227405312) (hs : SciAt b 16 x) (hx1 : -325 ≤ x) (hx2 : x ≤ 309) (hc : Canon l (scaledN b ((16 : Nat) - x))) (hl : l.length = 17) : readB l (x - 16) = b := by
  have hN := hs.ge
  have hpos : 0 < scaledN b ((16 : Nat) - x) := Nat.lt_of_lt_of_le (Nat.pow_pos (by decide)) hN
  have hb := bare_pos_text hc hpos
  have hbl : (bare l).length = 17 := by rw [hb, hl]
  rw [readB_near (by omega) (by omega) (by omega) (by omega) (by omega), hb, hc.val]
  have e1 : (x - 16).toNat = (-((16 : Nat) - x : Int)).toNat := by omega
  have e2 : (-(x - 16)).toNat = ((16 : Nat) - x : Int).toNat := by omega
  rw [e1, e2]
  exact near_back h hN
end Go.Proofs.YtkpikkeblogdcaaDoor
end

section
/- Plain: half a digit below and above what is written. -/
namespace Go.Proofs.YtkpikkeblogdcaaDoor
open Go

theorem digVal_bare : ∀ l : List UInt8, digVal (bare l) = digVal l
  | [] => rfl
  | c :: r => by
    by_cases h : c = 48
    · subst h
      rw [bare_nought, digVal_bare r, digVal_cons]
      have e : (UInt8.toNat 48 - 48 : Nat) = 0 := by decide
      rw [e, Nat.zero_mul, Nat.zero_add]
    · rw [bare_self h]
theorem near_self {b : Nat} (h : b < 9218868437227405312) : near (mant b * 2 ^ (expo b).toNat) (2 ^ (-(expo b)).toNat) = b := by
  obtain ⟨h1, h2, h3⟩ := mant_mof h
  have h4 := pow2_int h3
  rw [h2] at h4
  refine near_exact (pow2_pos _) ?_ (Nat.le_of_lt h)
  rw [h1, Nat.mul_comm (2 ^ jof b), h4, Nat.mul_assoc, Nat.mul_comm kk]
theorem cross_lo {A B c : Nat} {k : Int} (h : c * (10 ^ (-k).toNat * B) ≤ 10 * (A * 10 ^ k.toNat)) : c * 10 ^ (-(k + 1)).toNat * B ≤ A * 10 ^ (k + 1).toNat := by
  rcases Int.lt_or_le k 0 with hk | hk
  · rw [show (-k).toNat = (-(k + 1)).toNat + 1 by omega, show k.toNat = 0 by omega, Nat.pow_succ, Nat.pow_zero, Nat.mul_one] at h
    rw [show (k + 1).toNat = 0 by omega, Nat.pow_zero, Nat.mul_one]
    generalize 10 ^ (-(k + 1)).toNat = D at *
    have e : c * (D * 10 * B) = 10 * (c * D * B) := by ac_rfl
    rw [e] at h
    omega
  · rw [show (-k).toNat = 0 by omega, Nat.pow_zero, Nat.one_mul] at h
    rw [show (k + 1).toNat = k.toNat + 1 by omega, show (-(k + 1)).toNat = 0 by omega, Nat.pow_succ, Nat.pow_zero, Nat.mul_one]
    generalize 10 ^ k.toNat = D at *
    have e : A * (D * 10) = 10 * (A * D) := by ac_rfl
    rw [e]
    exact h
theorem cross_hi {A B c : Nat} {k : Int} (h : 10 * (A * 10 ^ k.toNat) ≤ c * (10 ^ (-k).toNat * B)) : A * 10 ^ (k + 1).toNat ≤ c * 10 ^ (-(k + 1)).toNat * B := by
  rcases Int.lt_or_le k 0 with hk | hk
  · rw [show (-k).toNat = (-(k + 1)).toNat + 1 by omega, show k.toNat = 0 by omega, Nat.pow_succ, Nat.pow_zero, Nat.mul_one] at h
    rw [show (k + 1).toNat = 0 by omega, Nat.pow_zero, Nat.mul_one]
    generalize 10 ^ (-(k + 1)).toNat = D at *
    have e : c * (D * 10 * B) = 10 * (c * D * B) := by ac_rfl
    rw [e] at h
    omega
  · rw [show (-k).toNat = 0 by omega, Nat.pow_zero, Nat.one_mul] at h
    rw [show (k + 1).toNat = k.toNat + 1 by omega, show (-(k + 1)).toNat = 0 by omega, Nat.pow_succ, Nat.pow_zero, Nat.mul_one]
    generalize 10 ^ k.toNat = D at *
    have e : A * (D * 10) = 10 * (A * D) := by ac_rfl
    rw [e]
    exact h
theorem numP_eq (b : Nat) (k : Int) : numP b k = mant b * 2 ^ (expo b).toNat * 10 ^ k.toNat := by unfold numP; ac_rfl
theorem lo_le {b p : Nat} {x : Int} {t : List UInt8} (h : b < 9218868437227405312) (hx1 : -325 ≤ x) (hx2 : x ≤ 309) (hp : p ≤ 200) (hN : 0 < scaledN b (p - x)) (hl : t.length ≤ p + 1) (hv : digVal t = scaledN b (p - x) - 1) : readB (t ++ [53]) (x - p - 1) ≤ b := by
  by_cases h0 : (bare (t ++ [53])).length = 0
  · rw [readB_nil (List.eq_nil_of_length_eq_zero h0)]
    exact Nat.zero_le _
  · have hbl : (bare (t ++ [53])).length ≤ p + 2 := by
      have := bare_length (t ++ [53])
      rw [List.length_append] at this
      simp at this
      omega
    rcases Int.lt_or_le ((bare (t ++ [53])).length + (x - p - 1)) (-330) with c3 | c3
    · rw [readB_low (by omega) (by omega)]
      exact Nat.zero_le _
    · rw [readB_near h0 (by omega) (by omega) (by omega) (by omega), digVal_bare, digVal_snoc, hv]
      have e5 : (UInt8.toNat 53 - 48 : Nat) = 5 := by decide
      rw [e5]
      have hs := (scaledN_spec b (p - x)).2
      have hs2 : (10 * (scaledN b (p - x) - 1) + 5) * denQ b (p - x) ≤ 10 * numP b (p - x) := by
        obtain ⟨N, hNe⟩ : ∃ N, scaledN b (p - x) = N + 1 := ⟨scaledN b (p - x) - 1, by omega⟩
        rw [hNe] at hs ⊢
        generalize denQ b (p - x) = Q at *
        generalize numP b (p - x) = P at *
        have e1 : 2 * (N + 1) * Q = 2 * (N * Q) + 2 * Q := by rw [Nat.mul_assoc, Nat.succ_mul N, Nat.mul_add]
        have e2 : (10 * (N + 1 - 1) + 5) * Q = 10 * (N * Q) + 5 * Q := by rw [Nat.add_sub_cancel, Nat.add_mul, Nat.mul_assoc]
        rw [e1] at hs
        rw [e2]
        omega
      generalize 10 * (scaledN b (p - x) - 1) + 5 = c at *
      rw [numP_eq] at hs2
      have h4 := cross_lo hs2
      have h5 : near (c * 10 ^ (x - p - 1).toNat) (10 ^ (-(x - p - 1)).toNat) ≤ near (mant b * 2 ^ (expo b).toNat) (2 ^ (-(expo b)).toNat) := by
        refine near_mono (Nat.pow_pos (by decide)) (pow2_pos _) ?_
        rw [show x - p - 1 = -((p : Int) - x + 1) by omega, Int.neg_neg]
        exact h4
      rw [near_self h] at h5
      exact h5
theorem hi_ge {b p : Nat} {x : Int} {l : List UInt8} (h : b < 9218868437227405312) (hx1 : -325 ≤ x) (hx2 : x ≤ 309) (hp : p ≤ 200) (hN : 0 < scaledN b (p - x)) (hl : l.length = p + 1) (hc : Canon l (scaledN b (p - x))) : b ≤ readB (l ++ [53]) (x - p - 1) := by
  have hb : bare (l ++ [53]) = l ++ [53] := by
    obtain ⟨c, r, rfl, hcc⟩ := canon_pos_text hc hN
    exact bare_self hcc
  have hbl : (bare (l ++ [53])).length = p + 2 := by rw [hb, List.length_append, hl]; rfl
  rw [readB_near (by omega) (by omega) (by omega) (by omega) (by omega), hb, digVal_snoc, hc.val]
  have e5 : (UInt8.toNat 53 - 48 : Nat) = 5 := by decide
  rw [e5]
  have hs := (scaledN_spec b (p - x)).1
  have hs2 : 10 * numP b (p - x) ≤ (10 * scaledN b (p - x) + 5) * denQ b (p - x) := by
    generalize scaledN b (p - x) = N at *
    generalize denQ b (p - x) = Q at *
    generalize numP b (p - x) = P at *
    have e1 : (2 * N + 1) * Q = 2 * (N * Q) + Q := by rw [Nat.succ_mul, Nat.mul_assoc]
    have e2 : (10 * N + 5) * Q = 10 * (N * Q) + 5 * Q := by rw [Nat.add_mul, Nat.mul_assoc]
    rw [e1] at hs
    rw [e2]
    omega
  generalize 10 * scaledN b (p - x) + 5 = c at *
  rw [numP_eq] at hs2
  have h4 := cross_hi hs2
  have h5 : near (mant b * 2 ^ (expo b).toNat) (2 ^ (-(expo b)).toNat) ≤ near (c * 10 ^ (x - p - 1).toNat) (10 ^ (-(x - p - 1)).toNat) := by
    refine near_mono (pow2_pos _) (Nat.pow_pos (by decide)) ?_
    rw [show x - p - 1 = -((p : Int) - x + 1) by omega, Int.neg_neg]
    exact h4
  rw [near_self h] at h5
  exact h5
end Go.Proofs.YtkpikkeblogdcaaDoor
end

section
/- thresherlaw03: DecBack; math.IsNaN, math.IsInf. -/
namespace Go.Proofs.YtkpikkeblogdcaaDoor
open Go.RowKit
set_option linter.unusedVariables false

theorem read_nan {b : Nat} (h : 9218868437227405312 < b) (h2 : b < 9223372036854775808) : ∃ f, FloatKind.f64.format.read b = .nan false f := by
  have e1 : FloatKind.f64.format.signWeight = 9223372036854775808 := by decide
  have e2 : FloatKind.f64.format.binade = 4503599627370496 := by decide
  have e3 : FloatKind.f64.format.infRung = 9218868437227405312 := by decide
  have e5 : (b / 9223372036854775808 % 2 == 1) = false := by rw [Nat.div_eq_of_lt (by omega)]; rfl
  have e6 : b % 9223372036854775808 = b := Nat.mod_eq_of_lt (by omega)
  unfold Ieee.Format.read
  simp only [e1, e2, e3, e5, e6]
  rw [if_neg (by omega), if_neg (by omega), if_neg (by omega)]
  exact ⟨_, rfl⟩
theorem order_nan {b : Nat} (c : Nat) (h : 9218868437227405312 < b) (h2 : b < 9223372036854775808) : FloatKind.f64.format.order b c = none := by
  obtain ⟨f, hf⟩ := read_nan h h2
  unfold Ieee.Format.order
  rw [hf]
  cases FloatKind.f64.format.read c <;> rfl

theorem IsNaN_fin {b : Nat} (w : World) (h : b ≤ 9218868437227405312) : Calls Tryd.prog 26 #[.float .f64 b] w fun e w' => e = .returned (.bool false) ∧ w = w' := by
  have ho := order_eq h
  clear h
  go_enter Tryd.func26, Tryd.ntmps26
  go_wp2_with fail
  go_ret
  exact ⟨rfl, rfl⟩
theorem IsNaN_nan {b : Nat} (w : World) (h : 9218868437227405312 < b) (h2 : b < 9223372036854775808) : Calls Tryd.prog 26 #[.float .f64 b] w fun e w' => e = .returned (.bool true) ∧ w = w' := by
  have ho := order_nan b h h2
  clear h h2
  go_enter Tryd.func26, Tryd.ntmps26
  go_wp2_with fail
  go_ret
  exact ⟨rfl, rfl⟩
theorem Abs_pos {b : Nat} (w : World) (h : b < 9223372036854775808) : Calls Tryd.prog 52 #[.float .f64 b] w fun e w' => e = .returned (.float .f64 b) ∧ w = w' := by
  have hm := mask63 b (by omega)
  rw [Nat.mod_eq_of_lt h] at hm
  clear h
  go_enter Tryd.func52, Tryd.ntmps52
  go_wp2_with fail
  go_ret
  exact ⟨rfl, rfl⟩
theorem IsInf_fin {b : Nat} (w : World) (h : b < 9218868437227405312) : Calls Tryd.prog 27 #[.float .f64 b, .int .i64 0] w fun e w' => e = .returned (.bool false) ∧ w = w' := by
  have HA := Lib.hid (Abs_pos w (show b < 9223372036854775808 by omega))
  have ho : (FloatKind.f64.format.order b 9218868437227405311 == some .gt) = false := by
    rcases Nat.eq_or_lt_of_le (show b ≤ 9218868437227405311 by omega) with h1 | h1
    · rw [h1, order_eq (by omega)]; decide
    · rw [order_lt (by omega) (by omega) h1]; decide
  clear h
  go_enter Tryd.func27, Tryd.ntmps27
  go_wp2_with fail
  refine HA.out.mono ?_
  rintro e w1 ⟨rfl, rfl⟩
  go_wp2_with fail
  go_ret
  exact ⟨rfl, rfl⟩
theorem IsInf_inf (w : World) : Calls Tryd.prog 27 #[.float .f64 9218868437227405312, .int .i64 0] w fun e w' => e = .returned (.bool true) ∧ w = w' := by
  have HA := Lib.hid (Abs_pos w (show 9218868437227405312 < 9223372036854775808 by decide))
  have ho := order_gt (x := 9218868437227405312) (y := 9218868437227405311) (by decide) (by decide) (by decide)
  go_enter Tryd.func27, Tryd.ntmps27
  go_wp2_with fail
  refine HA.out.mono ?_
  rintro e w1 ⟨rfl, rfl⟩
  go_wp2_with fail
  go_ret
  exact ⟨rfl, rfl⟩

theorem bare_zeros (k : Nat) (l : List UInt8) : bare (List.replicate k 48 ++ l) = bare l := by
  induction k with
  | zero => rfl
  | succ k ih => rw [List.replicate_succ, List.cons_append, bare_nought, ih]
theorem bare_all (k : Nat) : bare (List.replicate k 48) = [] := by
  have h := bare_zeros k []
  rw [List.append_nil] at h
  rw [h]; rfl
theorem zeros_digits (k : Nat) : Digits (List.replicate k 48) := by
  intro c hc
  rw [(List.mem_replicate.1 hc).2]; decide
theorem mant_zero {b : Nat} (h : b < 9218868437227405312) (hm : mant b = 0) : b = 0 := by
  rw [(mant_mof h).1] at hm
  unfold mof at hm
  split at hm <;> omega

set_option maxRecDepth 100000 in
set_option maxHeartbeats 4000000 in
theorem back_any (n : Nat) (w : World) (hn : n < 18446744073709551616) :
    Calls Tryd.prog 8 #[.int .u64 n] w fun e w' => e = .returned (.bool true) ∧ Below w.heap.size w w' := by
  have hm := mask63 n hn
  have hb : n % 9223372036854775808 < 9223372036854775808 := Nat.mod_lt _ (by decide)
  generalize n % 9223372036854775808 = b at *
  clear hn
  have HS0 := Lib.hid (fun W h => Sci_bad b 16 W (by omega) h)
  have HS1 := Lib.hid (fun W h1 h2 => Sci_zero b 16 W (by omega) h1 (by decide) h2)
  have HS2 := Lib.hid (fun W h1 h2 => Sci_loop b 16 W (by omega) h1 (by decide) h2)
  go_enter Tryd.func8, Tryd.ntmps8
  go_wp2_with fail
  refine (fixed_any w).mono ?_
  rintro e w1 ⟨rfl, hb1⟩
  have HB1 := Lib.hid hb1
  have hs1 := hb1.size
  clear hb1
  go_wp2_with fail
  by_cases hf : b < 9218868437227405312
  · have hfin := (fin_lt_inf hb).2 hf
    have HN := Lib.hid (fun W => IsNaN_fin W (Nat.le_of_lt hf))
    have HI := Lib.hid (fun W => IsInf_fin W hf)
    by_cases h0 : mant b = 0
    · obtain rfl := mant_zero hf h0
      refine (HS1.out w1 hfin h0).mono ?_
      rintro e w2 ⟨s, rfl, hs, hb2⟩
      have HB2 := Lib.hid (HB1.out.trans (hb2.mono hs1))
      have hs2 := hb2.size
      have hss : s.size = 17 := by
        have hsz : s.size = s.data.toList.length := by simp
        rw [hsz, hs]; rfl
      have hR : Hid (∀ W, Calls Tryd.prog 14 #[.string s, .int .i64 (-16)] W fun e w' => e = .returned (.tuple #[.float .f64 0, .int .i64 0]) ∧ Below W.heap.size W w') := by
        intro W
        have h := Read_ok s (-16) W (by rw [hs]; simp) (by rw [hs]; exact zeros_digits _) (by rw [hs]; decide) (by decide) (by decide)
        rw [hs, readB_nil (bare_all _)] at h
        exact h
      clear hb2 HB1 HS0 HS1 HS2 hs
      go_wp2_with fail
      refine (HN.out w2).mono ?_
      rintro e w3 ⟨rfl, rfl⟩
      go_wp2_with fail
      refine (HI.out w2).mono ?_
      rintro e w3 ⟨rfl, rfl⟩
      go_wp2_with fail
      refine (hR.out w2).mono ?_
      rintro e w3 ⟨rfl, hb3⟩
      have HB3 := Lib.hid (HB2.out.trans (hb3.mono (by omega)))
      clear hb3 HB2
      go_wp2_with fail
      have S1 := same_any 0 0 w3
      rw [beq_self_eq_true] at S1
      refine S1.mono ?_
      rintro e w4 ⟨rfl, rfl⟩
      go_wp2_with fail
      go_ret
      exact ⟨rfl, HB3.out⟩
    · refine (HS2.out w1 hfin (Nat.pos_of_ne_zero h0)).mono ?_
      rintro e w2 ⟨s, x, rfl, hc, hl, hsa, hx1, hx2, hb2⟩
      have HB2 := Lib.hid (HB1.out.trans (hb2.mono hs1))
      have hs2 := hb2.size
      have hss : s.size = 17 := by
        have hsz : s.size = s.data.toList.length := by simp
        omega
      have hR : Hid (∀ W, Calls Tryd.prog 14 #[.string s, .int .i64 (x - 16)] W fun e w' => e = .returned (.tuple #[.float .f64 b, .int .i64 0]) ∧ Below W.heap.size W w') := by
        intro W
        have h := Read_ok s (x - 16) W hc.ne hc.dig (by omega) (by omega) (by omega)
        rw [readB_back hf hsa hx1 hx2 hc hl] at h
        exact h
      clear hb2 HB1 HS0 HS1 HS2 hsa hc hl
      go_wp2_with fail
      refine (HN.out w2).mono ?_
      rintro e w3 ⟨rfl, rfl⟩
      go_wp2_with fail
      refine (HI.out w2).mono ?_
      rintro e w3 ⟨rfl, rfl⟩
      go_wp2_with fail
      refine (hR.out w2).mono ?_
      rintro e w3 ⟨rfl, hb3⟩
      have HB3 := Lib.hid (HB2.out.trans (hb3.mono (by omega)))
      clear hb3 HB2
      go_wp2_with fail
      have S1 := same_any b b w3
      rw [beq_self_eq_true] at S1
      refine S1.mono ?_
      rintro e w4 ⟨rfl, rfl⟩
      go_wp2_with fail
      go_ret
      exact ⟨rfl, HB3.out⟩
  · have hfin : fin b = false := by
      cases h : fin b with
      | false => rfl
      | true => exact absurd ((fin_lt_inf hb).1 h) hf
    refine (HS0.out w1 (.inl hfin)).mono ?_
    rintro e w2 ⟨rfl, rfl⟩
    clear HS0 HS1 HS2 hfin
    go_wp2_with fail
    rcases Nat.eq_or_lt_of_le (Nat.le_of_not_lt hf) with h1 | h1
    · subst h1
      refine (IsNaN_fin w1 (Nat.le_refl _)).mono ?_
      rintro e w3 ⟨rfl, rfl⟩
      go_wp2_with fail
      refine (IsInf_inf w1).mono ?_
      rintro e w3 ⟨rfl, rfl⟩
      go_wp2_with fail
      go_ret
      exact ⟨rfl, HB1.out⟩
    · refine (IsNaN_nan w1 h1 hb).mono ?_
      rintro e w3 ⟨rfl, rfl⟩
      go_wp2_with fail
      go_ret
      exact ⟨rfl, HB1.out⟩
end Go.Proofs.YtkpikkeblogdcaaDoor
end
