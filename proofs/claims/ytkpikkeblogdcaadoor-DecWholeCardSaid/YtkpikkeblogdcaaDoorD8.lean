/- Package dec: Sci, the loop. -/
import Derived.Test.YtkpikkeblogdcaaDoorD7
import Derived.Test.YtkpikkeblogdcaaDoorR5
namespace Go.Proofs.YtkpikkeblogdcaaDoor
open Go.RowKit
set_option linter.unusedVariables false

/-- what Sci answers: the digits and the power of ten: the least one from the start on at which p + 1 digits are enough -/
structure SciAt (b p : Nat) (x : Int) : Prop where
  ge : 10 ^ p ≤ scaledN b (p - x)
  lt : scaledN b (p - x) < 10 ^ (p + 1)
  least : ∃ y0, y0 ≤ x ∧ GeT (mant b * 2 ^ (expo b).toNat) (2 ^ (-(expo b)).toNat) (p - y0) (10 ^ p) ∧ ∀ y, y0 ≤ y → y < x → 10 ^ (p + 1) ≤ scaledN b (p - y)

theorem canon_ne_zero {l : List UInt8} {x : Nat} (h : Canon l x) (hx : 0 < x) : l ≠ [48] := by
  intro hl
  have h1 := h.val
  rw [hl] at h1
  have h2 : digVal [48] = 0 := by decide
  omega

set_option maxRecDepth 100000 in
set_option maxHeartbeats 4000000 in
theorem Sci_loop (b : Nat) (p : Nat) (w : World) (hb : b < 18446744073709551616) (hf : fin b = true) (hp : p ≤ 200) (hm : 0 < mant b) :
    Calls Tryd.prog 20 #[.float .f64 b, .int .i64 p] w fun e w' => ∃ (s : ByteArray) (x : Int), e = .returned (.tuple #[.string s, .int .i64 x, .int .i64 0]) ∧ Canon s.data.toList (scaledN b (p - x)) ∧ s.data.toList.length = p + 1 ∧ SciAt b p x ∧ -325 ≤ x ∧ x ≤ 309 ∧ Below w.heap.size w w' := by
  have HP := Lib.hid (Parts_any b w hb)
  rw [hf] at HP
  have hm1 := mant_lt b
  have he := expo_bounds (b := b)
  obtain ⟨hm2, hm3⟩ := nbits_pos hm
  have hm4 : nbits (mant b) ≤ 53 := nbits_le.2 (by rw [show (2 : Nat) ^ 53 = 9007199254740992 by decide]; exact hm1)
  obtain ⟨t, ht⟩ : ∃ t : Int, t = (nbits (mant b) : Int) - 1 + expo b := ⟨_, rfl⟩
  obtain ⟨x0, hx0⟩ : ∃ x0 : Int, x0 = exp0 t := ⟨_, rfl⟩
  have hx0' : (t * 30103).tdiv 100000 - 2 = x0 := hx0.symm
  have hx1 : -325 ≤ x0 := by rw [hx0]; exact (exp0_bounds (by omega) (by omega)).1
  have hx2 : x0 ≤ 306 := by rw [hx0]; exact (exp0_bounds (by omega) (by omega)).2
  have hB : 0 < 2 ^ (-(expo b)).toNat := Nat.pow_pos (by decide)
  have hA := fin_lt (m := mant b) (j := (expo b).toNat) (i := 12) (-(expo b)).toNat (by rw [show (2 : Nat) ^ 53 = 9007199254740992 by decide]; exact hm1) (by omega) (by decide)
  have hst : GeT (mant b * 2 ^ (expo b).toNat) (2 ^ (-(expo b)).toNat) ((p : Int) - x0) (10 ^ p) := by
    have h := sci_start hm2 (e := expo b) (by omega) (by omega) p
    rw [show ((nbits (mant b) - 1 : Nat) : Int) + expo b = t by omega, ← hx0] at h
    exact h
  have HX : Hid (∀ x : Int, x0 ≤ x → (∀ y, x0 ≤ y → y < x → 10 ^ (p + 1) ≤ scaledN b (p - y)) → x ≤ 309) := by
    intro x h1 h2
    rcases Int.lt_or_le x0 x with h | h
    · have h3 := h2 (x - 1) (by omega) (by omega)
      rw [scaledN_rat] at h3
      have := sci_high (H := 25 * 12 + 9) hB hA h3
      omega
    · omega
  have HRD : Hid (∀ (x : Int) (l : List UInt8), x0 ≤ x → (∀ y, x0 ≤ y → y < x → 10 ^ (p + 1) ≤ scaledN b (p - y)) → Canon l (scaledN b (p - x)) →
      (p + 1 < l.length ∧ 10 ^ (p + 1) ≤ scaledN b (p - x)) ∨ (l.length = p + 1 ∧ l ≠ [48] ∧ SciAt b p x)) := by
    intro x l h1 h2 hc
    rcases Nat.lt_or_ge (scaledN b (p - x)) (10 ^ (p + 1)) with h | h
    · have h3 : 10 ^ p ≤ scaledN b (p - x) := by
        rw [scaledN_rat]
        refine sci_down hB ?_
        rcases Int.lt_or_le x0 x with h4 | h4
        · refine .inr ?_
          have h5 := h2 (x - 1) (by omega) (by omega)
          rw [scaledN_rat] at h5
          rwa [show (p : Int) - x + 1 = p - (x - 1) by omega]
        · refine .inl ?_
          rwa [show x = x0 by omega]
      refine .inr ⟨Nat.le_antisymm (canon_len hc h (by omega)) (canon_len_gt hc h3), canon_ne_zero hc (Nat.lt_of_lt_of_le (Nat.pow_pos (by decide)) h3), h3, h, x0, h1, hst, h2⟩
    · exact .inl ⟨canon_len_gt hc h, h⟩
  have HS : Hid (∀ (x : Int) (W : World), x0 ≤ x → x ≤ 309 → Calls Tryd.prog 46 #[.int .u64 (mant b : Nat), .int .i64 (expo b), .int .i64 (p - x)] W fun r w' => ∃ v, r = .returned v ∧ NatV w' v (scaledN b (p - x)) ∧ Below W.heap.size W w') :=
    fun x W h1 h2 => scaled_b b (p - x) W (by omega) (by omega)
  have HT : Hid (∀ (x : Int) (W : World) (v : Value), x0 ≤ x → x ≤ 309 → NatV W v (scaledN b (p - x)) → Calls Tryd.prog 45 #[v] W fun e w' => ∃ s : ByteArray, e = .returned (.tuple #[.string s, .int .i64 0]) ∧ Canon s.data.toList (scaledN b (p - x)) ∧ s.data.toList.length ≤ 4001 ∧ Below W.heap.size W w') :=
    fun x W v h1 h2 h => text_b (by omega) (by omega) h
  have HF := Lib.hid (fun W => FromV (mant b) _ rfl (by omega) W)
  have HBT : Hid (∀ (v : Value) (W : World), NatV W v (mant b) → Calls Tryd.prog 50 #[v] W fun r W' => r = .returned (.int .i64 (nbits (mant b) : Nat)) ∧ W = W') :=
    fun v W h => Bits_V v _ W h (limbs_of_bits (by omega))
  have hm0 : (mant b : Int) ≠ 0 := by omega
  generalize scaledN b = N at *
  generalize nbits (mant b) = nm at *
  generalize mant b = m at *
  generalize expo b = x at *
  clear hb hf hB hA hst hx0 hm hm2
  have hpi : (p : Int) ≤ 200 := by omega
  go_enter Tryd.func20, Tryd.ntmps20
  go_wp2_with fail
  refine HP.out.mono ?_
  rintro e w1 ⟨rfl, rfl⟩
  clear HP
  go_wp2_with fail
  refine (HF.out w).mono ?_
  rintro e w1 ⟨v1, rfl, hn1, hb1⟩
  have HBT1 := Lib.hid (HBT.out v1 w1 hn1)
  have HB1 := Lib.hid hb1
  have hs1 := hb1.size
  clear hn1 hb1 HBT HF
  go_wp2_with fail
  refine HBT1.out.mono ?_
  rintro e w2 ⟨rfl, rfl⟩
  clear HBT1
  have et : (nm : Int) - 1 + x = t := ht.symm
  clear ht
  have het : (t * 30103).tdiv 100000 = x0 + 2 := by omega
  go_wp2_with fail
  go_loopw [10] (fun ev wr => ∃ (y : Int), x0 ≤ y ∧ y ≤ 309 ∧ ev = .int .i64 y ∧ Below w.heap.size w wr ∧ w.heap.size ≤ wr.heap.size ∧ ∀ z, x0 ≤ z → z < y → 10 ^ (p + 1) ≤ N (p - z)) (fun ev _ => (400 - intOf ev).toNat)
  case atStart =>
    refine ⟨x0, Int.le_refl _, by omega, ?_, HB1.out, hs1, fun z h1 h2 => by omega⟩
    first | rfl | (congr 1; omega)
  case round =>
    obtain ⟨y, hy1, hy2, rfl, hbw, hsw, hl⟩ := hrel
    have HB := Lib.hid hbw; have HL := Lib.hid hl
    clear hbw hl HB1 het et
    have hc1 : x0 ≤ y := hy1
    go_wp2_with fail
    refine (HS.out y wr hy1 hy2).mono ?_
    rintro e w3 ⟨v3, rfl, hn3, hb3⟩
    have HT3 := Lib.hid (HT.out y w3 v3 hy1 hy2 hn3)
    have HB3 := Lib.hid (HB.out.trans (hb3.mono hsw))
    have hs3 := hb3.size
    clear hn3 hb3 HB
    go_wp2_with fail
    refine HT3.out.mono ?_
    rintro e w4 ⟨s, rfl, hc, hl4, hb4⟩
    have HB4 := Lib.hid (HB3.out.trans (hb4.mono (by omega)))
    have hs4 := hb4.size
    have HC := Lib.hid hc
    have hR := HRD.out y s.data.toList hy1 HL.out hc
    have hsz : s.size = s.data.toList.length := by simp
    obtain ⟨n, hn⟩ : ∃ n, n = s.size := ⟨_, rfl⟩
    rw [← hsz, ← hn] at hR hl4
    have hn1 : s.size = n := hn.symm
    clear hc hb4 HB3 HT3 hsz hn
    rcases hR with ⟨h1, h2⟩ | ⟨h1, h2, h3⟩
    · have h1' : (p : Int) + 1 < (n : Int) := by omega
      have HG := Lib.hid h2
      clear h2 h1
      have HL2 : Hid (∀ z, x0 ≤ z → z < y + 1 → 10 ^ (p + 1) ≤ N (p - z)) := by
        intro z hz1 hz2
        rcases Int.lt_or_le z y with h | h
        · exact HL.out z hz1 h
        · rw [show z = y by omega]; exact HG.out
      have hy3 : y + 1 ≤ 309 := HX.out (y + 1) (by omega) HL2.out
      go_wp2_with fail
      go_roundw
      case rel => exact ⟨y + 1, by omega, hy3, rfl, HB4.out, by omega, HL2.out⟩
      case measure => show (400 - (y + 1)).toNat < (400 - y).toNat; omega
    · have h1' : (n : Int) = (p : Int) + 1 := by omega
      have hne : (s.toList == [48]) = false := beq_eq_false_iff_ne.2 (by rw [ByteArray.toList_eq]; exact h2)
      have HG := Lib.hid h3
      clear h2 h1 h3
      have HN : Hid (s.data.toList.length = p + 1) := by
        have hsz : s.size = s.data.toList.length := by simp
        show _ = _
        omega
      go_wp2_with fail
      go_ret3
      exact ⟨s, y, rfl, HC.out, HN.out, HG.out, by omega, hy2, HB4.out⟩
end Go.Proofs.YtkpikkeblogdcaaDoor
