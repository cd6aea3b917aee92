/- thresherlaw03: DecShort. -/
import Derived.Test.YtkpikkeblogdcaaDoorL5
import Derived.Test.YtkpikkeblogdcaaDoorL7
import Derived.Test.YtkpikkeblogdcaaDoorR11
namespace Go.Proofs.YtkpikkeblogdcaaDoor
open Go.RowKit
set_option linter.unusedVariables false

theorem Read_five (t : ByteArray) (e : Int) (W : World) (hd : Digits t.data.toList) (hl : t.data.toList.length ≤ 1000) (h1 : -9223372036854775808 ≤ e) (h2 : e ≤ 9223372036854775807) :
    Calls Tryd.prog 14 #[.string (t ++ ⟨#[53]⟩), .int .i64 e] W fun r w' => r = .returned (.tuple #[.float .f64 (readB (t.data.toList ++ [53]) e), .int .i64 0]) ∧ Below W.heap.size W w' := by
  have hdl : (t ++ ⟨#[53]⟩ : ByteArray).data.toList = t.data.toList ++ [53] := by simp
  have h := Read_ok (t ++ ⟨#[53]⟩) e W (by rw [hdl]; simp) (by
    rw [hdl]; intro c hc
    rcases List.mem_append.1 hc with h | h
    · exact hd c h
    · simp at h; subst h; decide) (by rw [hdl, List.length_append, List.length_singleton]; omega) h1 h2
  rw [hdl] at h
  exact h

set_option maxRecDepth 100000 in
set_option maxHeartbeats 4000000 in
theorem short_any (n : Nat) (p0 : Int) (w : World) (hn : n < 18446744073709551616) (hp1 : -9223372036854775808 ≤ p0) (hp2 : p0 ≤ 9223372036854775807) :
    Calls Tryd.prog 6 #[.int .u64 n, .int .i64 p0] w fun e w' => e = .returned (.bool true) ∧ Below w.heap.size w w' := by
  have hm := mask63 n hn
  have hb : n % 9223372036854775808 < 9223372036854775808 := Nat.mod_lt _ (by decide)
  generalize n % 9223372036854775808 = b at *
  clear hn
  obtain ⟨p, hp⟩ : ∃ p : Nat, (p : Int) = min (max p0 0) 40 := ⟨(min (max p0 0) 40).toNat, by omega⟩
  have ep : min (max p0 0) 40 = (p : Int) := hp.symm
  have hpl : p ≤ 40 := by omega
  clear hp hp1 hp2
  have HS0 := Lib.hid (fun W h => Sci_bad b p W (by omega) h)
  have HS1 := Lib.hid (fun W h1 h2 => Sci_zero b p W (by omega) h1 (by omega) h2)
  have HS2 := Lib.hid (fun W h1 h2 => Sci_loop b p W (by omega) h1 (by omega) h2)
  go_enter Tryd.func6, Tryd.ntmps6
  go_wp2_with fail
  refine (fixed_any w).mono ?_
  rintro e w1 ⟨rfl, hb1⟩
  have HB1 := Lib.hid hb1
  have hs1 := hb1.size
  clear hb1
  go_wp2_with fail
  clear ep
  by_cases hf : b < 9218868437227405312
  · have hfin := (fin_lt_inf hb).2 hf
    by_cases h0 : mant b = 0
    · obtain rfl := mant_zero hf h0
      refine (HS1.out w1 hfin h0).mono ?_
      rintro e w2 ⟨s, rfl, hs, hb2⟩
      have HB2 := Lib.hid (HB1.out.trans (hb2.mono hs1))
      have hs2 := hb2.size
      have hss : s.size = p + 1 := by
        have hsz : s.size = s.data.toList.length := by simp
        rw [hsz, hs]; simp
      have hsd : Digits s.data.toList := by rw [hs]; exact zeros_digits _
      have HSD := Lib.hid hsd
      have hBL := Lib.hid (fun W => below_any s W hsd (by rw [hs]; simp; omega))
      have ho := order_eq (x := 0) (by decide)
      clear hb2 HB1 HS0 HS1 HS2 hs hsd
      go_wp2_with fail
      refine (hBL.out w2).mono ?_
      rintro e w3 ⟨t, rfl, htd, htl, _, _, hb3⟩
      have htl2 : t.data.toList.length ≤ 1000 := by
        have hsz : s.size = s.data.toList.length := by simp
        omega
      have hR1 := Lib.hid (fun W => Read_five t (-(p : Int) - 1) W htd htl2 (by omega) (by omega))
      have hts : t.size ≤ 1000 := by simpa using htl2
      have HB3 := Lib.hid (HB2.out.trans (hb3.mono (by omega)))
      have hs3 := hb3.size
      have hR2 := Lib.hid (fun W => Read_five s (-(p : Int) - 1) W HSD.out (by
        have hsz : s.size = s.data.toList.length := by simp
        omega) (by omega) (by omega))
      have hX := readB_le (s.data.toList ++ [53]) (-(p : Int) - 1)
      generalize readB (s.data.toList ++ [53]) (-(p : Int) - 1) = X at *
      generalize readB (t.data.toList ++ [53]) (-(p : Int) - 1) = Y at *
      clear hb3 HB2 htd htl htl2 hBL HSD
      go_wp2_with fail
      refine (hR1.out w3).mono ?_
      rintro e w4 ⟨rfl, hb4⟩
      have HB4 := Lib.hid (HB3.out.trans (hb4.mono (by omega)))
      have hs4 := hb4.size
      clear hb4 HB3 hR1
      go_wp2_with fail
      refine (hR2.out w4).mono ?_
      rintro e w5 ⟨rfl, hb5⟩
      have HB5 := Lib.hid (HB4.out.trans (hb5.mono (by omega)))
      clear hb5 HB4 hR2
      rcases Nat.eq_zero_or_pos X with h2 | h2
      · subst h2
        go_wp2_with fail
        go_ret
        exact ⟨rfl, HB5.out⟩
      · have ho2 := order_lt (x := 0) (by decide) hX h2
        clear h2
        go_wp2_with fail
        go_ret
        exact ⟨rfl, HB5.out⟩
    · refine (HS2.out w1 hfin (Nat.pos_of_ne_zero h0)).mono ?_
      rintro e w2 ⟨s, x, rfl, hc, hl, hsa, hx1, hx2, hb2⟩
      have HB2 := Lib.hid (HB1.out.trans (hb2.mono hs1))
      have hs2 := hb2.size
      have hss : s.size = p + 1 := by
        have hsz : s.size = s.data.toList.length := by simp
        omega
      have hN : 0 < scaledN b (p - x) := Nat.lt_of_lt_of_le (Nat.pow_pos (by decide)) hsa.ge
      have hb0 : 0 < b := Nat.pos_of_ne_zero fun h => h0 (by rw [h]; decide)
      have HHI := Lib.hid (hi_ge hf hx1 hx2 (by omega) hN hl hc)
      have HLO := Lib.hid (fun t h1 h2 => lo_le (t := t) hf hx1 hx2 (p := p) (by omega) hN h1 h2)
      have hBL := Lib.hid (fun W => below_any s W hc.dig (by omega))
      have hR2 := Lib.hid (fun W => Read_five s (x - p - 1) W hc.dig (by omega) (by omega) (by omega))
      have hV := Lib.hid hc.val
      have hL := Lib.hid hl
      have ho := order_gt (x := b) (y := 0) (by omega) (by decide) hb0
      obtain ⟨c, r, hcr, hc48⟩ := canon_pos_text hc hN
      have hs00 : 0 < s.size := by omega
      have hs0 : (((s[0]'hs00).toNat : Int) == 48) = false := by
        refine beq_eq_false_iff_ne.2 fun h => hc48 (UInt8.toNat_inj.1 ?_)
        have e : s[0]'hs00 = c := by
          show s.data[0]'_ = c
          rw [← Array.getElem_toList]
          simp only [hcr]
          rfl
        rw [e] at h
        have h48 : (48 : UInt8).toNat = 48 := by decide
        omega
      clear hb2 HB1 HS0 HS1 HS2 hsa hc hl hcr hN hc48
      go_wp2_with fail
      refine (hBL.out w2).mono ?_
      rintro e w3 ⟨t, rfl, htd, htl, _, htv, hb3⟩
      have htl2 : t.data.toList.length ≤ p + 1 := by
        have hsz : s.size = s.data.toList.length := by simp
        omega
      have hts : t.size ≤ 1000 := by
        have hsz : t.size = t.data.toList.length := by simp
        omega
      have hlo := HLO.out t.data.toList htl2 (by rw [htv, hV.out])
      have hR1 := Lib.hid (fun W => Read_five t (x - p - 1) W htd (by omega) (by omega) (by omega))
      have hhi := HHI.out
      have hX := readB_le (s.data.toList ++ [53]) (x - p - 1)
      generalize readB (s.data.toList ++ [53]) (x - p - 1) = X at *
      generalize readB (t.data.toList ++ [53]) (x - p - 1) = Y at *
      have HB3 := Lib.hid (HB2.out.trans (hb3.mono (by omega)))
      have hs3 := hb3.size
      clear hb3 HB2 htd htl htl2 hBL HLO HHI htv hV hL
      go_wp2_with fail
      refine (hR1.out w3).mono ?_
      rintro e w4 ⟨rfl, hb4⟩
      have HB4 := Lib.hid (HB3.out.trans (hb4.mono (by omega)))
      have hs4 := hb4.size
      clear hb4 HB3 hR1
      go_wp2_with fail
      refine (hR2.out w4).mono ?_
      rintro e w5 ⟨rfl, hb5⟩
      have HB5 := Lib.hid (HB4.out.trans (hb5.mono (by omega)))
      clear hb5 HB4 hR2
      have hE1 : FloatKind.f64.format.order Y b = some .lt ∨ FloatKind.f64.format.order Y b = some .eq := by
        rcases Nat.eq_or_lt_of_le hlo with h | h
        · right; rw [h]; exact order_eq (by omega)
        · left; exact order_lt (by omega) (by omega) h
      have hE2 : FloatKind.f64.format.order b X = some .lt ∨ FloatKind.f64.format.order b X = some .eq := by
        rcases Nat.eq_or_lt_of_le hhi with h | h
        · right; rw [← h]; exact order_eq (by omega)
        · left; exact order_lt (by omega) hX h
      clear hlo hhi hs0
      rcases hE1 with h1 | h1 <;> rcases hE2 with h2 | h2
      · go_wp2_with fail
        go_ret
        exact ⟨rfl, HB5.out⟩
      · go_wp2_with fail
        go_ret
        exact ⟨rfl, HB5.out⟩
      · go_wp2_with fail
        go_ret
        exact ⟨rfl, HB5.out⟩
      · go_wp2_with fail
        go_ret
        exact ⟨rfl, HB5.out⟩
  · have hfin : fin b = false := by
      cases h : fin b with
      | false => rfl
      | true => exact absurd ((fin_lt_inf hb).1 h) hf
    refine (HS0.out w1 (.inl hfin)).mono ?_
    rintro e w2 ⟨rfl, rfl⟩
    clear HS0 HS1 HS2 hfin
    rcases Nat.eq_or_lt_of_le (Nat.le_of_not_lt hf) with h1 | h1
    · subst h1
      have ho := order_gt (x := 9218868437227405312) (y := 9218868437227405311) (by decide) (by decide) (by decide)
      go_wp2_with fail
      go_ret
      exact ⟨rfl, HB1.out⟩
    · have ho := order_nan 9218868437227405311 h1 hb
      go_wp2_with fail
      go_ret
      exact ⟨rfl, HB1.out⟩
end Go.Proofs.YtkpikkeblogdcaaDoor
