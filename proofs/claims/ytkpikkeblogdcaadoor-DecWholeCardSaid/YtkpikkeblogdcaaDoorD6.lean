/- Package dec: Fixed. -/
import Derived.Test.YtkpikkeblogdcaaDoorD5
namespace Go.Proofs.YtkpikkeblogdcaaDoor
open Go.RowKit
set_option linter.unusedVariables false

theorem point_list (s : ByteArray) (k n : Nat) (hn : s.data.toList.length = n) : (s.extract 0 k ++ ⟨#[46]⟩ ++ s.extract k n).data.toList = s.data.toList.take k ++ 46 :: s.data.toList.drop k := by
  have h2 : List.take (n - k) (List.drop k s.data.toList) = List.drop k s.data.toList := List.take_of_length_le (by rw [List.length_drop]; omega)
  simp [ByteArray.data_append, ByteArray.data_extract, List.extract_eq_take_drop, h2]
theorem repeatL_one (x : UInt8) : ∀ c, Lib.repeatL [x] c = List.replicate c x
  | 0 => rfl
  | c + 1 => by rw [Lib.repeatL, repeatL_one x c]; rfl

set_option maxRecDepth 100000 in
set_option maxHeartbeats 2000000 in
theorem Fixed_ok (b : Nat) (p : Nat) (w : World) (hb : b < 18446744073709551616) (hf : fin b = true) (hp : p ≤ 200) :
    Calls Tryd.prog 18 #[.float .f64 b, .int .i64 p] w fun e w' => ∃ s l, e = .returned (.tuple #[.string s, .int .i64 0]) ∧ Canon l (scaledN b p) ∧ s.data.toList = fixedL l p ∧ Below w.heap.size w w' := by
  have HP := Lib.hid (Parts_any b w hb)
  have HS := Lib.hid (fun W => scaled_b b p W (by omega) (by omega))
  have HT := Lib.hid (fun v W h => text_b (b := b) (k := p) (v := v) (w := W) (by omega) (by omega) h)
  rw [hf] at HP
  generalize scaledN b p = N at *
  generalize mant b = m at *
  generalize expo b = x at *
  clear hb hf
  have hpi : (p : Int) ≤ 200 := by omega
  go_enter Tryd.func18, Tryd.ntmps18
  go_wp2_with fail
  refine HP.out.mono ?_
  rintro e w1 ⟨rfl, rfl⟩
  clear HP
  go_wp2_with fail
  refine (HS.out w).mono ?_
  rintro e w1 ⟨v1, rfl, hn1, hb1⟩
  have HT1 := Lib.hid (HT.out v1 w1 hn1)
  have HB1 := Lib.hid hb1
  have hs1 := hb1.size
  clear hn1 hb1 HS HT
  go_wp2_with fail
  refine HT1.out.mono ?_
  rintro e w2 ⟨s, rfl, hc, hl, hb2⟩
  have HB2 := Lib.hid (HB1.out.trans (hb2.mono hs1))
  have hs2 := hb2.size
  have HC := Lib.hid hc
  have hsz : s.size = s.data.toList.length := by simp
  obtain ⟨n, hn⟩ : ∃ n, n = s.size := ⟨_, rfl⟩
  have HN : Hid (s.data.toList.length = n) := by show _ = _; rw [hn, hsz]
  have hn1 : s.size = n := hn.symm
  rw [HN.out] at hl
  clear hc hb2 HB1 HT1 hsz hn
  by_cases hle : n ≤ p
  · have hle' : (n : Int) ≤ (p : Int) := by omega
    go_wp2_with fail
    have e1 : (p : Int) + 1 - n = ((p + 1 - n : Nat) : Int) := by omega
    have hn0 : 0 < n := by
      rw [← HN.out]; exact List.length_pos_iff.2 HC.out.ne
    obtain ⟨c, hc⟩ : ∃ c, c = p + 1 - n := ⟨_, rfl⟩
    have e2 : (p : Int) + 1 - n = (c : Int) := by omega
    rw [e2]
    have hcn : (c : Int) + n = p + 1 := by omega
    have hRP := Tryd.strings_Repeat ⟨#[48]⟩ c w2 (by omega) (by show 1 * c ≤ _; omega)
    obtain ⟨R, hR⟩ : ∃ R : ByteArray, R = ⟨(Lib.repeatL [48] c).toArray⟩ := ⟨_, rfl⟩
    have hRP' : Calls Tryd.prog 47 #[.string ⟨#[48]⟩, .int .i64 c] w2 fun e w' => e = .returned (.string R) ∧ Below w2.heap.size w2 w' := by rw [hR]; exact hRP
    have hRl : Hid (R.data.toList = List.replicate c 48) := by
      show R.data.toList = _
      rw [hR]
      exact repeatL_one 48 c
    have hRs : R.size = c := by
      have := congrArg List.length hRl.out
      simpa using this
    clear hR hRP e1 e2 hle
    refine hRP'.mono ?_
    rintro e w3 ⟨rfl, hb3⟩
    have HB3 := Lib.hid (HB2.out.trans (hb3.mono (by omega)))
    clear hb3 hRP'
    have hp0' : (0 : Int) < (p : Int) := by omega
    go_wp2_with fail
    have hT : Hid ((R ++ s).data.toList = List.replicate c 48 ++ s.data.toList) := by show _ = _; rw [ByteArray.data_append, Array.toList_append, hRl.out]
    have hnp : 0 ≤ (c : Int) + n - p := by omega
    have hnp2 : (c : Int) + n - p ≤ c + n := by omega
    go_region
    go_wp2_with fail
    go_ret2
    refine ⟨_, _, rfl, HC.out, ?_, by first | exact HB3.out | exact HB3.out.drew | exact HB3.out.drewN _⟩
    have hcc : p + 1 - n = c := by omega
    have hql : (R ++ s).data.toList.length = p + 1 - n + n := by rw [hT.out, List.length_append, List.length_replicate, HN.out, hcc]
    refine (point_list (R ++ s) _ _ hql).trans ?_
    rw [hT.out]
    have h1 : n ≤ p := by omega
    have h2 : 0 < p := by omega
    simp only [fixedL, HN.out, if_pos h1, if_pos h2, List.length_append, List.length_replicate, hcc]
  · have hle' : ¬ (n : Int) ≤ (p : Int) := by omega
    by_cases hp0 : p = 0
    · subst hp0
      go_wp2_with fail
      go_ret2
      exact ⟨s, _, rfl, HC.out, by simp [fixedL, HN.out]; omega, HB2.out⟩
    · have hp0' : (0 : Int) < (p : Int) := by omega
      go_wp2_with fail
      have hnp : 0 ≤ (n : Int) - p := by omega
      have hnp2 : (n : Int) - p ≤ n := by omega
      go_region
      go_wp2_with fail
      go_ret2
      refine ⟨_, _, rfl, HC.out, ?_, by first | exact HB2.out | exact HB2.out.drew | exact HB2.out.drewN _⟩
      refine (point_list s (n - p) n HN.out).trans ?_
      simp only [fixedL, HN.out, if_neg hle, if_pos (Nat.pos_of_ne_zero hp0)]
end Go.Proofs.YtkpikkeblogdcaaDoor
