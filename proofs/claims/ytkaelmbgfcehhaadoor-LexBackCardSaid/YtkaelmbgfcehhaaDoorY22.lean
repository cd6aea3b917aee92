/- thresherlaw20.LexBack, walked. -/
import Derived.Test.YtkaelmbgfcehhaaDoorY16
import Derived.Test.YtkaelmbgfcehhaaDoorY21
namespace Go.Proofs.YtkaelmbgfcehhaaDoor
open Go.RowKit
set_option linter.unusedVariables false
set_option linter.unusedSimpArgs false

theorem scan_first {n : Nat} {R : List UInt8} {L : List TokT} (h : scanR litL (n + 1) (47 :: R) 1 [] = .ok L) :
    ∃ o k, slashR (R.length + 1) R = some (o, k) ∧ o.length ≤ 1024 ∧ L[0]? = some (5, o, 0, 1) ∧ 2 ≤ L.length := by
  rw [scanR_step (by simp)] at h
  have hs : stepR litL (47 :: R) none = (match slashR (R.length + 1) R with
    | none => StepR.bad 202
    | some (o, n) => if 1024 < o.length then .bad 202 else .go (1 + n) 0 (some (5, o, 0))) := rfl
  rw [show ([] : List TokT).getLast? = none from rfl, hs] at h
  cases hq : slashR (R.length + 1) R with
  | none => rw [hq] at h; cases h
  | some q =>
    obtain ⟨o, k⟩ := q
    rw [hq] at h
    simp only at h
    by_cases hb : 1024 < o.length
    · rw [if_pos hb] at h; cases h
    · rw [if_neg hb] at h
      obtain ⟨M, rfl, _⟩ := scan_lines litL_ok _ _ _ _ _ h
      exact ⟨o, k, rfl, by omega, rfl, by show 2 ≤ (([(5, o, 0, 1)] : List TokT) ++ _).length; simp⟩
theorem quoteB_len (b : UInt8) : (quoteB b).length ≤ 4 := by
  unfold quoteB
  (repeat' split) <;> simp only [List.length_cons, List.length_nil] <;> omega
theorem quoteW_len (s : List UInt8) : (quoteW s).length ≤ 4 * s.length + 2 := by
  have h : ∀ s : List UInt8, (s.flatMap quoteB).length ≤ 4 * s.length := by
    intro s
    induction s with
    | nil => exact Nat.le_refl _
    | cons b s ih =>
      have := quoteB_len b
      rw [List.flatMap_cons, List.length_append, List.length_cons]
      omega
  have := h s
  simp only [quoteW, List.length_cons, List.length_append, List.length_nil]
  omega
theorem slashB_len : ∀ (n : Nat) (o : List UInt8), o.length ≤ n → (slashB o).length ≤ 2 * o.length := by
  intro n
  induction n with
  | zero => intro o h; obtain rfl := List.eq_nil_of_length_eq_zero (Nat.le_zero.1 h); exact Nat.le_refl _
  | succ n ih =>
    intro o h
    match o, h with
    | [], h => exact Nat.le_refl _
    | [b], h => rw [slashB_one]; split <;> simp
    | b :: c :: T, h =>
      simp only [List.length_cons] at h
      have h1 := ih (c :: T) (by simp only [List.length_cons]; omega)
      have h2 := ih T (by omega)
      rw [slashB_two]
      simp only [List.length_cons] at h1 ⊢
      (repeat' split) <;> simp only [List.length_cons] <;> omega
theorem slashW_len (s : List UInt8) : (slashW s).length ≤ 2 * s.length + 2 := by
  have := slashB_len _ s (Nat.le_refl _)
  simp only [slashW, List.length_cons, List.length_append, List.length_nil]
  omega
theorem app_list (a : List UInt8) (s : ByteArray) : (bs a ++ s).data.toList = a ++ s.data.toList := by
  rw [← bs_list s, bs_app, bs_data, bs_data]

set_option maxHeartbeats 16000000 in
set_option maxRecDepth 100000 in
theorem lexBack_any (s : ByteArray) (w : World) (hM : MaxOk w) (hs : s.size ≤ 140737488351232) :
    Calls Tryd.prog 6 #[.string s] w fun e w' => e = .returned (.bool true) ∧ Below w.heap.size w w' := by
  have HF := Lib.hid (fixed20_any w hM)
  have HM := Lib.hid hM
  have hMl := hM.lt
  clear hM
  by_cases hbig : 1024 < s.size
  · have hI : (1024 : Int) < (s.size : Int) := by omega
    go_enter Tryd.func6, Tryd.ntmps6
    go_wp2_with fail
    refine HF.out.mono ?_
    rintro e w1 ⟨rfl, hb1⟩
    have HB1 := Lib.hid hb1
    clear hb1
    go_wp2_with fail
    go_ret
    exact ⟨rfl, HB1.out⟩
  have hI : (s.size : Int) ≤ 1024 := by omega
  have hId : decide ((1024 : Int) < (s.size : Int)) = false := decide_eq_false (by omega)
  have hsl : s.data.toList.length = s.size := (size_list s).symm
  have hQ1 : (quoteW s.data.toList).length ≤ 5000 := by have := quoteW_len s.data.toList; omega
  have HQ := Lib.hid (fun W => quote_any s W (by omega))
  have HSc : Hid (∀ W, MaxOk W → Calls Tryd.prog 8 #[.string (bs (quoteW s.data.toList))] W (ScanE W (.ok [(4, s.data.toList, 0, 1), (9, [], 0, 1)]))) := fun W hW => by
    have h := scan_any (bs (quoteW s.data.toList)) W hW (by rw [bs_size]; omega)
    rw [bs_data, scan_quote (by omega)] at h
    exact h
  obtain ⟨L1, hL1⟩ : ∃ L1 : List TokT, L1 = [(4, s.data.toList, 0, 1), (9, [], 0, 1)] := ⟨_, rfl⟩
  rw [← hL1] at HSc
  have HL1 : Hid (L1.length = 2 ∧ L1[0]? = some (4, s.data.toList, 0, 1)) := by rw [hL1]; exact ⟨rfl, rfl⟩
  have hS2 : ∀ W, MaxOk W → Calls Tryd.prog 8 #[.string (bs [47] ++ s)] W (ScanE W (scanR litL (s.data.toList.length + 1 + 1) (47 :: s.data.toList) 1 [])) := fun W hW => by
    have h := scan_any (bs [47] ++ s) W hW (by rw [ByteArray.size_append, bs_size]; simp only [List.length_cons, List.length_nil]; omega)
    rw [app_list] at h
    exact h
  cases hres : scanR litL (s.data.toList.length + 1 + 1) (47 :: s.data.toList) 1 [] with
  | error q =>
    obtain ⟨ln, er⟩ := q
    obtain ⟨b1, b2, b3⟩ := scan_bad litL_ok _ _ _ _ _ _ (by simp) hres
    have HS2 := Lib.hid hS2
    rw [hres] at HS2
    have hen : ((er : Int) != 0) = true := by rcases b3 with rfl | rfl | rfl <;> rfl
    have hen2 : ¬ (er : Int) = 0 := by rcases b3 with rfl | rfl | rfl <;> decide
    have hen3 : ¬ er = 0 := by omega
    clear b1 b2 b3 hres hS2 hL1 hQ1 hsl
    go_enter Tryd.func6, Tryd.ntmps6
    go_wp2_with fail
    refine HF.out.mono ?_
    rintro e w1 ⟨rfl, hb1⟩
    have HB1 := Lib.hid hb1
    have HM1 := Lib.hid (HM.out.below hb1 hMl)
    have hz1 := hb1.size
    clear hb1 HF
    go_wp2_with fail
    refine (HQ.out _).mono ?_
    rintro e w2 ⟨rfl, hb2⟩
    have HM2 := Lib.hid (HM1.out.below hb2 (by omega))
    have HB2 := Lib.hid (HB1.out.trans (hb2.mono hz1))
    have hz2 : w.heap.size ≤ w2.heap.size := HB2.out.size
    clear hb2 HQ HB1 HM1 hz1
    go_wp2_with fail
    refine (HSc.out _ HM2.out).mono ?_
    rintro e w3 ⟨lv, rfl, hown, hb3⟩
    obtain ⟨a, cc, rfl, hrow⟩ := RowK.of_own hown
    obtain ⟨g, off, rfl, hg, d0, d1, d2, d3⟩ := hrow.at_ HL1.out.2
    rw [HL1.out.1]
    have d1 : w3.cell? ⟨g, off + 0 * 4 + 1, none⟩ = some (.string s) := by rw [d1, bs_list]
    simp only [Nat.zero_mul, Nat.add_zero] at d0 d1 d3
    have d0 : w3.cell? ⟨g, off, none⟩ = some (.int .i64 4) := d0
    have d3 : w3.cell? ⟨g, off + 3, none⟩ = some (.int .i64 1) := d3
    have HM3 := Lib.hid (HM2.out.below hb3 (by omega))
    have HB3 := Lib.hid (HB2.out.trans (hb3.mono hz2))
    have hz3 : w.heap.size ≤ w3.heap.size := HB3.out.size
    clear hb3 hown hrow HSc HB2 HM2 hz2 HL1 d2
    go_wp2_with fail
    refine (HS2.out _ HM3.out).mono ?_
    rintro e w4 ⟨rfl, hb4⟩
    have HB4 := Lib.hid (HB3.out.trans (hb4.mono hz3))
    clear hb4 HS2 d0 d1 d3
    go_wp2_with fail
    go_ret
    exact ⟨rfl, HB4.out⟩
  | ok L =>
    obtain ⟨o, k, hq, ho, hL0, hL2⟩ := scan_first hres
    have HS2 := Lib.hid hS2
    rw [hres] at HS2
    have hlen := scan_len litL_ok _ _ _ _ _ hres
    obtain ⟨N, hN⟩ : ∃ N, N = L.length := ⟨_, rfl⟩
    have HN : Hid (L.length = N) := hN.symm
    have hN2 : (2 : Int) ≤ (N : Int) := by omega
    have hN2d : decide ((N : Int) < 2) = false := decide_eq_false (by omega)
    have hN0 : (0 : Int) < (N : Int) := by omega
    have hNn : 0 < N := by omega
    have HW : Hid (∀ W, Calls Tryd.prog 11 #[.string (bs o)] W fun e w' => e = .returned (.string (bs (slashW o))) ∧ Below W.heap.size W w') := fun W => by
      have h := slashW_any (bs o) W (by rw [bs_size]; omega)
      rw [bs_data] at h
      exact h
    have HS3 : Hid (∀ W, MaxOk W → Calls Tryd.prog 8 #[.string (bs (slashW o))] W (ScanE W (.ok [(5, o, 0, 1), (9, [], 0, 1)]))) := fun W hW => by
      have h := scan_any (bs (slashW o)) W hW (by rw [bs_size]; have := slashW_len o; omega)
      rw [bs_data, scan_slash hq (by omega)] at h
      exact h
    obtain ⟨L3, hL3⟩ : ∃ L3 : List TokT, L3 = [(5, o, 0, 1), (9, [], 0, 1)] := ⟨_, rfl⟩
    rw [← hL3] at HS3
    have HL3 : Hid (L3.length = 2 ∧ L3[0]? = some (5, o, 0, 1)) := by rw [hL3]; exact ⟨rfl, rfl⟩
    have HL0 := Lib.hid hL0
    clear hres hS2 hL1 hQ1 hsl hL3 hq hlen hN hL0 hL2
    go_enter Tryd.func6, Tryd.ntmps6
    go_wp2_with fail
    refine HF.out.mono ?_
    rintro e w1 ⟨rfl, hb1⟩
    have HB1 := Lib.hid hb1
    have HM1 := Lib.hid (HM.out.below hb1 hMl)
    have hz1 := hb1.size
    clear hb1 HF
    go_wp2_with fail
    refine (HQ.out _).mono ?_
    rintro e w2 ⟨rfl, hb2⟩
    have HM2 := Lib.hid (HM1.out.below hb2 (by omega))
    have HB2 := Lib.hid (HB1.out.trans (hb2.mono hz1))
    have hz2 : w.heap.size ≤ w2.heap.size := HB2.out.size
    clear hb2 HQ HB1 HM1 hz1
    go_wp2_with fail
    refine (HSc.out _ HM2.out).mono ?_
    rintro e w3 ⟨lv, rfl, hown, hb3⟩
    obtain ⟨a, cc, rfl, hrow⟩ := RowK.of_own hown
    obtain ⟨g, off, rfl, hg, d0, d1, d2, d3⟩ := hrow.at_ HL1.out.2
    rw [HL1.out.1]
    have d1 : w3.cell? ⟨g, off + 0 * 4 + 1, none⟩ = some (.string s) := by rw [d1, bs_list]
    simp only [Nat.zero_mul, Nat.add_zero] at d0 d1 d3
    have d0 : w3.cell? ⟨g, off, none⟩ = some (.int .i64 4) := d0
    have d3 : w3.cell? ⟨g, off + 3, none⟩ = some (.int .i64 1) := d3
    have HM3 := Lib.hid (HM2.out.below hb3 (by omega))
    have HB3 := Lib.hid (HB2.out.trans (hb3.mono hz2))
    have hz3 : w.heap.size ≤ w3.heap.size := HB3.out.size
    clear hb3 hown hrow HSc HB2 HM2 hz2 HL1 d2
    go_wp2_with fail
    refine (HS2.out _ HM3.out).mono ?_
    rintro e w4 ⟨lv4, rfl, hown, hb4⟩
    obtain ⟨a4, c4, rfl, hrow⟩ := RowK.of_own hown
    obtain ⟨g4, o4, rfl, hg4, e0, e1, e2, e3⟩ := hrow.at_ HL0.out
    rw [HN.out]
    simp only [Nat.zero_mul, Nat.add_zero] at e0 e1
    have e0 : w4.cell? ⟨g4, o4, none⟩ = some (.int .i64 5) := e0
    have HM4 := Lib.hid (HM3.out.below hb4 (by omega))
    have HB4 := Lib.hid (HB3.out.trans (hb4.mono hz3))
    have hz4 : w.heap.size ≤ w4.heap.size := HB4.out.size
    have HR4 := Lib.hid hrow
    clear hb4 HS2 d0 d1 d3 hown hrow e2 e3
    go_wp2_with fail
    refine (HW.out _).mono ?_
    rintro e w5 ⟨rfl, hb5⟩
    have HM5 := Lib.hid (HM4.out.below hb5 (by omega))
    have HB5 := Lib.hid (HB4.out.trans (hb5.mono hz4))
    have HR5 := Lib.hid (HR4.out.below hb5)
    have hz5 : w.heap.size ≤ w5.heap.size := HB5.out.size
    clear hb5 HW HR4 HB4 HM4 e0 e1
    go_wp2_with fail
    refine (HS3.out _ HM5.out).mono ?_
    rintro e w6 ⟨lv6, rfl, hown, hb6⟩
    obtain ⟨a6, c6, rfl, hrow⟩ := RowK.of_own hown
    obtain ⟨g6, o6, rfl, hg6, e0, e1, e2, e3⟩ := hrow.at_ HL3.out.2
    rw [HL3.out.1]
    simp only [Nat.zero_mul, Nat.add_zero] at e0 e1
    have e0 : w6.cell? ⟨g6, o6, none⟩ = some (.int .i64 5) := e0
    have HR6 := HR5.out.below hb6
    obtain ⟨g7, o7, h7, hg7, k0, k1, k2, k3⟩ := HR6.at_ HL0.out
    cases h7
    simp only [Nat.zero_mul, Nat.add_zero] at k1
    have HB6 := Lib.hid (HB5.out.trans (hb6.mono hz5))
    clear hb6 HS3 hown hrow e2 e3 HR5 HR6 k0 k2 k3
    go_wp2_with fail
    go_quiet (fail)
    go_wp2_with fail
    go_ret
    exact ⟨rfl, HB6.out.drewN _⟩
end Go.Proofs.YtkaelmbgfcehhaaDoor
