/- What NumBack's code computes: it answers true. -/
import Derived.Test.YtkpikkeblogdcaaDoorK19
namespace Go.Proofs.YtkpikkeblogdcaaDoor
open Go.RowKit
set_option linter.unusedVariables false

theorem order_back {b : Nat} {S : Bool} (hb : b < 18446744073709551616) (hi : b % 9223372036854775808 < 9218868437227405312) (hS : (FloatKind.f64.format.order b 0 == some .lt) = S) :
    FloatKind.f64.format.order (if S = true then b % 9223372036854775808 + 9223372036854775808 else b % 9223372036854775808) b = some .eq := by
  rcases Nat.lt_or_ge b 9223372036854775808 with h5 | h5
  · have e := Nat.mod_eq_of_lt h5
    rw [e] at hi
    have hSf : S = false := by
      rw [← hS, order_pos (Nat.le_of_lt hi) (by decide)]
      rcases Nat.eq_zero_or_pos b with h6 | h6
      · rw [h6]; rfl
      · rw [Nat.compare_eq_gt.2 h6]; rfl
    rw [hSf, if_neg (by decide), e]
    exact order_eq (Nat.le_of_lt hi)
  · obtain ⟨a, rfl⟩ : ∃ a, b = a + 9223372036854775808 := ⟨b - 9223372036854775808, by omega⟩
    have e : (a + 9223372036854775808) % 9223372036854775808 = a := by omega
    rw [e] at hi ⊢
    cases S
    · rw [if_neg (by decide)]
      have hord := order_sv (a := a + 9223372036854775808) (c := 0) hb (by decide) (by rw [e]; exact hi) (by decide)
      have hsv : sv (a + 9223372036854775808) = -(vl a : Int) := by unfold sv; rw [if_neg (by omega), e]
      have hsv0 : sv 0 = 0 := by unfold sv; rw [if_pos (by decide), show vl (0 % 9223372036854775808) = 0 by decide]; rfl
      rw [hord, hsv, hsv0] at hS
      have hv : vl a = 0 := by
        rcases Nat.eq_zero_or_pos (vl a) with h6 | h6
        · exact h6
        · rw [Int.compare_eq_lt.2 (by omega)] at hS; cases hS
      refine order_sv_eq (by omega) hb (by rw [Nat.mod_eq_of_lt (by omega)]; exact hi) (by rw [e]; exact hi) ?_
      rw [hsv, hv]
      unfold sv
      rw [if_pos (by omega), Nat.mod_eq_of_lt (by omega), hv]
      rfl
    · rw [if_pos rfl]
      exact order_same hb (by rw [e]; exact hi)
theorem near_whole {a q : Nat} (ha : a < 9218868437227405312) (hv : vl a = q * kk) : near q 1 = a :=
  near_exact (by decide) (by rw [Nat.mul_one]; exact hv.symm) (Nat.le_of_lt ha)
theorem blanks_ws (i : Nat) : ∀ c ∈ List.replicate i (32 : UInt8), wsL.contains c = true := by
  intro c hc
  rw [(List.mem_replicate.1 hc).2]; decide
theorem ends_ws (i : Nat) : ∀ c ∈ List.replicate i (10 : UInt8), wsL.contains c = true := by
  intro c hc
  rw [(List.mem_replicate.1 hc).2]; decide
theorem ends_stop (i : Nat) (x : List UInt8) (hx : x = [] ∨ x = [120]) : ∀ c r, List.replicate i (10 : UInt8) ++ x = c :: r → digs.contains c = false ∧ c ≠ 46 ∧ c ≠ 101 ∧ c ≠ 69 := by
  intro c r h
  cases i with
  | zero =>
    rcases hx with rfl | rfl
    · cases h
    · injection h with h1 h2
      rw [← h1]; decide
  | succ i =>
    rw [List.replicate_succ, List.cons_append] at h
    injection h with h1 h2
    rw [← h1]; decide
theorem around (i : Nat) (L : List UInt8) : (32 : UInt8) :: ((List.replicate i 32 ++ (L ++ List.replicate i 10)) ++ [10]) = List.replicate (i + 1) 32 ++ (L ++ List.replicate (i + 1) 10) := by
  rw [List.replicate_succ (n := i) (a := (32 : UInt8)), List.replicate_succ' (n := i) (a := (10 : UInt8))]
  simp

set_option maxRecDepth 100000 in
set_option maxHeartbeats 4000000 in
theorem back4_any (b : Nat) (nn : Int) (w : World) (hb : b < 18446744073709551616) (hn1 : -9223372036854775808 ≤ nn) (hn2 : nn ≤ 9223372036854775807) :
    Calls Tryd.prog 9 #[.int .u64 b, .int .i64 nn] w fun e w' => e = .returned (.bool true) ∧ Below w.heap.size w w' := by
  have HT := Lib.hid (fun W => Trunc_any b W hb)
  rcases hw : wholeOk b with _ | _
  · have HW := Lib.hid (fun W => Whole_no b W hb hw)
    have HWhy := Lib.hid (whole_no_why hb hw)
    clear hw
    go_enter Tryd.func9, Tryd.ntmps9
    go_wp2_with fail
    refine (fixed4_any w).mono ?_
    rintro e w1 ⟨rfl, hbl⟩
    have HB := Lib.hid hbl
    clear hbl
    go_wp2_with fail
    refine (HW.out _).mono ?_
    rintro e _ ⟨rfl, rfl⟩
    rcases c1 : (FloatKind.f64.format.order b b != some .eq) with _ | _
    · rcases c2 : (FloatKind.f64.format.order b 4846369599423283200 == some .gt || FloatKind.f64.format.order b 4846369599423283200 == some .eq) with _ | _
      · rcases c3 : (FloatKind.f64.format.order b 14069741636278059008 == some .lt || FloatKind.f64.format.order b 14069741636278059008 == some .eq) with _ | _
        · have c4 := HWhy.out c1 c2 c3
          rw [Bool.or_eq_false_iff] at c2 c3
          obtain ⟨c5, c6⟩ := c2
          obtain ⟨c7, c8⟩ := c3
          generalize truncB b = T at *
          clear HWhy
          go_wp2_with fail
          refine (HT.out _).mono ?_
          rintro e _ ⟨rfl, rfl⟩
          go_wp2_with fail
          go_ret
          exact ⟨rfl, HB.out⟩
        · rw [Bool.or_eq_false_iff] at c2
          obtain ⟨c5, c6⟩ := c2
          clear HWhy
          go_wp2_with fail
          go_ret
          exact ⟨rfl, HB.out⟩
      · clear HWhy
        go_wp2_with fail
        go_ret
        exact ⟨rfl, HB.out⟩
    · clear HWhy
      go_wp2_with fail
      go_ret
      exact ⟨rfl, HB.out⟩
  · have HW := Lib.hid (fun W => Whole_yes b W hb hw)
    obtain ⟨q, v1, v2, v3, v4⟩ := whole_value hb hw
    have hT2 : FloatKind.f64.format.order (truncB b) b = some .eq := by
      unfold wholeOk at hw
      rw [Bool.and_eq_true] at hw
      simpa using hw.2
    obtain ⟨S, hS⟩ : ∃ S : Bool, (FloatKind.f64.format.order b 0 == some .lt) = S := ⟨_, rfl⟩
    have hord := order_back hb v4 hS
    rw [hS] at HW
    clear hw hS
    generalize truncB b = T at *
    go_enter Tryd.func9, Tryd.ntmps9
    go_wp2_with fail
    refine (fixed4_any w).mono ?_
    rintro e w1 ⟨rfl, hbl⟩
    have HB := Lib.hid hbl
    have hs1 := hbl.size
    clear hbl
    go_wp2_with fail
    refine (HW.out _).mono ?_
    rintro e w2 ⟨s, rfl, ⟨l, hl, hs⟩, hb2⟩
    have HB2 := Lib.hid (HB.out.trans (hb2.mono hs1))
    have hs2 := hb2.size
    rw [v2] at hl
    have hll : l.length ≤ 16 := canon_len hl v3 (by decide)
    have hs' : s.data.toList = sgL S ++ l := by
      rw [hs]
      cases S
      · rfl
      · rfl
    have hval : readN l 0 = b % 9223372036854775808 := by rw [readN_canon hl (by omega), near_whole v4 v1]
    have HLN := Lib.hid hl
    have HSL := Lib.hid hs'
    have HV := Lib.hid hval
    have HO := Lib.hid hord
    have hsz : s.size ≤ 17 := by
      rw [size_list, hs', List.length_append]
      have : (sgL S).length ≤ 1 := by cases S <;> decide
      omega
    clear hl hs hb2 HB HW v1 v2 v3 v4 hs' hval hord hll
    go_wp2_with fail
    obtain ⟨wo, rfl⟩ : ∃ wo : World, wo = w2 := ⟨_, rfl⟩
    go_loop [8, 9] (fun tv iv => ∃ (i : Nat) (t : ByteArray), tv = .string t ∧ iv = .int .i64 i ∧ i ≤ 20 ∧ t.data.toList = List.replicate i 32 ++ (s.data.toList ++ List.replicate i 10)) (fun _ iv => 20 - (intOf iv).toNat)
    case atStart => exact ⟨0, s, rfl, rfl, by decide, by simp⟩
    case round =>
      obtain ⟨i, t, rfl, rfl, h1, h2⟩ := hrel
      have H2 := Lib.hid h2
      have htz : t.size ≤ 57 := by
        rw [size_list, h2]
        simp only [List.length_append, List.length_replicate]
        rw [← size_list]
        omega
      clear h2
      have hcase : (i : Int) < nn ∧ (i : Int) < 20 ∨ (nn ≤ (i : Int)) ∨ ((i : Int) < nn ∧ 20 ≤ (i : Int)) := by omega
      rcases hcase with ⟨k1, k2⟩ | hk
      · have htz2 : (t.size : Int) ≤ 57 := by omega
        go_wp2_with fail
        go_round
        case rel =>
          refine ⟨i + 1, _, rfl, rfl, by omega, ?_⟩
          rw [ByteArray.data_append, Array.toList_append, ByteArray.data_append, Array.toList_append, H2.out]
          exact around i _
        case measure => simp only [intOf]; omega
      · have hl := HLN.out
        have hl0 := List.length_pos_iff.2 hl.ne
        have e1 : t.data.toList = List.replicate i 32 ++ (sgL S ++ (l ++ List.replicate i 10)) := by rw [H2.out, HSL.out, List.append_assoc]
        have e2 : (t ++ ⟨#[120]⟩ : ByteArray).data.toList = List.replicate i 32 ++ (sgL S ++ (l ++ (List.replicate i 10 ++ [120]))) := by
          rw [ByteArray.data_append, Array.toList_append, e1]
          simp
        have st1 := ends_stop i [] (.inl rfl)
        rw [List.append_nil] at st1
        obtain ⟨p1, p2⟩ := pref_gen S hl (blanks_ws i) st1
        have p3 := looks_gen S hl (blanks_ws i) st1
        rw [trimS_ws (ends_ws i)] at p3
        have p4 := looks_gen S hl (blanks_ws i) (ends_stop i [120] (.inr rfl))
        have p5 : (Lib.trimS (List.replicate i 10 ++ [120]) wsL).isEmpty = false := by
          rcases h : (Lib.trimS (List.replicate i 10 ++ [120]) wsL).isEmpty with _ | _
          · rfl
          · rw [List.isEmpty_iff] at h
            have h2 := trimS_ws_bad h 120 (by simp)
            exact absurd h2 (by decide)
        rw [p5] at p4
        rw [HV.out] at p2
        obtain ⟨Y, hY⟩ : ∃ Y, Y = (if S = true then b % 9223372036854775808 + 9223372036854775808 else b % 9223372036854775808) := ⟨_, rfl⟩
        obtain ⟨N, hN⟩ : ∃ N, N = (List.replicate i (32 : UInt8)).length + (sgL S).length + l.length := ⟨_, rfl⟩
        have o1 : FloatKind.f64.format.order Y b = some .eq := by rw [hY]; exact HO.out
        rw [← hY] at p2
        rw [← hN] at p1
        have hN0 : 0 < (N : Int) := by omega
        have hNt : (N : Int) ≤ (t.size : Int) := by
          have := size_list t
          rw [e1] at this
          simp only [List.length_append] at this
          omega
        have HP : Hid (∀ W, Calls Tryd.prog 31 #[.string t] W fun e w' => e = .returned (.tuple #[.float .f64 Y, .int .i64 (N : Nat)]) ∧ Below W.heap.size W w') := by
          intro W
          have h := Prefix_any t W (by omega)
          rw [e1, p1, p2] at h
          exact h
        have HLk : Hid (∀ W, Calls Tryd.prog 32 #[.string t] W fun e w' => e = .returned (.bool true) ∧ Below W.heap.size W w') := by
          intro W
          have h := Looks_any t W (by omega)
          rw [e1, p3] at h
          exact h
        have HLx : Hid (∀ W, Calls Tryd.prog 32 #[.string (t ++ ⟨#[120]⟩)] W fun e w' => e = .returned (.bool false) ∧ Below W.heap.size W w') := by
          intro W
          have h := Looks_any (t ++ ⟨#[120]⟩) W (by rw [ByteArray.size_append]; show _ + 1 ≤ _; omega)
          rw [e2, p4] at h
          exact h
        clear hl hl0 e1 e2 st1 p1 p2 p3 p4 p5 hY hN HSL HLN HV H2 HO
        have htz2 : (t.size : Int) ≤ 57 := by omega
        have hNl : (N : Int) ≤ 57 := by omega
        rcases hk with hk | ⟨hk, hk'⟩
        all_goals
          go_wp2_with fail
          refine (HP.out _).mono ?_
          rintro e w3 ⟨rfl, hb3⟩
          have HB3 := Lib.hid (HB2.out.trans (hb3.mono (Nat.le_trans hs1 hs2)))
          have hs3 := hb3.size
          clear hb3
          go_wp2_with fail
          refine (HLk.out _).mono ?_
          rintro e w4 ⟨rfl, hb4⟩
          have HB4 := Lib.hid (HB3.out.trans (hb4.mono (Nat.le_trans (Nat.le_trans hs1 hs2) hs3)))
          have hs4 := hb4.size
          clear hb4 HB3
          go_wp2_with fail
          refine (HLx.out _).mono ?_
          rintro e w5 ⟨rfl, hb5⟩
          have HB5 := Lib.hid (HB4.out.trans (hb5.mono (Nat.le_trans (Nat.le_trans (Nat.le_trans hs1 hs2) hs3) hs4)))
          clear hb5 HB4
          go_wp2_with fail
          refine (HT.out _).mono ?_
          rintro e _ ⟨rfl, rfl⟩
          go_wp2_with fail
          go_ret
          exact ⟨rfl, HB5.out⟩
end Go.Proofs.YtkpikkeblogdcaaDoor
