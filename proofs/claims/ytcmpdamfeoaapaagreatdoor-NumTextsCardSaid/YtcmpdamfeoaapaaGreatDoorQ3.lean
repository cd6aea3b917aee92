/- The document's numbers (thresherref02): Times, Pow. -/
import Derived.Test.YtcmpdamfeoaapaaGreatDoorQ2
namespace Go.Proofs.YtcmpdamfeoaapaaGreatDoor
open Go.RowKit
set_option linter.unusedVariables false

set_option maxRecDepth 100000 in
set_option maxHeartbeats 4000000 in
theorem Times_any (va : Value) (x f : Nat) (w : World) (hx : NumV w va x) (hX : (lim4 x).length ≤ 100000) (hf : f ≤ 1099511627776) :
    Calls Tryz.prog 123 #[va, .int .i64 (f : Int)] w fun e w' => ∃ v, e = .returned v ∧ NumV w' v (x * f) ∧ Below w.heap.size w w' := by
  obtain ⟨a, ca, rfl, ha⟩ := hx
  have vx : Hid (val4 (lim4 x) = x) := val4_lim4 x
  have h1 := ha.le
  have HA := Lib.hid ha
  clear ha
  generalize lim4 x = P at *
  obtain ⟨n, hn⟩ : ∃ n, n = P.length := ⟨_, rfl⟩
  rw [← hn] at hX h1 ⊢
  have HN := Lib.hid hn
  clear hn
  go_enter Tryz.func123, Tryz.ntmps123
  go_wp2_with fail
  go_loopw [5, 6, 7] (fun o c i wr => ∃ (k : Nat) (out : List Nat) (cr : Nat), i = .int .i64 (k : Int) ∧ c = .int .i64 (cr : Int) ∧ cr ≤ f ∧ k ≤ n + 10 ∧ Hid (n < k → cr * 10000 ^ (k - n) ≤ f) ∧ Hid (out.length = k) ∧ Hid (val4 out + cr * B4 ^ k = val4 (P.take k) * f) ∧ Hid (Own4 wr w.heap.size o out) ∧ Hid (Below w.heap.size w wr))
    (fun _ _ i _ => n + 11 - (intOf i).toNat)
  case atStart => exact ⟨0, [], 0, rfl, rfl, by omega, by omega, (fun h => by omega), rfl, (by show val4 [] + 0 * _ = val4 [] * _; simp [val4]), Own4.nil _ _, Below.refl _ _⟩
  case round =>
    obtain ⟨k, out, cr, rfl, rfl, hcr, hkb, HK, HOL, HV, HO, HB0⟩ := hrel
    have hgs := HB0.out.size
    by_cases hA : k < n
    · obtain ⟨bp, op, rfl, hcp⟩ := HA.out.at_ k (by rw [← HN.out]; exact hA)
      have hcp' := (HB0.out.cell (World.block_lt_of_cell? w _ hcp)).trans hcp
      have hpl : P[k]'(by rw [← HN.out]; exact hA) < 10000 := HA.out.lt _ (List.getElem_mem _)
      have hpe : pc P k = P[k]'(by rw [← HN.out]; exact hA) := pc_lt _
      clear hcp
      have HS := Lib.hid (piece_step (s := pc P k * f) (A' := val4 (P.take (k + 1)) * f) HOL.out HV.out (by rw [val4_pc, Nat.add_mul, Nat.mul_assoc]))
      rw [hpe] at HS
      generalize P[k]'(by rw [← HN.out]; exact hA) = p at *
      obtain ⟨pr, hpr⟩ : ∃ pr : Nat, pr = p * f := ⟨_, rfl⟩
      rw [← hpr] at HS
      have hprl : pr ≤ 9999 * f := by rw [hpr]; exact Nat.mul_le_mul_right _ (by omega)
      have epr : (p : Int) * (f : Int) = (pr : Int) := by rw [hpr]; simp
      obtain ⟨y, hy⟩ : ∃ y : Nat, y = (cr + pr) % B4 := ⟨_, rfl⟩
      obtain ⟨c2, hc2⟩ : ∃ c2 : Nat, c2 = (cr + pr) / B4 := ⟨_, rfl⟩
      rw [← hy, ← hc2] at HS
      have ey : ((cr : Int) + (pr : Int)) % 10000 = (y : Int) := by rw [hy, B4]; omega
      have ec : ((cr : Int) + (pr : Int)) / 10000 = (c2 : Int) := by rw [hc2, B4]; omega
      have hyl : y < B4 := by rw [hy]; exact Nat.mod_lt _ (by decide)
      have hc2l : c2 ≤ f := by rw [hc2, B4]; omega
      have hA1 : (k : Int) < (n : Int) := by omega
      have Hyl := Lib.hid hyl; have Hc2 := Lib.hid hc2l
      clear hy hc2 hyl hc2l hpe HV hpr HK
      go_wp2_with (
        at_builtin
        go_loud (refine wpList_app4 _ rfl _ _ rfl w.heap.size _ out rfl (Own4.alloc HO.out _) wr.heap.size y rfl (by simp [go_sem]) Hyl.out (by simp; omega) (by rw [HOL.out]; omega) ?_)
        intro v1 w1 hown1 hgr1
        have HO1 := Lib.hid hown1
        have HB1 := Lib.hid ((HB0.out.alloc hgs _).grown hgr1 (by simp; omega) (fun x hx => (HO.out.own.lt x hx).1))
        clear hown1 hgr1)
      go_wp2_with fail
      go_roundw
      case rel => exact ⟨k + 1, out ++ [y], c2, by go_num, by first | rfl | exact congrArg (Value.int .i64) ec, Hc2.out, by omega, (fun h => by omega), by show (out ++ [y]).length = _; simp [HOL.out], HS, HO1, HB1⟩
      case measure => simp only [intOf]; omega
    · have hA1 : (n : Int) ≤ (k : Int) := by omega
      by_cases hc0 : cr = 0
      · subst hc0
        have hvv : val4 out = x * f := by
          have := HV.out
          rw [List.take_of_length_le (by rw [← HN.out]; omega), vx.out] at this
          simpa using this
        obtain ⟨ao, co, rfl, hli⟩ := HO.out.li4
        have HT := Lib.hid (trim4_any ao co out wr hli)
        have HR := Lib.hid (Own4.trimmed hli hvv)
        obtain ⟨ln, hln⟩ : ∃ ln, ln = out.length := ⟨_, rfl⟩
        rw [← hln] at HT
        rw [← hln]
        clear hli hvv hln hkb
        go_wp2_with fail
        refine HT.out.mono ?_
        rintro e _ ⟨rfl, rfl⟩
        go_wp2_with fail
        go_ret
        exact ⟨_, rfl, HR.out, HB0.out⟩
      · have hk10 : k < n + 4 := by
          rcases Nat.lt_or_ge k (n + 4) with h | h
          · exact h
          · exfalso
            have h1 := HK.out (by omega)
            have h2 : 10000 ^ 4 ≤ 10000 ^ (k - n) := Nat.pow_le_pow_right (by decide) (by omega)
            have h3 : 1 * 10000 ^ (k - n) ≤ cr * 10000 ^ (k - n) := Nat.mul_le_mul_right _ (by omega)
            have h4 : (10000 : Nat) ^ 4 = 10000000000000000 := by decide
            omega
        have HS := Lib.hid (piece_step (s := 0) (A' := val4 (P.take (k + 1)) * f) HOL.out HV.out (by rw [List.take_of_length_le (by rw [← HN.out]; omega), List.take_of_length_le (by rw [← HN.out]; omega)]; rfl))
        rw [Nat.add_zero] at HS
        obtain ⟨y, hy⟩ : ∃ y : Nat, y = cr % B4 := ⟨_, rfl⟩
        obtain ⟨c2, hc2⟩ : ∃ c2 : Nat, c2 = cr / B4 := ⟨_, rfl⟩
        rw [← hy, ← hc2] at HS
        have hyl : y < B4 := by rw [hy]; exact Nat.mod_lt _ (by decide)
        have hc2l : c2 ≤ f := by rw [hc2, B4]; omega
        have HK1 : Hid (n < k + 1 → c2 * 10000 ^ (k + 1 - n) ≤ f) := by
          intro _
          have h1 : c2 * 10000 ≤ cr := by rw [hc2, B4]; omega
          rcases Nat.lt_or_ge n k with h | h
          · refine Nat.le_trans ?_ (HK.out h)
            rw [show k + 1 - n = k - n + 1 by omega, Nat.pow_succ, Nat.mul_comm (10000 ^ (k - n)), ← Nat.mul_assoc]
            exact Nat.mul_le_mul_right _ h1
          · rw [show k + 1 - n = 1 by omega, Nat.pow_one]; omega
        obtain ⟨C, hC⟩ : ∃ C : Int, C = (cr : Int) := ⟨_, rfl⟩
        have ey : C % 10000 = (y : Int) := by rw [hC, hy, B4]; omega
        have ec : C / 10000 = (c2 : Int) := by rw [hC, hc2, B4]; omega
        have hC0 : 0 < C := by omega
        have hC1 : C ≤ 1099511627776 := by omega
        have Hyl := Lib.hid hyl; have Hc2 := Lib.hid hc2l
        rw [← hC]
        clear hy hc2 hyl hc2l HV HK hC hcr hc0
        go_wp2_with (
          at_builtin
          go_loud (refine wpList_app4 _ rfl _ _ rfl w.heap.size _ out rfl (Own4.alloc HO.out _) wr.heap.size y rfl (by simp [go_sem]) Hyl.out (by simp; omega) (by rw [HOL.out]; omega) ?_)
          intro v1 w1 hown1 hgr1
          have HO1 := Lib.hid hown1
          have HB1 := Lib.hid ((HB0.out.alloc hgs _).grown hgr1 (by simp; omega) (fun x hx => (HO.out.own.lt x hx).1))
          clear hown1 hgr1)
        go_wp2_with fail
        go_roundw
        case rel => exact ⟨k + 1, out ++ [y], c2, by go_num, by first | rfl | exact congrArg (Value.int .i64) ec, Hc2.out, by omega, HK1, by show (out ++ [y]).length = _; simp [HOL.out], HS, HO1, HB1⟩
        case measure => simp only [intOf]; omega

theorem lim4_one : lim4 1 = [1] := by rw [lim4_pos (by decide), show 1 / B4 = 0 by decide, show 1 % B4 = 1 by decide, lim4_zero]
theorem lim4_pow {f j : Nat} (hf : f ≤ 10) : (lim4 (f ^ j)).length ≤ j + 1 := by
  refine lim4_length_le (Nat.lt_of_le_of_lt (Nat.pow_le_pow_left hf j) ?_)
  refine Nat.lt_of_le_of_lt (Nat.pow_le_pow_left (show 10 ≤ B4 by decide) j) ?_
  exact Nat.pow_lt_pow_right (by decide) (by omega)
theorem numV_block (w : World) (B : Nat) (x : Nat) (hx : 0 < x) (hx2 : x < 10000) (hc : w.cell? ⟨B, 0, none⟩ = some (.int .i64 (x : Int))) : NumV w (.slice (some ⟨B, 0, none⟩) 1 1) x := by
  have e : lim4 x = [x] := by rw [lim4_pos (by omega), show x / B4 = 0 by unfold B4; omega, lim4_zero, Nat.mod_eq_of_lt (show x < B4 from hx2)]
  refine ⟨some ⟨B, 0, none⟩, 1, by rw [e]; rfl, ?_, by rw [e]; simp, by omega, fun y hy => by cases hy; rfl, fun i hi => ?_⟩
  · rw [e]; intro y hy; simp at hy; omega
  · simp only [e] at hi ⊢
    obtain rfl : i = 0 := by simpa using hi
    exact ⟨B, 0, rfl, by simpa using hc⟩

set_option maxRecDepth 100000 in
set_option maxHeartbeats 8000000 in
theorem Pow4_2 (K : Nat) (w : World) (hK : K ≤ 30000) :
    Calls Tryz.prog 75 #[.int .i64 2, .int .i64 (K : Int)] w fun e w' => ∃ v, e = .returned v ∧ NumV w' v (2 ^ K) ∧ Below w.heap.size w w' := by
  have HT1 : Hid (∀ (v : Value) (j : Nat) (W : World), NumV W v (2 ^ j) → j ≤ 30000 → Calls Tryz.prog 123 #[v, .int .i64 2] W fun e w' => ∃ v', e = .returned v' ∧ NumV w' v' (2 ^ (j + 1)) ∧ Below W.heap.size W w') := by
    intro v j W hv hj
    have := Times_any v (2 ^ j) 2 W hv (by have := lim4_pow (f := 2) (j := j) (by omega); omega) (by omega)
    rw [← Nat.pow_succ] at this
    exact this
  have HT8 : Hid (∀ (v : Value) (j : Nat) (W : World), NumV W v (2 ^ j) → j ≤ 30000 → Calls Tryz.prog 123 #[v, .int .i64 256] W fun e w' => ∃ v', e = .returned v' ∧ NumV w' v' (2 ^ (j + 8)) ∧ Below W.heap.size W w') := by
    intro v j W hv hj
    have := Times_any v (2 ^ j) 256 W hv (by have := lim4_pow (f := 2) (j := j) (by omega); omega) (by omega)
    rw [show 256 = 2 ^ 8 by decide, ← Nat.pow_add] at this
    exact this
  go_enter Tryz.func75, Tryz.ntmps75
  go_wp2_with fail
  go_loopw [1, 5] (fun k o wr => ∃ (j r : Nat) (v : Value), k = .int .i64 (r : Int) ∧ o = v ∧ j + r = K ∧ Hid (NumV wr v (2 ^ j)) ∧ Hid (Below w.heap.size w wr)) (fun k _ _ => (intOf k).toNat)
  case atStart =>
    refine ⟨0, K, _, rfl, rfl, by omega, ?_, (Below.refl _ _).alloc (Nat.le_refl _) _⟩
    rw [Nat.pow_zero]
    exact numV_block _ _ 1 (by decide) (by decide) (by simp [go_sem])
  case round =>
    obtain ⟨j, r, v, rfl, rfl, hjr, HV, HB⟩ := hrel
    have hbs := HB.out.size
    by_cases h8 : 8 ≤ r
    · have hI : (8 : Int) ≤ (r : Int) := by omega
      have hrI : (r : Int) ≤ 30000 := by omega
      go_wp2_with fail
      refine (HT8.out _ j _ HV.out (by omega)).mono ?_
      rintro e w1 ⟨v1, rfl, hv1, hb1⟩
      have HV1 := Lib.hid hv1
      have HB1 := Lib.hid (HB.out.trans (hb1.mono hbs))
      clear hv1 hb1
      go_wp2_with fail
      go_roundw
      case rel => exact ⟨j + 8, r - 8, v1, by congr 1; omega, rfl, by omega, HV1, HB1⟩
      case measure => simp only [intOf]; omega
    · have hI : (r : Int) < 8 := by omega
      obtain ⟨wo, rfl⟩ : ∃ wo : World, wo = wr := ⟨_, rfl⟩
      go_wp2_with fail
      go_loopw [1, 5] (fun k o wr => ∃ (j r : Nat) (v : Value), k = .int .i64 (r : Int) ∧ o = v ∧ j + r = K ∧ Hid (NumV wr v (2 ^ j)) ∧ Hid (Below w.heap.size w wr)) (fun k _ _ => (intOf k).toNat)
      case atStart => exact ⟨j, r, _, rfl, rfl, hjr, HV, HB⟩
      case round =>
        clear HV HB hbs hI h8 hjr
        obtain ⟨j, r, v, rfl, rfl, hjr, HV, HB⟩ := hrel
        have hbs := HB.out.size
        by_cases h0 : r = 0
        · subst h0
          obtain rfl : j = K := by omega
          go_wp2_with fail
          go_ret
          exact ⟨_, rfl, HV.out, HB.out⟩
        · have hI : (0 : Int) < (r : Int) := by omega
          have hrI : (r : Int) ≤ 30000 := by omega
          go_wp2_with fail
          refine (HT1.out _ j _ HV.out (by omega)).mono ?_
          rintro e w1 ⟨v1, rfl, hv1, hb1⟩
          have HV1 := Lib.hid hv1
          have HB1 := Lib.hid (HB.out.trans (hb1.mono hbs))
          clear hv1 hb1
          go_wp2_with fail
          go_roundw
          case rel => exact ⟨j + 1, r - 1, v1, by congr 1; omega, rfl, by omega, HV1, HB1⟩
          case measure => simp only [intOf]; omega
set_option maxRecDepth 100000 in
set_option maxHeartbeats 8000000 in
theorem Pow4_5 (K : Nat) (w : World) (hK : K ≤ 30000) :
    Calls Tryz.prog 75 #[.int .i64 5, .int .i64 (K : Int)] w fun e w' => ∃ v, e = .returned v ∧ NumV w' v (5 ^ K) ∧ Below w.heap.size w w' := by
  have HT1 : Hid (∀ (v : Value) (j : Nat) (W : World), NumV W v (5 ^ j) → j ≤ 30000 → Calls Tryz.prog 123 #[v, .int .i64 5] W fun e w' => ∃ v', e = .returned v' ∧ NumV w' v' (5 ^ (j + 1)) ∧ Below W.heap.size W w') := by
    intro v j W hv hj
    have := Times_any v (5 ^ j) 5 W hv (by have := lim4_pow (f := 5) (j := j) (by omega); omega) (by omega)
    rw [← Nat.pow_succ] at this
    exact this
  have HT8 : Hid (∀ (v : Value) (j : Nat) (W : World), NumV W v (5 ^ j) → j ≤ 30000 → Calls Tryz.prog 123 #[v, .int .i64 390625] W fun e w' => ∃ v', e = .returned v' ∧ NumV w' v' (5 ^ (j + 8)) ∧ Below W.heap.size W w') := by
    intro v j W hv hj
    have := Times_any v (5 ^ j) 390625 W hv (by have := lim4_pow (f := 5) (j := j) (by omega); omega) (by omega)
    rw [show 390625 = 5 ^ 8 by decide, ← Nat.pow_add] at this
    exact this
  go_enter Tryz.func75, Tryz.ntmps75
  go_wp2_with fail
  go_loopw [1, 5] (fun k o wr => ∃ (j r : Nat) (v : Value), k = .int .i64 (r : Int) ∧ o = v ∧ j + r = K ∧ Hid (NumV wr v (5 ^ j)) ∧ Hid (Below w.heap.size w wr)) (fun k _ _ => (intOf k).toNat)
  case atStart =>
    refine ⟨0, K, _, rfl, rfl, by omega, ?_, (Below.refl _ _).alloc (Nat.le_refl _) _⟩
    rw [Nat.pow_zero]
    exact numV_block _ _ 1 (by decide) (by decide) (by simp [go_sem])
  case round =>
    obtain ⟨j, r, v, rfl, rfl, hjr, HV, HB⟩ := hrel
    have hbs := HB.out.size
    by_cases h8 : 8 ≤ r
    · have hI : (8 : Int) ≤ (r : Int) := by omega
      have hrI : (r : Int) ≤ 30000 := by omega
      go_wp2_with fail
      refine (HT8.out _ j _ HV.out (by omega)).mono ?_
      rintro e w1 ⟨v1, rfl, hv1, hb1⟩
      have HV1 := Lib.hid hv1
      have HB1 := Lib.hid (HB.out.trans (hb1.mono hbs))
      clear hv1 hb1
      go_wp2_with fail
      go_roundw
      case rel => exact ⟨j + 8, r - 8, v1, by congr 1; omega, rfl, by omega, HV1, HB1⟩
      case measure => simp only [intOf]; omega
    · have hI : (r : Int) < 8 := by omega
      obtain ⟨wo, rfl⟩ : ∃ wo : World, wo = wr := ⟨_, rfl⟩
      go_wp2_with fail
      go_loopw [1, 5] (fun k o wr => ∃ (j r : Nat) (v : Value), k = .int .i64 (r : Int) ∧ o = v ∧ j + r = K ∧ Hid (NumV wr v (5 ^ j)) ∧ Hid (Below w.heap.size w wr)) (fun k _ _ => (intOf k).toNat)
      case atStart => exact ⟨j, r, _, rfl, rfl, hjr, HV, HB⟩
      case round =>
        clear HV HB hbs hI h8 hjr
        obtain ⟨j, r, v, rfl, rfl, hjr, HV, HB⟩ := hrel
        have hbs := HB.out.size
        by_cases h0 : r = 0
        · subst h0
          obtain rfl : j = K := by omega
          go_wp2_with fail
          go_ret
          exact ⟨_, rfl, HV.out, HB.out⟩
        · have hI : (0 : Int) < (r : Int) := by omega
          have hrI : (r : Int) ≤ 30000 := by omega
          go_wp2_with fail
          refine (HT1.out _ j _ HV.out (by omega)).mono ?_
          rintro e w1 ⟨v1, rfl, hv1, hb1⟩
          have HV1 := Lib.hid hv1
          have HB1 := Lib.hid (HB.out.trans (hb1.mono hbs))
          clear hv1 hb1
          go_wp2_with fail
          go_roundw
          case rel => exact ⟨j + 1, r - 1, v1, by congr 1; omega, rfl, by omega, HV1, HB1⟩
          case measure => simp only [intOf]; omega
set_option maxRecDepth 100000 in
set_option maxHeartbeats 8000000 in
theorem Pow4_10 (K : Nat) (w : World) (hK : K ≤ 30000) :
    Calls Tryz.prog 75 #[.int .i64 10, .int .i64 (K : Int)] w fun e w' => ∃ v, e = .returned v ∧ NumV w' v (10 ^ K) ∧ Below w.heap.size w w' := by
  have HT1 : Hid (∀ (v : Value) (j : Nat) (W : World), NumV W v (10 ^ j) → j ≤ 30000 → Calls Tryz.prog 123 #[v, .int .i64 10] W fun e w' => ∃ v', e = .returned v' ∧ NumV w' v' (10 ^ (j + 1)) ∧ Below W.heap.size W w') := by
    intro v j W hv hj
    have := Times_any v (10 ^ j) 10 W hv (by have := lim4_pow (f := 10) (j := j) (by omega); omega) (by omega)
    rw [← Nat.pow_succ] at this
    exact this
  have HT8 : Hid (∀ (v : Value) (j : Nat) (W : World), NumV W v (10 ^ j) → j ≤ 30000 → Calls Tryz.prog 123 #[v, .int .i64 100000000] W fun e w' => ∃ v', e = .returned v' ∧ NumV w' v' (10 ^ (j + 8)) ∧ Below W.heap.size W w') := by
    intro v j W hv hj
    have := Times_any v (10 ^ j) 100000000 W hv (by have := lim4_pow (f := 10) (j := j) (by omega); omega) (by omega)
    rw [show 100000000 = 10 ^ 8 by decide, ← Nat.pow_add] at this
    exact this
  go_enter Tryz.func75, Tryz.ntmps75
  go_wp2_with fail
  go_loopw [1, 5] (fun k o wr => ∃ (j r : Nat) (v : Value), k = .int .i64 (r : Int) ∧ o = v ∧ j + r = K ∧ Hid (NumV wr v (10 ^ j)) ∧ Hid (Below w.heap.size w wr)) (fun k _ _ => (intOf k).toNat)
  case atStart =>
    refine ⟨0, K, _, rfl, rfl, by omega, ?_, (Below.refl _ _).alloc (Nat.le_refl _) _⟩
    rw [Nat.pow_zero]
    exact numV_block _ _ 1 (by decide) (by decide) (by simp [go_sem])
  case round =>
    obtain ⟨j, r, v, rfl, rfl, hjr, HV, HB⟩ := hrel
    have hbs := HB.out.size
    by_cases h8 : 8 ≤ r
    · have hI : (8 : Int) ≤ (r : Int) := by omega
      have hrI : (r : Int) ≤ 30000 := by omega
      go_wp2_with fail
      refine (HT8.out _ j _ HV.out (by omega)).mono ?_
      rintro e w1 ⟨v1, rfl, hv1, hb1⟩
      have HV1 := Lib.hid hv1
      have HB1 := Lib.hid (HB.out.trans (hb1.mono hbs))
      clear hv1 hb1
      go_wp2_with fail
      go_roundw
      case rel => exact ⟨j + 8, r - 8, v1, by congr 1; omega, rfl, by omega, HV1, HB1⟩
      case measure => simp only [intOf]; omega
    · have hI : (r : Int) < 8 := by omega
      obtain ⟨wo, rfl⟩ : ∃ wo : World, wo = wr := ⟨_, rfl⟩
      go_wp2_with fail
      go_loopw [1, 5] (fun k o wr => ∃ (j r : Nat) (v : Value), k = .int .i64 (r : Int) ∧ o = v ∧ j + r = K ∧ Hid (NumV wr v (10 ^ j)) ∧ Hid (Below w.heap.size w wr)) (fun k _ _ => (intOf k).toNat)
      case atStart => exact ⟨j, r, _, rfl, rfl, hjr, HV, HB⟩
      case round =>
        clear HV HB hbs hI h8 hjr
        obtain ⟨j, r, v, rfl, rfl, hjr, HV, HB⟩ := hrel
        have hbs := HB.out.size
        by_cases h0 : r = 0
        · subst h0
          obtain rfl : j = K := by omega
          go_wp2_with fail
          go_ret
          exact ⟨_, rfl, HV.out, HB.out⟩
        · have hI : (0 : Int) < (r : Int) := by omega
          have hrI : (r : Int) ≤ 30000 := by omega
          go_wp2_with fail
          refine (HT1.out _ j _ HV.out (by omega)).mono ?_
          rintro e w1 ⟨v1, rfl, hv1, hb1⟩
          have HV1 := Lib.hid hv1
          have HB1 := Lib.hid (HB.out.trans (hb1.mono hbs))
          clear hv1 hb1
          go_wp2_with fail
          go_roundw
          case rel => exact ⟨j + 1, r - 1, v1, by congr 1; omega, rfl, by omega, HV1, HB1⟩
          case measure => simp only [intOf]; omega
theorem Pow4i_2 (k : Int) (w : World) (h0 : 0 ≤ k) (hK : k ≤ 30000) :
    Calls Tryz.prog 75 #[.int .i64 2, .int .i64 k] w fun e w' => ∃ v, e = .returned v ∧ NumV w' v (2 ^ k.toNat) ∧ Below w.heap.size w w' := by
  have := Pow4_2 k.toNat w (by omega)
  rwa [Int.toNat_of_nonneg h0] at this
theorem Pow4i_5 (k : Int) (w : World) (h0 : 0 ≤ k) (hK : k ≤ 30000) :
    Calls Tryz.prog 75 #[.int .i64 5, .int .i64 k] w fun e w' => ∃ v, e = .returned v ∧ NumV w' v (5 ^ k.toNat) ∧ Below w.heap.size w w' := by
  have := Pow4_5 k.toNat w (by omega)
  rwa [Int.toNat_of_nonneg h0] at this
theorem Pow4i_10 (k : Int) (w : World) (h0 : 0 ≤ k) (hK : k ≤ 30000) :
    Calls Tryz.prog 75 #[.int .i64 10, .int .i64 k] w fun e w' => ∃ v, e = .returned v ∧ NumV w' v (10 ^ k.toNat) ∧ Below w.heap.size w w' := by
  have := Pow4_10 k.toNat w (by omega)
  rwa [Int.toNat_of_nonneg h0] at this
end Go.Proofs.YtcmpdamfeoaapaaGreatDoor
