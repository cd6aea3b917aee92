/- The document's numbers (thresherref02): Cmp. -/
import Derived.Test.YtcmpdamfeoaapaaGreatDoorQ4
import Derived.Test.YtcmpdamfeoaapaaGreatDoorM1
namespace Go.Proofs.YtcmpdamfeoaapaaGreatDoor
open Go.RowKit
set_option linter.unusedVariables false


set_option maxHeartbeats 1000000 in
theorem Cmp4_any (a : Option Addr) (ca : Nat) (x : Nat) (b : Option Addr) (cb : Nat) (y : Nat) (w : World) (ha : Li4 w a ca (lim4 x)) (hb : Li4 w b cb (lim4 y)) :
    Calls Tryz.prog 124 #[.slice a (lim4 x).length ca, .slice b (lim4 y).length cb] w fun e w' => e = .returned (.int .i64 (cmpN x y)) ∧ Below w.heap.size w w' := by
  have h1 := ha.le; have h2 := ha.max; have h3 := hb.le; have h4 := hb.max
  have HA := Lib.hid ha; have HB := Lib.hid hb
  clear ha hb
  by_cases hl : (lim4 x).length = (lim4 y).length
  · have hne : (((lim4 x).length : Int) != ((lim4 y).length : Int)) = false := by simp [hl]
    have HL := Lib.hid hl
    have HX := Lib.hid (lim4_lt x); have HY := Lib.hid (lim4_lt y)
    have e1 : Hid (val4 (lim4 x) = x) := val4_lim4 x
    have e2 : Hid (val4 (lim4 y) = y) := val4_lim4 y
    clear hl
    generalize hLX : lim4 x = X at *
    generalize hLY : lim4 y = Y at *
    have HLX := Lib.hid hLX; have HLY := Lib.hid hLY
    clear hLX hLY
    go_enter Tryz.func124, Tryz.ntmps124
    go_wp2_with fail
    go_loopw [5] (fun i wr => ∃ k : Nat, k ≤ X.length ∧ i = .int .i64 ((k : Int) - 1) ∧ X.drop k = Y.drop k ∧ Below w.heap.size w wr) (fun i _ => (intOf i + 1).toNat)
    case atStart => exact ⟨X.length, Nat.le_refl _, rfl, by rw [List.drop_length, HL.out, List.drop_length], Below.refl _ _⟩
    case round =>
      obtain ⟨k, hk, rfl, hd, hbw⟩ := hrel
      have HD := Lib.hid hd
      have BW := Lib.hid hbw
      clear hd hbw
      cases k with
      | zero =>
        go_wp2_with fail
        go_ret
        have e : X = Y := by simpa using HD.out
        have e' : x = y := by rw [← e1.out, ← e2.out, e]
        exact ⟨by rw [show cmpN x y = 0 by simp [cmpN, e']]; rfl, BW.out⟩
      | succ k =>
        have hkY : k < Y.length := by have := HL.out; omega
        obtain ⟨ba, oa, rfl, hca⟩ := HA.out.at_ k (by omega)
        obtain ⟨bb, ob, rfl, hcb⟩ := HB.out.at_ k hkY
        have hca' := (BW.out.cell (World.block_lt_of_cell? w _ hca)).trans hca
        have hcb' := (BW.out.cell (World.block_lt_of_cell? w _ hcb)).trans hcb
        clear hca hcb
        have i0 : (0 : Int) ≤ (k : Int) := Int.natCast_nonneg _
        have i1 : (k : Int) < (X.length : Int) := by omega
        have i2 : (k : Int) < (Y.length : Int) := by omega
        by_cases hq : X[k] = Y[k]
        · have HD' : Hid (X.drop k = Y.drop k) := by
            show X.drop k = Y.drop k
            rw [List.drop_eq_getElem_cons (show k < X.length by omega), List.drop_eq_getElem_cons hkY, hq, HD.out]
          have hb1 : decide (X[k] < Y[k]) = false := by simp [hq]
          have hb1' : decide (Y[k] < X[k]) = false := by simp [hq]
          clear hq HD
          generalize X[k] = xk at *
          generalize Y[k] = yk at *
          go_wp2_with fail
          go_quiet (fail)
          go_wp2_with fail
          go_quiet (fail)
          go_wp2_with fail
          go_roundw
          case rel => exact ⟨k, by omega, rfl, HD'.out, (by first | exact BW.out.drewN _ | exact (BW.out.drewN _).drewN _)⟩
          case measure => simp [intOf]
        · by_cases hlt : X[k] < Y[k]
          · have hb2 : ((X[k] : Int) < (Y[k] : Int)) := by omega
            have hr : Hid (cmpN x y = -1) := by
              show cmpN x y = -1
              have := val4_lt_of_top HX.out k (by omega) hkY HD.out hlt
              rw [e1.out, e2.out] at this
              simp [cmpN, this]
            clear hq HD hlt
            generalize X[k] = xk at *
            generalize Y[k] = yk at *
            go_wp2_with fail
            go_quiet (fail)
            go_wp2_with fail
            go_ret
            exact ⟨by rw [hr.out]; rfl, BW.out.drewN _⟩
          · have hb2 : decide ((Y[k] : Int) < (X[k] : Int)) = true := by simp; omega
            have hb3 : decide (X[k] < Y[k]) = false := by simp; omega
            have hb4 : decide (Y[k] < X[k]) = true := by simp; omega
            have hr : Hid (cmpN x y = 1) := by
              show cmpN x y = 1
              have := val4_lt_of_top HY.out k hkY (by omega) HD.out.symm (by omega)
              rw [e1.out, e2.out] at this
              simp only [cmpN]
              rw [if_neg (by omega), if_neg (by omega)]
            clear hq HD hlt
            generalize X[k] = xk at *
            generalize Y[k] = yk at *
            go_wp2_with fail
            go_quiet (fail)
            go_wp2_with fail
            go_quiet (fail)
            go_wp2_with fail
            go_ret
            exact ⟨by rw [hr.out]; rfl, (by first | exact BW.out.drewN _ | exact (BW.out.drewN _).drewN _)⟩
  · have hne : (((lim4 x).length : Int) != ((lim4 y).length : Int)) = true := by simp; omega
    by_cases hlt : (lim4 x).length < (lim4 y).length
    · have hr : Hid (cmpN x y = -1) := by
        show cmpN x y = -1
        simp [cmpN, lim4_len_lt hlt]
      clear hl
      generalize (lim4 x).length = lx at *
      generalize (lim4 y).length = ly at *
      clear HA HB
      go_enter Tryz.func124, Tryz.ntmps124
      go_wp2_with fail
      go_ret
      exact ⟨by rw [hr.out]; rfl, Below.refl _ _⟩
    · have hr : Hid (cmpN x y = 1) := by
        show cmpN x y = 1
        have := lim4_len_lt (x := y) (y := x) (by omega)
        simp only [cmpN]
        rw [if_neg (by omega), if_neg (by omega)]
      clear hl
      generalize (lim4 x).length = lx at *
      generalize (lim4 y).length = ly at *
      clear HA HB
      go_enter Tryz.func124, Tryz.ntmps124
      go_wp2_with fail
      go_ret
      exact ⟨by rw [hr.out]; rfl, Below.refl _ _⟩
theorem Cmp4_V (va vb : Value) (x y : Nat) (w : World) (ha : NumV w va x) (hb : NumV w vb y) :
    Calls Tryz.prog 124 #[va, vb] w fun e w' => e = .returned (.int .i64 (cmpN x y)) ∧ Below w.heap.size w w' := by
  obtain ⟨a, ca, rfl, ha⟩ := ha
  obtain ⟨b, cb, rfl, hb⟩ := hb
  exact Cmp4_any a ca x b cb y w ha hb
end Go.Proofs.YtcmpdamfeoaapaaGreatDoor
