/- Package nat: From, Cmp. -/
import Derived.Test.YtcipmfjefmjacaaGreatDoorN1
namespace Go.Proofs.YtcipmfjefmjacaaGreatDoor
open Go.RowKit
set_option linter.unusedVariables false

theorem From_any (n : Nat) (hn : n < 18446744073709551616) (w : World) :
    Calls Tryz.prog 103 #[.int .u64 n] w fun e w' => ∃ a cap, e = .returned (.slice a (limbs n).length cap) ∧ Lies w' a cap (limbs n) ∧ Below w.heap.size w w' := by
  go_enter Tryz.func103, Tryz.ntmps103
  go_wp2_with fail
  have h1 : ((n : Int) % 4294967296) = ((n % 4294967296 : Nat) : Int) := by omega
  have h2 : ((n : Int) / 4294967296) = ((n / 4294967296 : Nat) : Int) := by omega
  rw [h1, h2]
  have hl : Lies (w.alloc (.cells #[.int .u32 (n % 4294967296 : Nat), .int .u32 (n / 4294967296 : Nat)] 105)) (some ⟨w.heap.size, 0, none⟩) 2 [n % 4294967296, n / 4294967296] :=
    ⟨by simp; omega, by simp, by omega, by simp, fun i hi => ⟨w.heap.size, 0, rfl, by
      match i, hi with
      | 0, _ => simp [go_sem]
      | 1, _ => simp [go_sem]⟩⟩
  have hv : trimL [n % 4294967296, n / 4294967296] = limbs n := by
    rw [trimL_limbs _ hl.lt]
    congr 1
    simp only [val, B32]; omega
  have ht := trim_any _ _ _ _ hl
  simp only [List.length_cons, List.length_nil] at ht
  rw [hv] at ht
  refine ht.mono ?_
  rintro e w1 ⟨rfl, rfl⟩
  have hl2 := hl.take (limbs n).length
  rw [← hv, ← trimL_prefix, hv] at hl2
  clear ht hv h1 h2
  have HL := Lib.hid hl2
  clear hl2 hl
  go_wp2_with fail
  go_ret
  exact ⟨_, _, rfl, HL.out, (Below.refl _ _).alloc (Nat.le_refl _) _⟩

/-- the order of two numbers -/
def cmpN (x y : Nat) : Int := if x < y then -1 else if x = y then 0 else 1

set_option maxHeartbeats 1000000 in
theorem Cmp_any (a : Option Addr) (ca : Nat) (x : Nat) (b : Option Addr) (cb : Nat) (y : Nat) (w : World) (ha : Lies w a ca (limbs x)) (hb : Lies w b cb (limbs y)) :
    Calls Tryz.prog 126 #[.slice a (limbs x).length ca, .slice b (limbs y).length cb] w fun e w' => e = .returned (.int .i64 (cmpN x y)) ∧ Below w.heap.size w w' := by
  have h1 := ha.le; have h2 := ha.max; have h3 := hb.le; have h4 := hb.max
  have HA := Lib.hid ha; have HB := Lib.hid hb
  clear ha hb
  by_cases hl : (limbs x).length = (limbs y).length
  · have hne : (((limbs x).length : Int) != ((limbs y).length : Int)) = false := by simp [hl]
    have HL := Lib.hid hl
    have HX := Lib.hid (limbs_lt x); have HY := Lib.hid (limbs_lt y)
    have e1 : Hid (val (limbs x) = x) := val_limbs x
    have e2 : Hid (val (limbs y) = y) := val_limbs y
    clear hl
    generalize hLX : limbs x = X at *
    generalize hLY : limbs y = Y at *
    have HLX := Lib.hid hLX; have HLY := Lib.hid hLY
    clear hLX hLY
    go_enter Tryz.func126, Tryz.ntmps126
    go_wp2_with fail
    go_loopw [5] (fun i wr => ∃ k : Nat, k ≤ X.length ∧ i = .int .i64 ((k : Int) - 1) ∧ X.drop k = Y.drop k ∧ Below w.heap.size w wr) (fun i _ => (intOf i + 1).toNat)
    case atStart => exact ⟨X.length, Nat.le_refl _, rfl, by rw [List.drop_length, HL.out, List.drop_length], Below.refl _ _⟩
    case round =>
      obtain ⟨k, hk, rfl, hd, hbw⟩ := hrel
      have HD := Lib.hid hd
      have BW := Lib.hid hbw
      clear hd hbw
      cases k with
      | zero =>
        go_wp2_with fail
        go_ret
        have e : X = Y := by simpa using HD.out
        have e' : x = y := by rw [← e1.out, ← e2.out, e]
        exact ⟨by rw [show cmpN x y = 0 by simp [cmpN, e']]; rfl, BW.out⟩
      | succ k =>
        have hkY : k < Y.length := by have := HL.out; omega
        obtain ⟨ba, oa, rfl, hca⟩ := HA.out.at_ k (by omega)
        obtain ⟨bb, ob, rfl, hcb⟩ := HB.out.at_ k hkY
        have hca' := (BW.out.cell (World.block_lt_of_cell? w _ hca)).trans hca
        have hcb' := (BW.out.cell (World.block_lt_of_cell? w _ hcb)).trans hcb
        clear hca hcb
        have i0 : (0 : Int) ≤ (k : Int) := Int.natCast_nonneg _
        have i1 : (k : Int) < (X.length : Int) := by omega
        have i2 : (k : Int) < (Y.length : Int) := by omega
        by_cases hq : X[k] = Y[k]
        · have HD' : Hid (X.drop k = Y.drop k) := by
            show X.drop k = Y.drop k
            rw [List.drop_eq_getElem_cons (show k < X.length by omega), List.drop_eq_getElem_cons hkY, hq, HD.out]
          have hb1 : ((X[k] : Int) != (Y[k] : Int)) = false := by simp [hq]
          clear hq HD
          generalize X[k] = xk at *
          generalize Y[k] = yk at *
          go_wp2_with fail
          go_quiet (fail)
          go_wp2_with fail
          go_roundw
          case rel => exact ⟨k, by omega, rfl, HD'.out, BW.out.drewN _⟩
          case measure => simp [intOf]
        · have hb1 : ((X[k] : Int) != (Y[k] : Int)) = true := by simp; omega
          by_cases hlt : X[k] < Y[k]
          · have hb2 : ((X[k] : Int) < (Y[k] : Int)) := by omega
            have hr : Hid (cmpN x y = -1) := by
              show cmpN x y = -1
              have := val_lt_of_top HX.out k (by omega) hkY HD.out hlt
              rw [e1.out, e2.out] at this
              simp [cmpN, this]
            clear hq HD hlt
            generalize X[k] = xk at *
            generalize Y[k] = yk at *
            go_wp2_with fail
            go_quiet (fail)
            go_wp2_with fail
            go_quiet (fail)
            go_wp2_with fail
            go_ret
            exact ⟨by rw [hr.out]; rfl, (BW.out.drewN _).drewN _⟩
          · have hb2 : ¬ ((X[k] : Int) < (Y[k] : Int)) := by omega
            have hb3 : decide ((X[k] : Int) < (Y[k] : Int)) = false := by simp; omega
            have hr : Hid (cmpN x y = 1) := by
              show cmpN x y = 1
              have := val_lt_of_top HY.out k hkY (by omega) HD.out.symm (by omega)
              rw [e1.out, e2.out] at this
              simp only [cmpN]
              rw [if_neg (by omega), if_neg (by omega)]
            clear hq HD hlt
            generalize X[k] = xk at *
            generalize Y[k] = yk at *
            go_wp2_with fail
            go_quiet (fail)
            go_wp2_with fail
            go_quiet (fail)
            go_wp2_with fail
            go_ret
            exact ⟨by rw [hr.out]; rfl, (BW.out.drewN _).drewN _⟩
  · have hne : (((limbs x).length : Int) != ((limbs y).length : Int)) = true := by simp; omega
    by_cases hlt : (limbs x).length < (limbs y).length
    · have hr : Hid (cmpN x y = -1) := by
        show cmpN x y = -1
        simp [cmpN, limbs_len_lt hlt]
      clear hl
      generalize (limbs x).length = lx at *
      generalize (limbs y).length = ly at *
      clear HA HB
      go_enter Tryz.func126, Tryz.ntmps126
      go_wp2_with fail
      go_ret
      exact ⟨by rw [hr.out]; rfl, Below.refl _ _⟩
    · have hr : Hid (cmpN x y = 1) := by
        show cmpN x y = 1
        have := limbs_len_lt (x := y) (y := x) (by omega)
        simp only [cmpN]
        rw [if_neg (by omega), if_neg (by omega)]
      clear hl
      generalize (limbs x).length = lx at *
      generalize (limbs y).length = ly at *
      clear HA HB
      go_enter Tryz.func126, Tryz.ntmps126
      go_wp2_with fail
      go_ret
      exact ⟨by rw [hr.out]; rfl, Below.refl _ _⟩
end Go.Proofs.YtcipmfjefmjacaaGreatDoor
