/- Package format: the reader: flags. -/
import Derived.Test.YtcmpdamfeoaapaaGreatDoorP1
namespace Go.Proofs.YtcmpdamfeoaapaaGreatDoor
open Go.RowKit
set_option linter.unusedVariables false

theorem ne45_43 : ((45 : UInt8) == 43) = false := by decide
theorem ne45_32 : ((45 : UInt8) == 32) = false := by decide
theorem ne45_35 : ((45 : UInt8) == 35) = false := by decide
theorem ne45_48 : ((45 : UInt8) == 48) = false := by decide
theorem ne43_45 : ((43 : UInt8) == 45) = false := by decide
theorem ne43_32 : ((43 : UInt8) == 32) = false := by decide
theorem ne43_35 : ((43 : UInt8) == 35) = false := by decide
theorem ne43_48 : ((43 : UInt8) == 48) = false := by decide
theorem ne32_45 : ((32 : UInt8) == 45) = false := by decide
theorem ne32_43 : ((32 : UInt8) == 43) = false := by decide
theorem ne32_35 : ((32 : UInt8) == 35) = false := by decide
theorem ne32_48 : ((32 : UInt8) == 48) = false := by decide
theorem ne35_45 : ((35 : UInt8) == 45) = false := by decide
theorem ne35_43 : ((35 : UInt8) == 43) = false := by decide
theorem ne35_32 : ((35 : UInt8) == 32) = false := by decide
theorem ne35_48 : ((35 : UInt8) == 48) = false := by decide
theorem ne48_45 : ((48 : UInt8) == 45) = false := by decide
theorem ne48_43 : ((48 : UInt8) == 43) = false := by decide
theorem ne48_32 : ((48 : UInt8) == 32) = false := by decide
theorem ne48_35 : ((48 : UInt8) == 35) = false := by decide

set_option maxHeartbeats 4000000 in
set_option maxRecDepth 100000 in
/-- flags: from a place on, into a piece without flags -/
theorem flags_any (s : ByteArray) (i r p : Nat) (wd pr : Int) (vb : Int) (sw sp : Bool) (nx : Int) (w : World) (hr : RdAt w r s i) (hp : PcAt w p (pieceA false false false false false wd pr vb sw sp nx)) (hrp : r ≠ p) (hi : i + s.size ≤ 1000000000000000) :
    Calls Tryz.prog 129 #[.pointer (some ⟨r, 0, none⟩), .pointer (some ⟨p, 0, none⟩)] w fun e w' => e = .returned (.tuple #[]) ∧
      RdAt w' r s ((i + flagN s i : Nat) : Int) ∧ PcAt w' p (pieceA (hasF 45 s i (flagN s i)) (hasF 43 s i (flagN s i)) (hasF 32 s i (flagN s i)) (hasF 35 s i (flagN s i)) (hasF 48 s i (flagN s i)) wd pr vb sw sp nx) ∧ Apart [r, p] w w' := by
  have hpr : p ≠ r := fun e => hrp e.symm
  have HR := Lib.hid hr
  have HP := Lib.hid hp
  have hfl : flagN s i ≤ s.size := by
    unfold flagN
    refine Nat.le_trans (List.takeWhile_sublist _).length_le ?_
    rw [List.length_drop, sz_list]
    omega
  obtain ⟨n, hn⟩ : ∃ n, n = flagN s i := ⟨_, rfl⟩
  rw [← hn] at hfl ⊢
  have HN := Lib.hid hn
  have HS := Lib.hid hi
  have hi2 : i + n ≤ 1000000000000000 := by omega
  clear hr hp hn hi hfl
  go_enter Tryz.func129, Tryz.ntmps129
  go_wp2_with fail
  go_loopw [] (fun wr => ∃ k : Nat, k ≤ n ∧ RdAt wr r s ((i + k : Nat) : Int) ∧ PcAt wr p (pieceA (hasF 45 s i k) (hasF 43 s i k) (hasF 32 s i k) (hasF 35 s i k) (hasF 48 s i k) wd pr vb sw sp nx) ∧ Apart [r, p] w wr)
    (fun wr => i + n - (match wr.cell? ⟨r, 1, none⟩ with | some v => (intOf v).toNat | none => 0))
  case atStart =>
    refine ⟨0, Nat.zero_le _, HR.out, ?_, Apart.refl _ _⟩
    rw [hasF_zero, hasF_zero, hasF_zero, hasF_zero, hasF_zero]
    exact HP.out
  case round =>
    obtain ⟨k, hk, hr, hp, ha⟩ := hrel
    have HR1 := Lib.hid hr
    have HP1 := Lib.hid hp
    have HA1 := Lib.hid ha
    clear hr hp ha
    have HX := Lib.hid (next_any s ((i + k : Nat) : Int) r wr HR1.out)
    rw [chr_nat] at HX
    rcases Nat.lt_or_ge k n with hlt | hge
    · rw [HN.out] at hlt
      obtain ⟨x, hx, hcx, hx5⟩ := flag_at hlt
      rw [← HN.out] at hlt
      rw [hcx] at HX
      have HXX := Lib.hid hx
      clear hx hcx
      rcases hx5 with rfl | rfl | rfl | rfl | rfl
      all_goals
        go_wp2_with fail
        refine HX.out.mono ?_
        rintro e w1 ⟨rfl, hb⟩
        have HR2 := Lib.hid (HR1.out.below hb)
        have HP2 := Lib.hid (HP1.out.below hb)
        have HA2 := Lib.hid (HA1.out.trans (Apart.of_below hb []) (by simp))
        have c0 := HR2.out.c0
        have c1 := HR2.out.c1
        have f1 := HR2.out.f1
        have k0 : w1.cell? ⟨p, 0, none⟩ = some (.bool (hasF 45 s i k)) := HP2.out.cell 0
        have k1 : w1.cell? ⟨p, 1, none⟩ = some (.bool (hasF 43 s i k)) := HP2.out.cell 1
        have k2 : w1.cell? ⟨p, 2, none⟩ = some (.bool (hasF 32 s i k)) := HP2.out.cell 2
        have k3 : w1.cell? ⟨p, 3, none⟩ = some (.bool (hasF 35 s i k)) := HP2.out.cell 3
        have k4 : w1.cell? ⟨p, 4, none⟩ = some (.bool (hasF 48 s i k)) := HP2.out.cell 4
        have g0 := HP2.out.frozen 0
        have g1 := HP2.out.frozen 1
        have g2 := HP2.out.frozen 2
        have g3 := HP2.out.frozen 3
        have g4 := HP2.out.frozen 4
        have q1 : ∀ (j : Nat) (v : Value), (w1.setCell ⟨p, j, none⟩ v).cell? ⟨r, 1, none⟩ = some (.int .i64 ((i + k : Nat) : Int)) := fun j v => (HR2.out.other j v hrp).c1
        have q2 : ∀ (j : Nat) (v : Value), (w1.setCell ⟨p, j, none⟩ v).frozen? ⟨r, 1, none⟩ = false := fun j v => (HR2.out.other j v hrp).f1
        clear hb
        go_wp2_with fail
        refine ⟨⟨k + 1, hlt, ?_, ?_, ?_⟩, ?_⟩
        · rw [show ((i + (k + 1) : Nat) : Int) = (i : Int) + k + 1 from by omega]
          exact (HR2.out.other _ _ hrp).step _
        · simp (decide := true) only [hasF_step _ _ _ _ _ HXX.out, beq_self_eq_true, ne45_43, ne45_32, ne45_35, ne45_48, ne43_45, ne43_32, ne43_35, ne43_48, ne32_45, ne32_43, ne32_35, ne32_48, ne35_45, ne35_43, ne35_32, ne35_48, ne48_45, ne48_43, ne48_32, ne48_35, Bool.or_true, Bool.or_false]
          exact (HP2.out.set _ _).other _ _ hpr
        · exact (HA2.out.setCell _ (by simp) _).setCell _ (by simp) _
        · rw [((HR2.out.other _ _ hrp).step _).c1, HR1.out.c1]
          simp only [intOf]
          omega
    · obtain rfl : k = n := by omega
      rw [HN.out] at HX
      obtain ⟨h1, h2, h3, h4, h5⟩ := flag_stop s i
      rw [← HN.out] at h1 h2 h3 h4 h5 HX
      generalize ch s (i + k) = c at *
      have b1 : ((c : Int) == 45) = false := by simp; omega
      have b2 : ((c : Int) == 43) = false := by simp; omega
      have b3 : ((c : Int) == 32) = false := by simp; omega
      have b4 : ((c : Int) == 35) = false := by simp; omega
      have b5 : ((c : Int) == 48) = false := by simp; omega
      clear h1 h2 h3 h4 h5
      go_wp2_with fail
      refine HX.out.mono ?_
      rintro e w1 ⟨rfl, hb⟩
      have HR2 := Lib.hid (HR1.out.below hb)
      have HP2 := Lib.hid (HP1.out.below hb)
      have HA2 := Lib.hid (HA1.out.trans (Apart.of_below hb []) (by simp))
      clear hb
      go_wp2_with fail
      exact bodyPost_ret (v := .tuple #[]) (by simp [results, Tryz.results129, go_sem]) rfl ⟨rfl, HR2.out, HP2.out, HA2.out⟩
end Go.Proofs.YtcmpdamfeoaapaaGreatDoor
