/- Package nat: Add. -/
import Derived.Test.YtcipmfjefmjacaaGreatDoorN2
import Derived.Test.YtcipmfjefmjacaaGreatDoorN3
namespace Go.Proofs.YtcipmfjefmjacaaGreatDoor
open Go.RowKit
set_option linter.unusedVariables false

/-- v is the list of the limbs of n -/
def NatV (w : World) (v : Value) (n : Nat) : Prop := ∃ a cap, v = .slice a (limbs n).length cap ∧ Lies w a cap (limbs n)
theorem NatV.below {w w' : World} {v : Value} {n : Nat} (h : NatV w v n) (hb : Below w.heap.size w w') : NatV w' v n := by
  obtain ⟨a, cap, rfl, hl⟩ := h; exact ⟨a, cap, rfl, hl.below hb⟩

theorem OwnU.alloc {w : World} {base : Nat} {v : Value} {L : List Nat} (h : OwnU w base v L) (o : Obj) : OwnU (w.alloc o) base v L := ⟨h.lt, h.own.alloc o⟩

theorem add_step2 {P Q out : List Nat} {k cr : Nat} (h1 : k < P.length) (h2 : k < Q.length) (ho : out.length = k) (hv : val out + cr * B32 ^ k = val (P.take k) + val (Q.take k)) :
    val (out ++ [(cr + P[k] + Q[k]) % B32]) + (cr + P[k] + Q[k]) / B32 * B32 ^ (k + 1) = val (P.take (k + 1)) + val (Q.take (k + 1)) := by
  rw [List.take_succ_eq_append_getElem h1, List.take_succ_eq_append_getElem h2, val_append, val_append, val_append]
  simp only [val, ho, List.length_take, Nat.min_eq_left (Nat.le_of_lt h1), Nat.min_eq_left (Nat.le_of_lt h2), Nat.pow_succ]
  have e := Nat.div_add_mod (cr + P[k] + Q[k]) B32
  generalize (cr + P[k] + Q[k]) / B32 = q at *
  generalize (cr + P[k] + Q[k]) % B32 = r at *
  have e2 : B32 ^ k * (B32 * q + r) = B32 ^ k * (cr + P[k] + Q[k]) := by rw [e]
  simp only [Nat.mul_add, Nat.mul_zero, Nat.add_zero] at e2 ⊢
  rw [Nat.mul_comm cr] at hv
  rw [show q * (B32 ^ k * B32) = B32 ^ k * (B32 * q) by rw [Nat.mul_comm q, Nat.mul_assoc]]
  omega
theorem add_step1 {P Q out : List Nat} {k cr : Nat} (h1 : k < P.length) (h2 : Q.length ≤ k) (ho : out.length = k) (hv : val out + cr * B32 ^ k = val (P.take k) + val (Q.take k)) :
    val (out ++ [(cr + P[k]) % B32]) + (cr + P[k]) / B32 * B32 ^ (k + 1) = val (P.take (k + 1)) + val (Q.take (k + 1)) := by
  rw [List.take_succ_eq_append_getElem h1, List.take_of_length_le (show Q.length ≤ k + 1 by omega), val_append, val_append]
  rw [List.take_of_length_le h2] at hv
  simp only [val, ho, List.length_take, Nat.min_eq_left (Nat.le_of_lt h1), Nat.pow_succ]
  have e := Nat.div_add_mod (cr + P[k]) B32
  generalize (cr + P[k]) / B32 = q at *
  generalize (cr + P[k]) % B32 = r at *
  have e2 : B32 ^ k * (B32 * q + r) = B32 ^ k * (cr + P[k]) := by rw [e]
  simp only [Nat.mul_add, Nat.mul_zero, Nat.add_zero] at e2 ⊢
  rw [Nat.mul_comm cr] at hv
  rw [show q * (B32 ^ k * B32) = B32 ^ k * (B32 * q) by rw [Nat.mul_comm q, Nat.mul_assoc]]
  omega

set_option maxRecDepth 100000 in
set_option maxHeartbeats 2000000 in
theorem Add_any (va vb : Value) (x y : Nat) (w : World) (hx : NatV w va x) (hy : NatV w vb y) (hX : (limbs x).length ≤ 256) (hY : (limbs y).length ≤ 256) (hF : (limbs (x + y)).length ≤ 256) :
    Calls Tryz.prog 129 #[va, vb] w fun e w' => ∃ v, e = .returned (.tuple #[v, .int .i64 0]) ∧ NatV w' v (x + y) ∧ Below w.heap.size w w' := by
  obtain ⟨a, ca, rfl, ha⟩ := hx
  obtain ⟨b, cb, rfl, hb⟩ := hy
  have V1 := Lib.hid (valid_any a ca x w ha hX)
  have V2 := Lib.hid (valid_any b cb y w hb hY)
  have HF := Lib.hid hF
  have vx : Hid (val (limbs x) = x) := val_limbs x
  have vy : Hid (val (limbs y) = y) := val_limbs y
  have h1 := ha.le; have h2 := hb.le
  have HA := Lib.hid ha; have HB := Lib.hid hb
  clear ha hb hF
  generalize limbs x = X at *
  generalize limbs y = Y at *
  go_enter Tryz.func129, Tryz.ntmps129
  go_wp2_with fail
  refine V1.out.mono ?_
  rintro e w1 ⟨rfl, rfl⟩
  go_wp2_with fail
  refine V2.out.mono ?_
  rintro e w1 ⟨rfl, rfl⟩
  clear V1 V2
  by_cases hlt : X.length < Y.length
  · have HP : Hid (Lies w b cb Y) := HB.out
    have HQ : Hid (Lies w a ca X) := HA.out
    clear HA HB
    obtain ⟨P, hP⟩ : ∃ P, P = Y := ⟨_, rfl⟩
    obtain ⟨Q, hQ⟩ : ∃ Q, Q = X := ⟨_, rfl⟩
    subst hP hQ

    go_wp2_with (at_make; (refine wpList_make0 _ rfl _ _ rfl w.heap.size (P.length + 1) _ rfl rfl (by simp) (by omega) (Nat.le_refl _) ?_); intro v0 w0 hown0 hgr0)
    have HO0 := Lib.hid hown0
    have HB0 := Lib.hid ((Below.refl w.heap.size w).grown hgr0 (Nat.le_refl _) (by simp))
    clear hown0 hgr0
    go_wp2_with fail
    go_loopw [6, 7, 31] (fun o c i wr => ∃ (k : Nat) (out : List Nat) (cr : Nat), k ≤ P.length ∧ i = .int .i64 k ∧ c = .int .u64 cr ∧ out.length = k ∧ cr ≤ 1 ∧ val out + cr * B32 ^ k = val (P.take k) + val (Q.take k) ∧ OwnU wr w.heap.size o out ∧ Below w.heap.size w wr) (fun _ _ i _ => P.length - (intOf i).toNat)
    case atStart => exact ⟨0, [], 0, Nat.zero_le _, rfl, rfl, rfl, by omega, by simp [val], HO0.out, HB0.out⟩
    case round =>
      obtain ⟨k, out, cr, hk, rfl, rfl, hol, hcr, hv, hown, hbw⟩ := hrel
      have HV := Lib.hid hv; have HO := Lib.hid hown; have BW := Lib.hid hbw; have HOL := Lib.hid hol
      have hBs := hbw.size
      clear hv hown hbw hol HO0 HB0
      by_cases hlt : k < P.length
      · obtain ⟨bp, op, rfl, hcp⟩ := HP.out.at_ k hlt
        have hcp' := (BW.out.cell (World.block_lt_of_cell? w _ hcp)).trans hcp
        have hxk : P[k] < 4294967296 := HP.out.lt _ (List.getElem_mem hlt)
        clear hcp
        by_cases hq : k < Q.length
        · obtain ⟨bq, oq, rfl, hcq⟩ := HQ.out.at_ k hq
          have hcq' := (BW.out.cell (World.block_lt_of_cell? w _ hcq)).trans hcq
          have hyk : Q[k] < 4294967296 := HQ.out.lt _ (List.getElem_mem hq)
          clear hcq
          obtain ⟨y, hy⟩ : ∃ y : Nat, y = (cr + P[k] + Q[k]) % B32 := ⟨_, rfl⟩
          obtain ⟨c2, hc2⟩ : ∃ c2 : Nat, c2 = (cr + P[k] + Q[k]) / B32 := ⟨_, rfl⟩
          have HS := Lib.hid (add_step2 hlt hq HOL.out HV.out)
          rw [← hy, ← hc2] at HS
          have ey : ((cr : Int) + P[k] + Q[k]) % 4294967296 = (y : Int) := by rw [hy, B32]; omega
          have ec : ((cr : Int) + P[k] + Q[k]) / 4294967296 = (c2 : Int) := by rw [hc2, B32]; omega
          have hyl : y < B32 := by rw [hy]; exact Nat.mod_lt _ (by decide)
          have hc2l : c2 ≤ 1 := by rw [hc2, B32]; omega
          have Hyl := Lib.hid hyl; have Hc2l := Lib.hid hc2l
          clear hy hc2 hyl hc2l
          generalize P[k] = xk at *
          generalize Q[k] = yk at *
          go_wp2_with (at_builtin; refine wpList_app1 _ rfl _ _ rfl w.heap.size _ out rfl (OwnU.alloc HO.out _) wr.heap.size y rfl (by simp [go_sem]) Hyl.out (by simp; omega) (by rw [HOL.out]; omega) ?_; intro v1 w1 hown1 hgr1)
          have HO1 := Lib.hid hown1
          have HB1 := Lib.hid ((BW.out.alloc hBs _).grown hgr1 (by simp; omega) (fun x hx => (HO.out.own.lt x hx).1))
          clear hown1 hgr1
          go_wp2_with fail
          go_roundw
          case rel => exact ⟨k + 1, out ++ [y], c2, by omega, by go_num, rfl, by simp [HOL.out], Hc2l.out, HS.out, HO1.out, HB1.out⟩
          case measure => simp [intOf]; omega
        · obtain ⟨y, hy⟩ : ∃ y : Nat, y = (cr + P[k]) % B32 := ⟨_, rfl⟩
          obtain ⟨c2, hc2⟩ : ∃ c2 : Nat, c2 = (cr + P[k]) / B32 := ⟨_, rfl⟩
          have HS := Lib.hid (add_step1 hlt (Nat.not_lt.1 hq) HOL.out HV.out)
          rw [← hy, ← hc2] at HS
          have ey : ((cr : Int) + P[k]) % 4294967296 = (y : Int) := by rw [hy, B32]; omega
          have ec : ((cr : Int) + P[k]) / 4294967296 = (c2 : Int) := by rw [hc2, B32]; omega
          have hyl : y < B32 := by rw [hy]; exact Nat.mod_lt _ (by decide)
          have hc2l : c2 ≤ 1 := by rw [hc2, B32]; omega
          have Hyl := Lib.hid hyl; have Hc2l := Lib.hid hc2l
          clear hy hc2 hyl hc2l
          generalize P[k] = xk at *
          go_wp2_with (at_builtin; refine wpList_app1 _ rfl _ _ rfl w.heap.size _ out rfl (OwnU.alloc HO.out _) wr.heap.size y rfl (by simp [go_sem]) Hyl.out (by simp; omega) (by rw [HOL.out]; omega) ?_; intro v1 w1 hown1 hgr1)
          have HO1 := Lib.hid hown1
          have HB1 := Lib.hid ((BW.out.alloc hBs _).grown hgr1 (by simp; omega) (fun x hx => (HO.out.own.lt x hx).1))
          clear hown1 hgr1
          go_wp2_with fail
          go_roundw
          case rel => exact ⟨k + 1, out ++ [y], c2, by omega, by go_num, rfl, by simp [HOL.out], Hc2l.out, HS.out, HO1.out, HB1.out⟩
          case measure => simp [intOf]; omega
      · obtain rfl : k = P.length := by omega
        have ey : ((cr : Int)) % 4294967296 = (cr : Int) := by omega
        go_wp2_with (at_builtin; refine wpList_app1 _ rfl _ _ rfl w.heap.size _ out rfl (OwnU.alloc HO.out _) wr.heap.size cr rfl (by simp [go_sem]) (by unfold B32; omega) (by simp; omega) (by rw [HOL.out]; omega) ?_; intro v1 w1 hown1 hgr1)
        have hvs : val (out ++ [cr]) = x + y := by
          rw [val_append, HOL.out]
          have := HV.out
          rw [List.take_length, List.take_of_length_le (by omega)] at this
          simp only [val, Nat.mul_zero, Nat.add_zero]
          rw [← vx.out, ← vy.out, Nat.add_comm (val Q), ← this]; rw [Nat.mul_comm (B32 ^ _)]
        have htr : trimL (out ++ [cr]) = limbs (x + y) := by rw [trimL_limbs _ hown1.lt, hvs]
        have HB1 := Lib.hid ((BW.out.alloc hBs _).grown hgr1 (by simp; omega) (fun x hx => (HO.out.own.lt x hx).1))
        obtain ⟨a1, cap1, rfl, hlies⟩ := hown1.lies
        have HT := Lib.hid (told_any a1 cap1 _ w1 hlies (by rw [htr]; exact HF.out))
        have HLf : Hid (Lies w1 a1 (limbs (x + y)).length (limbs (x + y))) := by
          have h1 := (hlies.take (trimL (out ++ [cr])).length)
          rw [← trimL_prefix] at h1
          rw [← htr]; exact h1.clip
        have HTR := Lib.hid htr
        clear hown1 hgr1 hvs hlies htr
        go_wp2_with fail
        refine HT.out.mono ?_
        rintro e w2 ⟨rfl, rfl⟩
        rw [HTR.out]
        go_wp2_with fail
        go_ret2
        exact ⟨_, rfl, ⟨_, _, rfl, HLf.out⟩, HB1.out⟩
  · have HP : Hid (Lies w a ca X) := HA.out
    have HQ : Hid (Lies w b cb Y) := HB.out
    clear HA HB
    obtain ⟨P, hP⟩ : ∃ P, P = X := ⟨_, rfl⟩
    obtain ⟨Q, hQ⟩ : ∃ Q, Q = Y := ⟨_, rfl⟩
    subst hP hQ

    go_wp2_with (at_make; (refine wpList_make0 _ rfl _ _ rfl w.heap.size (P.length + 1) _ rfl rfl (by simp) (by omega) (Nat.le_refl _) ?_); intro v0 w0 hown0 hgr0)
    have HO0 := Lib.hid hown0
    have HB0 := Lib.hid ((Below.refl w.heap.size w).grown hgr0 (Nat.le_refl _) (by simp))
    clear hown0 hgr0
    go_wp2_with fail
    go_loopw [6, 7, 31] (fun o c i wr => ∃ (k : Nat) (out : List Nat) (cr : Nat), k ≤ P.length ∧ i = .int .i64 k ∧ c = .int .u64 cr ∧ out.length = k ∧ cr ≤ 1 ∧ val out + cr * B32 ^ k = val (P.take k) + val (Q.take k) ∧ OwnU wr w.heap.size o out ∧ Below w.heap.size w wr) (fun _ _ i _ => P.length - (intOf i).toNat)
    case atStart => exact ⟨0, [], 0, Nat.zero_le _, rfl, rfl, rfl, by omega, by simp [val], HO0.out, HB0.out⟩
    case round =>
      obtain ⟨k, out, cr, hk, rfl, rfl, hol, hcr, hv, hown, hbw⟩ := hrel
      have HV := Lib.hid hv; have HO := Lib.hid hown; have BW := Lib.hid hbw; have HOL := Lib.hid hol
      have hBs := hbw.size
      clear hv hown hbw hol HO0 HB0
      by_cases hlt : k < P.length
      · obtain ⟨bp, op, rfl, hcp⟩ := HP.out.at_ k hlt
        have hcp' := (BW.out.cell (World.block_lt_of_cell? w _ hcp)).trans hcp
        have hxk : P[k] < 4294967296 := HP.out.lt _ (List.getElem_mem hlt)
        clear hcp
        by_cases hq : k < Q.length
        · obtain ⟨bq, oq, rfl, hcq⟩ := HQ.out.at_ k hq
          have hcq' := (BW.out.cell (World.block_lt_of_cell? w _ hcq)).trans hcq
          have hyk : Q[k] < 4294967296 := HQ.out.lt _ (List.getElem_mem hq)
          clear hcq
          obtain ⟨y, hy⟩ : ∃ y : Nat, y = (cr + P[k] + Q[k]) % B32 := ⟨_, rfl⟩
          obtain ⟨c2, hc2⟩ : ∃ c2 : Nat, c2 = (cr + P[k] + Q[k]) / B32 := ⟨_, rfl⟩
          have HS := Lib.hid (add_step2 hlt hq HOL.out HV.out)
          rw [← hy, ← hc2] at HS
          have ey : ((cr : Int) + P[k] + Q[k]) % 4294967296 = (y : Int) := by rw [hy, B32]; omega
          have ec : ((cr : Int) + P[k] + Q[k]) / 4294967296 = (c2 : Int) := by rw [hc2, B32]; omega
          have hyl : y < B32 := by rw [hy]; exact Nat.mod_lt _ (by decide)
          have hc2l : c2 ≤ 1 := by rw [hc2, B32]; omega
          have Hyl := Lib.hid hyl; have Hc2l := Lib.hid hc2l
          clear hy hc2 hyl hc2l
          generalize P[k] = xk at *
          generalize Q[k] = yk at *
          go_wp2_with (at_builtin; refine wpList_app1 _ rfl _ _ rfl w.heap.size _ out rfl (OwnU.alloc HO.out _) wr.heap.size y rfl (by simp [go_sem]) Hyl.out (by simp; omega) (by rw [HOL.out]; omega) ?_; intro v1 w1 hown1 hgr1)
          have HO1 := Lib.hid hown1
          have HB1 := Lib.hid ((BW.out.alloc hBs _).grown hgr1 (by simp; omega) (fun x hx => (HO.out.own.lt x hx).1))
          clear hown1 hgr1
          go_wp2_with fail
          go_roundw
          case rel => exact ⟨k + 1, out ++ [y], c2, by omega, by go_num, rfl, by simp [HOL.out], Hc2l.out, HS.out, HO1.out, HB1.out⟩
          case measure => simp [intOf]; omega
        · obtain ⟨y, hy⟩ : ∃ y : Nat, y = (cr + P[k]) % B32 := ⟨_, rfl⟩
          obtain ⟨c2, hc2⟩ : ∃ c2 : Nat, c2 = (cr + P[k]) / B32 := ⟨_, rfl⟩
          have HS := Lib.hid (add_step1 hlt (Nat.not_lt.1 hq) HOL.out HV.out)
          rw [← hy, ← hc2] at HS
          have ey : ((cr : Int) + P[k]) % 4294967296 = (y : Int) := by rw [hy, B32]; omega
          have ec : ((cr : Int) + P[k]) / 4294967296 = (c2 : Int) := by rw [hc2, B32]; omega
          have hyl : y < B32 := by rw [hy]; exact Nat.mod_lt _ (by decide)
          have hc2l : c2 ≤ 1 := by rw [hc2, B32]; omega
          have Hyl := Lib.hid hyl; have Hc2l := Lib.hid hc2l
          clear hy hc2 hyl hc2l
          generalize P[k] = xk at *
          go_wp2_with (at_builtin; refine wpList_app1 _ rfl _ _ rfl w.heap.size _ out rfl (OwnU.alloc HO.out _) wr.heap.size y rfl (by simp [go_sem]) Hyl.out (by simp; omega) (by rw [HOL.out]; omega) ?_; intro v1 w1 hown1 hgr1)
          have HO1 := Lib.hid hown1
          have HB1 := Lib.hid ((BW.out.alloc hBs _).grown hgr1 (by simp; omega) (fun x hx => (HO.out.own.lt x hx).1))
          clear hown1 hgr1
          go_wp2_with fail
          go_roundw
          case rel => exact ⟨k + 1, out ++ [y], c2, by omega, by go_num, rfl, by simp [HOL.out], Hc2l.out, HS.out, HO1.out, HB1.out⟩
          case measure => simp [intOf]; omega
      · obtain rfl : k = P.length := by omega
        have ey : ((cr : Int)) % 4294967296 = (cr : Int) := by omega
        go_wp2_with (at_builtin; refine wpList_app1 _ rfl _ _ rfl w.heap.size _ out rfl (OwnU.alloc HO.out _) wr.heap.size cr rfl (by simp [go_sem]) (by unfold B32; omega) (by simp; omega) (by rw [HOL.out]; omega) ?_; intro v1 w1 hown1 hgr1)
        have hvs : val (out ++ [cr]) = x + y := by
          rw [val_append, HOL.out]
          have := HV.out
          rw [List.take_length, List.take_of_length_le (by omega)] at this
          simp only [val, Nat.mul_zero, Nat.add_zero]
          rw [← vx.out, ← vy.out, ← this]; rw [Nat.mul_comm (B32 ^ _)]
        have htr : trimL (out ++ [cr]) = limbs (x + y) := by rw [trimL_limbs _ hown1.lt, hvs]
        have HB1 := Lib.hid ((BW.out.alloc hBs _).grown hgr1 (by simp; omega) (fun x hx => (HO.out.own.lt x hx).1))
        obtain ⟨a1, cap1, rfl, hlies⟩ := hown1.lies
        have HT := Lib.hid (told_any a1 cap1 _ w1 hlies (by rw [htr]; exact HF.out))
        have HLf : Hid (Lies w1 a1 (limbs (x + y)).length (limbs (x + y))) := by
          have h1 := (hlies.take (trimL (out ++ [cr])).length)
          rw [← trimL_prefix] at h1
          rw [← htr]; exact h1.clip
        have HTR := Lib.hid htr
        clear hown1 hgr1 hvs hlies htr
        go_wp2_with fail
        refine HT.out.mono ?_
        rintro e w2 ⟨rfl, rfl⟩
        rw [HTR.out]
        go_wp2_with fail
        go_ret2
        exact ⟨_, rfl, ⟨_, _, rfl, HLf.out⟩, HB1.out⟩
end Go.Proofs.YtcipmfjefmjacaaGreatDoor
