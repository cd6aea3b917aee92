/- Package nat: Div, bit by bit: the walk. -/
import Derived.Test.YtcipmfjefmjacaaGreatDoorN9
import Derived.BigRegion
namespace Go.Proofs.YtcipmfjefmjacaaGreatDoor
open Go.RowKit
set_option linter.unusedVariables false

set_option maxRecDepth 100000 in
set_option maxHeartbeats 4000000 in
theorem Div_long (va vb : Value) (x y : Nat) (w : World) (hx : NatV w va x) (hy : NatV w vb y) (hX : (limbs x).length ≤ 256) (hY : (limbs y).length ≤ 256) (hY2 : 2 ≤ (limbs y).length) :
    Calls Tryz.prog 105 #[va, vb] w fun e w' => ∃ q r, e = .returned (.tuple #[q, r, .int .i64 0]) ∧ NatV w' q (x / y) ∧ NatV w' r (x % y) ∧ Below w.heap.size w w' := by
  obtain ⟨a, ca, rfl, ha⟩ := hx
  obtain ⟨b, cb, rfl, hb⟩ := hy
  have V1 := Lib.hid (valid_any a ca x w ha hX)
  have V2 := Lib.hid (valid_any b cb y w hb hY)
  have VB := Lib.hid (fun (w' : World) (h : Lies w' a ca (limbs x)) => Bits_any a ca x w' h hX)
  have hy0 : 0 < y := by
    rcases Nat.eq_zero_or_pos y with h | h
    · rw [h, limbs_zero] at hY2; simp at hY2
    · exact h
  have hylt : y < B32 ^ (limbs y).length := lt_of_limbs_length (Nat.le_refl _)
  have hnb : nbits x ≤ 32 * (limbs x).length := nbits_le.2 (by rw [Nat.pow_mul]; exact lt_of_limbs_length (Nat.le_refl _))
  have hxn : x < 2 ^ nbits x := nbits_le.1 (Nat.le_refl _)
  have vx : Hid (val (limbs x) = x) := val_limbs x
  have hXl := Lib.hid (limbs_lt x)
  have hXn : Hid (limbs y ≠ []) := by intro h; rw [h] at hY2; simp at hY2
  have h1 := ha.le; have h2 := hb.le
  have HA := Lib.hid ha; have HB := Lib.hid hb
  have HCMP := Lib.hid (fun (w' : World) (p : Option Addr) (cp : Nat) (n : Nat) (h : Lies w' p cp (limbs n)) (h' : Lies w' b cb (limbs y)) => Cmp_any p cp n b cb y w' h h')
  have HYV : Hid (val (limbs y) = y) := val_limbs y
  have hHY := Lib.hid hylt
  have HXN := Lib.hid hxn
  clear ha hb hylt hxn
  generalize limbs x = X at *
  generalize limbs y = Y at *
  have hY0 : ((Y.length : Int) == 0) = false := beq_eq_false_iff_ne.2 (by omega)
  have hY1 : ((Y.length : Int) == 1) = false := beq_eq_false_iff_ne.2 (by omega)
  have hbw : Hid (∀ p, b = some p → p.block < w.heap.size) := by
    intro p hp
    obtain ⟨bb, ob, e, hc⟩ := HB.out.at_ 0 (by omega)
    rw [hp] at e; cases e
    exact World.block_lt_of_cell? w _ hc
  go_enter Tryz.func105, Tryz.ntmps105
  go_wp2_with fail
  refine V1.out.mono ?_
  rintro e w1 ⟨rfl, rfl⟩
  go_wp2_with fail
  refine V2.out.mono ?_
  rintro e w1 ⟨rfl, rfl⟩
  clear V1 V2
  go_wp2_with (first
    | (at_make; refine wpList_make1 _ rfl _ _ rfl X.length X.length _ _ rfl rfl rfl rfl (Nat.le_refl _) (by omega) ?_; intro w1 hrow hb0
       have HQ0 := Lib.hid hrow
       have hgq := hrow.ltg
       have hb0s := hb0.size
       have HB0 := Lib.hid hb0
       clear hrow hb0)
    | (at_make; refine wpList_make1 _ rfl _ _ rfl (Y.length + 1) (Y.length + 1) _ _ rfl rfl (by simp) (by simp) (Nat.le_refl _) (by omega) ?_; intro w2 hrow hb1
       have HQ1 := Lib.hid (HQ0.out.below hb1 hgq)
       have HL1 := Lib.hid hrow
       have HB1 := Lib.hid (HB0.out.trans (hb1.mono hb0s))
       have hbs := hb1.size
       clear hrow hb1 HQ0 HB0))
  generalize hgl : w1.heap.size = gl at *
  clear hgl
  generalize hgqe : w.heap.size = gq at *
  have HGQ := Lib.hid hgqe
  clear hgqe
  go_wp2_with fail
  refine (VB.out _ (HA.out.below (by rw [HGQ.out]; exact HB1.out))).mono ?_
  rintro e w3 ⟨rfl, rfl⟩
  go_wp2_with fail
  go_loopw [11] (fun i wr => ∃ (k : Nat) (Q R : List Nat), k ≤ nbits x ∧ i = .int .i64 ((k : Int) - 1) ∧ Q.length = X.length ∧ R.length = Y.length + 1 ∧ val R = x / 2 ^ k % y ∧ val Q = x / 2 ^ k / y * 2 ^ k ∧ RowU wr gq X.length Q ∧ RowU wr gl (Y.length + 1) R ∧ Below gq w wr) (fun i _ => (intOf i + 1).toNat)
  case atStart => exact ⟨nbits x, _, _, Nat.le_refl _, rfl, by simp, by simp, by rw [val_zeros, Nat.div_eq_of_lt HXN.out]; simp, by rw [val_zeros, Nat.div_eq_of_lt HXN.out]; simp, HQ1.out, HL1.out, HB1.out⟩
  case round =>
    obtain ⟨k, Q, R, hk, rfl, hql, hrl, hrv, hqv, hqr, hrr, hbr⟩ := hrel
    have HQL := Lib.hid hql; have HRL := Lib.hid hrl; have HRV := Lib.hid hrv; have HQV := Lib.hid hqv; have HQR := Lib.hid hqr; have HRR := Lib.hid hrr; have BR := Lib.hid hbr
    have hgqr := hqr.ltg; have hglr := hrr.ltg
    clear hql hrl hrv hqv hqr hrr hbr HQ1 HL1 HB1
    cases k with
    | zero =>
      have hq0 : val Q = x / y := by rw [HQV.out]; simp
      have hr0 : val R = x % y := by rw [HRV.out]; simp
      have TQ := Lib.hid (trim_any (some ⟨gq, 0, none⟩) X.length Q wr HQR.out.lies)
      have TR := Lib.hid (trim_any (some ⟨gl, 0, none⟩) (Y.length + 1) R wr HRR.out.lies)
      have NQ := Lib.hid (NatV.of_trim HQR.out.lies hq0).1
      have NR := Lib.hid (NatV.of_trim HRR.out.lies hr0).1
      have lq := trimL_length_le Q
      have lr := trimL_length_le R
      rw [HQL.out] at TQ lq
      rw [HRL.out] at TR lr
      clear hq0 hr0
      go_wp2_with fail
      refine TQ.out.mono ?_
      rintro e w3 ⟨rfl, rfl⟩
      go_wp2_with fail
      refine (clip_any _ _ X.length _ lq).mono ?_
      rintro e w3 ⟨rfl, rfl⟩
      go_wp2_with fail
      refine TR.out.mono ?_
      rintro e w3 ⟨rfl, rfl⟩
      go_wp2_with fail
      refine (clip_any _ _ (Y.length + 1) _ lr).mono ?_
      rintro e w3 ⟨rfl, rfl⟩
      go_wp2_with fail
      go_ret3
      exact ⟨_, _, rfl, NQ.out, NR.out, by rw [HGQ.out]; exact BR.out⟩
    | succ k =>
      have hkX : k / 32 < X.length := by omega
      obtain ⟨ba, oa, rfl, hca⟩ := HA.out.at_ (k / 32) hkX
      have hca' : wr.cell? ⟨ba, oa + k / 32, none⟩ = some (.int .u32 (X[k / 32] : Nat)) := (BR.out.cell (by rw [← HGQ.out]; exact World.block_lt_of_cell? w _ hca)).trans hca
      have hbar : ba < wr.heap.size := World.block_lt_of_cell? wr _ hca'
      have i1 : (k : Int) / 32 < (X.length : Int) := by omega
      obtain ⟨b0, hb0⟩ : ∃ b0, b0 = x / 2 ^ k % 2 := ⟨_, rfl⟩
      have eb : bits .and .u32 ((X[k / 32] : Int) / 2 ^ (k % 32)) 1 = (b0 : Int) := by
        have h1 : (X[k / 32] : Int) / 2 ^ (k % 32) = ((X[k / 32] / 2 ^ (k % 32) : Nat) : Int) := by simp
        have h2 : X[k / 32] / 2 ^ (k % 32) < 4294967296 := Nat.lt_of_le_of_lt (Nat.div_le_self _ _) (hXl.out _ (List.getElem_mem hkX))
        have h3 := u32_and_nat (X[k / 32] / 2 ^ (k % 32)) 1 h2 (by decide)
        rw [h1]
        rw [nat_mask1, bit_of hXl.out hkX, vx.out, ← hb0] at h3
        exact h3
      have hb01 : b0 ≤ 1 := by omega
      have HB0 := Lib.hid hb0
      have HDB := Lib.hid (div_bit x y k hy0)
      clear hca hb0
      generalize X[k / 32] = xk at *
      go_wp2_with fail
      obtain ⟨wo, rfl⟩ : ∃ wo : World, wo = wr := ⟨_, rfl⟩
      go_loopw [12, 69] (fun c i wr => ∃ (j : Nat) (R' : List Nat) (bt : Nat), j ≤ Y.length + 1 ∧ i = .int .i64 j ∧ c = .int .u32 bt ∧ bt ≤ 1 ∧ R'.length = Y.length + 1 ∧ val (R'.take j) + bt * B32 ^ j = 2 * val (R.take j) + b0 ∧ R'.drop j = R.drop j ∧ RowU wr gq X.length Q ∧ RowU wr gl (Y.length + 1) R' ∧ Below gq w wr) (fun _ i _ => Y.length + 1 - (intOf i).toNat)
      case atStart => exact ⟨0, R, b0, Nat.zero_le _, rfl, rfl, hb01, HRL.out, by simp [val], rfl, HQR.out, HRR.out, BR.out⟩
      case round =>
        obtain ⟨j, R', bt, hj, rfl, rfl, hbt, hrl', hv', hd', hqr', hrr', hbr'⟩ := hrel
        have HRL' := Lib.hid hrl'; have HV' := Lib.hid hv'; have HD' := Lib.hid hd'; have HQR' := Lib.hid hqr'; have HRR' := Lib.hid hrr'; have BR' := Lib.hid hbr'
        have hgqr' := hqr'.ltg; have hglr' := hrr'.ltg
        clear hrl' hv' hd' hqr' hrr' hbr' hca' hbar
        by_cases hjl : j < Y.length + 1
        · have hjR : j < R'.length := by rw [HRL'.out]; exact hjl
          have hjR0 : j < R.length := by rw [HRL.out]; exact hjl
          have hcr := HRR'.out.cell j hjR
          have hfr := HRR'.out.frozen j
          have hRR : R'[j] = R[j] := by
            have h1 := List.drop_eq_getElem_cons hjR
            have h2 := List.drop_eq_getElem_cons hjR0
            rw [HD'.out, h2] at h1; exact (List.cons.inj h1).1.symm
          have hrl4 : R'[j] < 4294967296 := HRR'.out.lt _ (List.getElem_mem hjR)
          obtain ⟨nv, hnv⟩ : ∃ nv, nv = R'[j] * 2 % 4294967296 + bt := ⟨_, rfl⟩
          have eo : bits .or .u32 ((R'[j] : Int) * 2 % 4294967296) (bt : Int) = (nv : Int) := by
            have h3 := u32_or_nat (R'[j] * 2 % 4294967296) bt (Nat.mod_lt _ (by decide)) (by omega)
            rw [nat_join 1 _ _ (by omega) (by omega), ← hnv] at h3
            rw [← h3]; simp
          have hnvl : nv < B32 := by rw [hnv, B32]; omega
          obtain ⟨b2, hb2⟩ : ∃ b2, b2 = R'[j] / 2147483648 := ⟨_, rfl⟩
          have eb2 : (R'[j] : Int) / 2147483648 = (b2 : Int) := by omega
          have hb21 : b2 ≤ 1 := by omega
          have hst := double_step hjR0 (by rw [HRL'.out, HRL.out]) HV'.out
          rw [← hRR, ← hnv, ← hb2] at hst
          have HST := Lib.hid hst
          have HR3 := Lib.hid (HRR'.out.set j nv hjR hnvl)
          have HD3 : Hid ((R'.set j nv).drop (j + 1) = R.drop (j + 1)) := by
            show (R'.set j nv).drop (j + 1) = R.drop (j + 1)
            rw [List.drop_set_of_lt (by omega)]
            have := congrArg (List.drop 1) HD'.out
            simpa [List.drop_drop] using this
          have ij : (j : Int) < (Y.length : Int) + 1 := by omega
          have ij0 : (0 : Int) ≤ (j : Int) := Int.natCast_nonneg _
          clear hst hnv hb2 hRR
          generalize R'[j] = rj at *
          clear hjR hjR0
          go_wp2_with fail
          go_region
          go_wp2_with fail
          go_roundw
          case rel => exact ⟨j + 1, _, b2, by omega, by go_num, rfl, hb21, by simp [HRL'.out], HST.out, HD3.out, HQR'.out.keep (by show (wr.setCell _ _).heap[gq]? = _; exact Below.heap_setCell _ _ _ _ (by simp; omega)), HR3.out.keep (by rfl), (BR'.out.setCell (by simp; omega) _).drew⟩
          case measure => simp [intOf]; omega
        · obtain rfl : j = Y.length + 1 := by omega
          have hrm := HRV.out
          have hrlt : val R < y := by rw [hrm]; exact Nat.mod_lt _ hy0
          have hv2 : val R' = 2 * val R + b0 := by
            have h1 := HV'.out
            rw [List.take_of_length_le (by rw [HRL'.out]; omega), List.take_of_length_le (by rw [HRL.out]; omega)] at h1
            have h2 : B32 ^ Y.length * B32 = B32 ^ (Y.length + 1) := (Nat.pow_succ _ _).symm
            have h3 := hHY.out
            have h4 : 2 * B32 ^ Y.length ≤ B32 ^ Y.length * B32 := by rw [Nat.mul_comm]; exact Nat.mul_le_mul_left _ (by decide)
            have h5 : bt = 0 := by
              rcases Nat.eq_zero_or_pos bt with h | h
              · exact h
              · have h6 : 1 * B32 ^ (Y.length + 1) ≤ bt * B32 ^ (Y.length + 1) := Nat.mul_le_mul_right _ h
                omega
            rw [h5] at h1; omega
          have hvb : val R' = 2 * (x / 2 ^ (k + 1) % y) + x / 2 ^ k % 2 := by rw [hv2, hrm, HB0.out]
          have hv2y : val R' < 2 * y := by omega
          have TR := trim_any (some ⟨gl, 0, none⟩) (Y.length + 1) R' wr HRR'.out.lies
          rw [HRL'.out] at TR
          have TR' := Lib.hid TR
          have NR := NatV.of_trim HRR'.out.lies (rfl : val R' = val R')
          have HC := Lib.hid (HCMP.out wr (some ⟨gl, 0, none⟩) (Y.length + 1) (val R') (by rw [← NR.2]; have := HRR'.out.lies.take (trimL R').length; rw [← trimL_prefix] at this; exact this) (HB.out.below (by rw [HGQ.out]; exact BR'.out)))
          have htl : Hid ((trimL R').length = (limbs (val R')).length) := by show (trimL R').length = _; rw [NR.2]
          have HVB := Lib.hid hvb
          clear TR NR hvb hv2 hrm hrlt
          go_wp2_with fail
          refine TR'.out.mono ?_
          rintro e w3 ⟨rfl, rfl⟩
          rw [htl.out]
          go_wp2_with fail
          refine HC.out.mono ?_
          rintro e w3 ⟨rfl, hb3⟩
          have HQ3 := Lib.hid (HQR'.out.below hb3 hgqr')
          have HR3 := Lib.hid (HRR'.out.below hb3 hglr')
          have HB3 := Lib.hid (BR'.out.trans (hb3.mono (by omega)))
          have hs3 := hb3.size
          clear hb3 TR' HC
          by_cases hge : y ≤ val R'
          · have hcm : (0 : Int) ≤ cmpN (val R') y := by
              simp only [cmpN]; rw [if_neg (by omega)]; split <;> omega
            have hq' : val Q = x / 2 ^ (k + 1) / y * 2 ^ (k + 1) := HQV.out
            have hkQ : k / 32 < Q.length := by rw [HQL.out]; exact hkX
            obtain ⟨s1, s2, s3⟩ := set_bit HQR.out.lt hkQ hq'
            have hdv : val R' / y = 1 := by
              rw [Nat.div_eq_iff hy0]; omega
            have hQn : Hid (val (Q.set (k / 32) (Q[k / 32] + 2 ^ (k % 32))) = x / 2 ^ k / y * 2 ^ k) := by
              show val (Q.set (k / 32) (Q[k / 32] + 2 ^ (k % 32))) = x / 2 ^ k / y * 2 ^ k
              rw [s3, hq', HDB.out.1, ← HVB.out, hdv, Nat.add_mul, Nat.pow_succ]
              rw [Nat.one_mul]; congr 1; ac_rfl
            have hRn : Hid (val R' - y = x / 2 ^ k % y) := by
              show val R' - y = x / 2 ^ k % y
              rw [HDB.out.2, ← HVB.out, Nat.mod_eq_sub_mod hge, Nat.mod_eq_of_lt (by omega)]
            generalize cmpN (val R') y = cm at *
            go_wp2_with fail
            have hne : ∀ p, b = some p → p.block ≠ gl := by
              intro p hp; have := hbw.out p hp; omega
            have HLS := less_any gl (Y.length + 1) R' b cb Y w3 HR3.out (HB.out.below (by rw [HGQ.out]; exact HB3.out)) hne (by rw [HRL'.out]; omega) (by rw [HYV.out]; exact hge) (by rw [HRL'.out]; omega)
            rw [HRL'.out] at HLS
            refine HLS.mono ?_
            rintro e w4 ⟨rfl, ⟨A', hal, hav, hra⟩, hap⟩
            rw [HYV.out, hRn.out] at hav
            have HQ4 := Lib.hid (HQ3.out.keep (hap.block gq (by omega) (by simp; omega)))
            have HAV := Lib.hid hav
            have HRA := Lib.hid hra
            have HAL := Lib.hid hal
            have HB4 := Lib.hid (HB3.out.trans (hap.below (by omega) (by simp; omega)))
            have hs4 := hap.size
            have hcq := HQ4.out.cell (k / 32) hkQ
            have hfq := HQ4.out.frozen (k / 32)
            have HQset := Lib.hid (HQ4.out.set (k / 32) _ hkQ s2)
            have hkb : (2 : Nat) ^ (k % 32) < 4294967296 := Nat.pow_lt_pow_right (a := 2) (n := 32) (by decide) (Nat.mod_lt _ (by decide))
            have hql4 : Q[k / 32] < 4294967296 := HQR.out.lt _ (List.getElem_mem hkQ)
            have hor := u32_or_nat (Q[k / 32]) (2 ^ (k % 32)) hql4 hkb
            rw [s1] at hor
            obtain ⟨nq, hnq⟩ : ∃ nq, nq = Q[k / 32] + 2 ^ (k % 32) := ⟨_, rfl⟩
            rw [← hnq] at HQset hQn s2
            have eor : bits .or .u32 (Q[k / 32] : Int) (2 ^ (k % 32) % 4294967296) = (nq : Int) := by
              have h1 : (2 : Int) ^ (k % 32) % 4294967296 = ((2 ^ (k % 32) : Nat) : Int) := by
                have e1 : (2 : Int) ^ (k % 32) = ((2 ^ (k % 32) : Nat) : Int) := by simp
                rw [e1]
                exact Int.emod_eq_of_lt (Int.natCast_nonneg _) (Int.ofNat_lt.2 hkb)
              rw [h1, hnq]; exact hor
            clear hal hav hra hap HLS hor s1 s2 s3 hq' hdv hge hnq
            generalize Q[k / 32] = qk at *
            clear hkQ
            go_wp2_with fail
            go_region
            go_wp2_with fail
            go_roundw
            case rel => exact ⟨k, Q.set (k / 32) nq, A', by omega, rfl, by simp [HQL.out], by rw [HAL.out], HAV.out, hQn.out, HQset.out.keep (by rfl), HRA.out.keep (by show (w4.setCell _ _).heap[gl]? = _; exact Below.heap_setCell _ _ _ _ (by simp; omega)), (HB4.out.setCell (by simp) _).drew⟩
            case measure => simp [intOf]
          · have hcm : Hid (cmpN (val R') y = -1) := by show cmpN (val R') y = -1; simp only [cmpN]; rw [if_pos (by omega)]
            rw [hcm.out]
            have hq' : val Q = x / 2 ^ k / y * 2 ^ k := by
              rw [HQV.out, HDB.out.1, ← HVB.out, Nat.div_eq_of_lt (show val R' < y by omega), Nat.pow_succ]
              rw [Nat.add_zero]; ac_rfl
            have hr' : val R' = x / 2 ^ k % y := by
              rw [HDB.out.2, ← HVB.out, Nat.mod_eq_of_lt (show val R' < y by omega)]
            have HQ' := Lib.hid hq'; have HR' := Lib.hid hr'
            clear hq' hr' hge
            go_wp2_with fail
            go_roundw
            case rel => exact ⟨k, Q, R', by omega, rfl, HQL.out, HRL'.out, HR'.out, HQ'.out, HQ3.out, HR3.out, HB3.out⟩
            case measure => simp [intOf]
end Go.Proofs.YtcipmfjefmjacaaGreatDoor
