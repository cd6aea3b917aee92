/- Package nat: Mul. -/
import Derived.Test.YtcipmfjefmjacaaGreatDoorN4
namespace Go.Proofs.YtcipmfjefmjacaaGreatDoor
open Go.RowKit
set_option linter.unusedVariables false

theorem mul_step {out : List Nat} {k c p R : Nat} (hk : k < out.length) (h : val out + c * B32 ^ k = R) :
    val (out.set k ((c + (p + out[k])) % B32)) + (c + (p + out[k])) / B32 * B32 ^ (k + 1) = R + p * B32 ^ k := by
  have hs := val_set out k ((c + (p + out[k])) % B32) hk
  have e := Nat.div_add_mod (c + (p + out[k])) B32
  generalize val (out.set k ((c + (p + out[k])) % B32)) = v at *
  generalize (c + (p + out[k])) % B32 = r at *
  generalize (c + (p + out[k])) / B32 = q at *
  generalize out[k] = o at *
  have e2 : (B32 * q + r) * B32 ^ k = (c + (p + o)) * B32 ^ k := by rw [e]
  simp only [Nat.add_mul] at e2
  rw [Nat.pow_succ, show q * (B32 ^ k * B32) = B32 * q * B32 ^ k by rw [Nat.mul_comm (B32 ^ k), ← Nat.mul_assoc, Nat.mul_comm q]]
  generalize B32 ^ k = b at *
  generalize B32 * q * b = t1 at *
  omega

theorem val_take_snoc {Y : List Nat} {j : Nat} (h : j < Y.length) : val (Y.take (j + 1)) = val (Y.take j) + Y[j] * B32 ^ j := by
  rw [List.take_succ_eq_append_getElem h, val_append]
  simp only [val, List.length_take, Nat.min_eq_left (Nat.le_of_lt h), Nat.mul_zero, Nat.add_zero]
  rw [Nat.mul_comm]

set_option maxRecDepth 100000 in
set_option maxHeartbeats 4000000 in
theorem Mul_any (va vb : Value) (x y : Nat) (w : World) (hx : NatV w va x) (hy : NatV w vb y) (hX : (limbs x).length ≤ 256) (hY : (limbs y).length ≤ 256) (hF : (limbs (x * y)).length ≤ 256) :
    Calls Tryz.prog 91 #[va, vb] w fun e w' => ∃ v, e = .returned (.tuple #[v, .int .i64 0]) ∧ NatV w' v (x * y) ∧ Below w.heap.size w w' := by
  obtain ⟨a, ca, rfl, ha⟩ := hx
  obtain ⟨b, cb, rfl, hb⟩ := hy
  have V1 := Lib.hid (valid_any a ca x w ha hX)
  have V2 := Lib.hid (valid_any b cb y w hb hY)
  have HF := Lib.hid hF
  have vx : Hid (val (limbs x) = x) := val_limbs x
  have vy : Hid (val (limbs y) = y) := val_limbs y
  have h1 := ha.le; have h2 := hb.le
  have HA := Lib.hid ha; have HB := Lib.hid hb
  clear ha hb hF
  generalize limbs x = X at *
  generalize limbs y = Y at *
  go_enter Tryz.func91, Tryz.ntmps91
  go_wp2_with fail
  refine V1.out.mono ?_
  rintro e w1 ⟨rfl, rfl⟩
  go_wp2_with fail
  refine V2.out.mono ?_
  rintro e w1 ⟨rfl, rfl⟩
  clear V1 V2
  go_wp2_with (at_make; refine wpList_make1 _ rfl _ _ rfl (X.length + Y.length) (X.length + Y.length) _ _ rfl rfl (by simp) (by simp) (Nat.le_refl _) (by omega) ?_; intro w0 hrow hb0)
  have HR0 := Lib.hid hrow
  have HB0 := Lib.hid hb0
  clear hrow hb0
  go_wp2_with fail
  go_loopw [28] (fun i wr => ∃ (k : Nat) (out : List Nat), k ≤ X.length ∧ i = .int .i64 k ∧ out.length = X.length + Y.length ∧ val out = val (X.take k) * val Y ∧ (∀ t, k + Y.length ≤ t → out.getD t 0 = 0) ∧ RowU wr w.heap.size (X.length + Y.length) out ∧ Below w.heap.size w wr) (fun i _ => X.length - (intOf i).toNat)
  case atStart => exact ⟨0, List.replicate (X.length + Y.length) 0, Nat.zero_le _, rfl, by simp, by simp [val_zeros, val], fun t _ => by simp [List.getD, List.getElem?_replicate]; split <;> rfl, HR0.out, HB0.out⟩
  case round =>
    obtain ⟨k, out, hk, rfl, hol, hv, hz, hrow, hbw⟩ := hrel
    have HV := Lib.hid hv; have HR := Lib.hid hrow; have BW := Lib.hid hbw; have HOL := Lib.hid hol; have HZ := Lib.hid hz
    have hBs := hbw.size
    clear hv hrow hbw hol hz HR0 HB0
    obtain ⟨wo, rfl⟩ : ∃ wo : World, wo = wr := ⟨_, rfl⟩
    by_cases hlt : k < X.length
    · obtain ⟨ba, oa, rfl, hca⟩ := HA.out.at_ k hlt
      have hca' := (BW.out.cell (World.block_lt_of_cell? w _ hca)).trans hca
      have hxk : X[k] < 4294967296 := HA.out.lt _ (List.getElem_mem hlt)
      clear hca
      obtain ⟨xk, hxe⟩ : ∃ n, n = X[k] := ⟨_, rfl⟩
      rw [← hxe] at hca' hxk
      have HXE := Lib.hid hxe
      clear hxe
      go_wp2_with fail
      go_loopw [9, 35] (fun c i wr => ∃ (j : Nat) (o2 : List Nat) (cr : Nat), j ≤ Y.length ∧ i = .int .i64 j ∧ c = .int .u64 cr ∧ cr < 4294967296 ∧ o2.length = X.length + Y.length ∧ val o2 + cr * B32 ^ (k + j) = val (X.take k) * val Y + xk * val (Y.take j) * B32 ^ k ∧ (∀ t, k + Y.length ≤ t → o2.getD t 0 = 0) ∧ RowU wr w.heap.size (X.length + Y.length) o2 ∧ Below w.heap.size w wr) (fun _ i _ => Y.length - (intOf i).toNat)
      case atStart => exact ⟨0, out, 0, Nat.zero_le _, rfl, rfl, by omega, HOL.out, by simp [HV.out, val], HZ.out, HR.out, BW.out⟩
      case round =>
        obtain ⟨j, o2, cr, hj, rfl, rfl, hcr, hol2, hv2, hz2, hrow2, hbw2⟩ := hrel
        have HV2 := Lib.hid hv2; have HR2 := Lib.hid hrow2; have BW2 := Lib.hid hbw2; have HOL2 := Lib.hid hol2; have HZ2 := Lib.hid hz2
        have hBs2 := hbw2.size
        have hgl := hrow2.ltg
        clear hv2 hrow2 hbw2 hol2 hz2
        by_cases hjl : j < Y.length
        · obtain ⟨bb, ob, rfl, hcb⟩ := HB.out.at_ j hjl
          have hcb' := (BW2.out.cell (World.block_lt_of_cell? w _ hcb)).trans hcb
          have hyj : Y[j] < 4294967296 := HB.out.lt _ (List.getElem_mem hjl)
          have hkj : k + j < o2.length := by rw [HOL2.out]; omega
          have hco := HR2.out.cell (k + j) hkj
          have hfo := HR2.out.frozen (k + j)
          have hok : o2[k + j] < 4294967296 := HR2.out.lt _ (List.getElem_mem hkj)
          clear hcb
          obtain ⟨y', hy'⟩ : ∃ y' : Nat, y' = (cr + (xk * Y[j] + o2[k + j])) % B32 := ⟨_, rfl⟩
          obtain ⟨c2, hc2⟩ : ∃ c2 : Nat, c2 = (cr + (xk * Y[j] + o2[k + j])) / B32 := ⟨_, rfl⟩
          have hst := mul_step (p := xk * Y[j]) hkj HV2.out
          rw [← hy', ← hc2] at hst
          have HS : Hid (val (o2.set (k + j) y') + c2 * B32 ^ (k + (j + 1)) = val (X.take k) * val Y + xk * val (Y.take (j + 1)) * B32 ^ k) := by
            show val (o2.set (k + j) y') + c2 * B32 ^ (k + (j + 1)) = val (X.take k) * val Y + xk * val (Y.take (j + 1)) * B32 ^ k
            rw [← Nat.add_assoc, hst, val_take_snoc hjl, Nat.mul_add, Nat.add_mul, ← Nat.add_assoc, Nat.pow_add]
            congr 1
            ac_rfl
          have hprod : xk * Y[j] ≤ 18446744065119617025 := Nat.le_trans (Nat.mul_le_mul (show xk ≤ 4294967295 by omega) (show Y[j] ≤ 4294967295 by omega)) (by decide)
          obtain ⟨pr, hpr⟩ : ∃ pr : Nat, pr = xk * Y[j] := ⟨_, rfl⟩
          rw [← hpr] at hy' hc2 hprod
          have epr : (xk : Int) * (Y[j] : Int) = (pr : Int) := by rw [hpr]; simp
          have ey : ((cr : Int) + (pr + o2[k + j])) % 4294967296 = (y' : Int) := by rw [hy', B32]; omega
          have ec : ((cr : Int) + (pr + o2[k + j])) / 4294967296 = (c2 : Int) := by rw [hc2, B32]; omega
          have hyl : y' < B32 := by rw [hy']; exact Nat.mod_lt _ (by decide)
          have hc2l : c2 < 4294967296 := by rw [hc2, B32]; omega
          have Hyl := Lib.hid hyl; have Hc2l := Lib.hid hc2l
          have HR3 := Lib.hid (HR2.out.set (k + j) y' hkj hyl)
          have HZ3 : Hid (∀ t, k + Y.length ≤ t → (o2.set (k + j) y').getD t 0 = 0) := by
            intro t ht
            have := HZ2.out t ht
            simp only [List.getD] at this ⊢
            rw [List.getElem?_set_ne (by omega)]; exact this
          have HOL3 : Hid ((o2.set (k + j) y').length = X.length + Y.length) := by show (o2.set (k + j) y').length = _; simp [HOL2.out]
          clear hy' hc2 hyl hc2l hst hpr
          generalize Y[j] = yj at *
          generalize o2[k + j] = oo at *
          clear hkj
          go_wp2_with fail
          go_roundw
          case rel => exact ⟨j + 1, _, c2, by omega, by go_num, rfl, Hc2l.out, HOL3.out, HS.out, HZ3.out, HR3.out, BW2.out.setCell (Nat.le_refl _) _⟩
          case measure => simp [intOf]; omega
        · obtain rfl : j = Y.length := by omega
          have hkj : k + Y.length < o2.length := by rw [HOL2.out]; omega
          have hco := HR2.out.cell (k + Y.length) hkj
          have hfo := HR2.out.frozen (k + Y.length)
          have ey : ((cr : Int)) % 4294967296 = (cr : Int) := by omega
          have h0 : o2[k + Y.length] = 0 := by have := HZ2.out (k + Y.length) (Nat.le_refl _); simpa [List.getD, hkj] using this
          have hvs := val_set o2 (k + Y.length) cr hkj
          have HS : Hid (val (o2.set (k + Y.length) cr) = val (X.take (k + 1)) * val Y) := by
            show val (o2.set (k + Y.length) cr) = _
            rw [h0, Nat.zero_mul, Nat.add_zero, HV2.out, List.take_length] at hvs
            rw [hvs, val_take_snoc hlt, ← HXE.out, Nat.add_mul]
            congr 1
            ac_rfl
          have HR3 := Lib.hid (HR2.out.set (k + Y.length) cr hkj hcr)
          have HZ3 : Hid (∀ t, k + 1 + Y.length ≤ t → (o2.set (k + Y.length) cr).getD t 0 = 0) := by
            intro t ht
            have := HZ2.out t (by omega)
            simp only [List.getD] at this ⊢
            rw [List.getElem?_set_ne (by omega)]; exact this
          have HOL3 : Hid ((o2.set (k + Y.length) cr).length = X.length + Y.length) := by show (o2.set (k + Y.length) cr).length = _; simp [HOL2.out]
          clear hvs h0
          generalize o2[k + Y.length] = oo at *
          clear hkj
          go_wp2_with fail
          go_roundw
          case rel => exact ⟨k + 1, _, by omega, by go_num, HOL3.out, HS.out, HZ3.out, HR3.out, BW2.out.setCell (Nat.le_refl _) _⟩
          case measure => simp [intOf]; omega
    · obtain rfl : k = X.length := by omega
      have hlen := HOL.out
      have hvo : val out = x * y := by rw [HV.out, List.take_length, vx.out, vy.out]
      have htr : trimL out = limbs (x * y) := by rw [trimL_limbs _ HR.out.lt, hvo]
      have HT := Lib.hid (told_any (some ⟨w.heap.size, 0, none⟩) (X.length + Y.length) out wo HR.out.lies (by rw [htr]; exact HF.out))
      have HLf : Hid (Lies wo (some ⟨w.heap.size, 0, none⟩) (limbs (x * y)).length (limbs (x * y))) := by
        have h1 := (HR.out.lies.take (trimL out).length)
        rw [← trimL_prefix] at h1
        rw [← htr]; exact h1.clip
      rw [htr, hlen] at HT
      clear hlen hvo htr
      go_wp2_with fail
      refine HT.out.mono ?_
      rintro e w2 ⟨rfl, rfl⟩
      go_wp2_with fail
      go_ret2
      exact ⟨_, rfl, ⟨_, _, rfl, HLf.out⟩, BW.out⟩
end Go.Proofs.YtcipmfjefmjacaaGreatDoor
