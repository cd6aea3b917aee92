/- The document's numbers (thresherref02): Mul. -/
import Derived.Test.YtcmpdamfeoaapaaGreatDoorQ3
namespace Go.Proofs.YtcmpdamfeoaapaaGreatDoor
open Go.RowKit
set_option linter.unusedVariables false

theorem mul4_step {out : List Nat} {k c p R : Nat} (hk : k < out.length) (h : val4 out + c * B4 ^ k = R) :
    val4 (out.set k ((c + out[k] + p) % B4)) + (c + out[k] + p) / B4 * B4 ^ (k + 1) = R + p * B4 ^ k := by
  have hs := val4_set out k ((c + out[k] + p) % B4) hk
  have e := Nat.div_add_mod (c + out[k] + p) B4
  generalize val4 (out.set k ((c + out[k] + p) % B4)) = v at *
  generalize (c + out[k] + p) % B4 = r at *
  generalize (c + out[k] + p) / B4 = q at *
  generalize out[k] = o at *
  have e2 : (B4 * q + r) * B4 ^ k = (c + o + p) * B4 ^ k := by rw [e]
  simp only [Nat.add_mul] at e2
  rw [Nat.pow_succ, show q * (B4 ^ k * B4) = B4 * q * B4 ^ k by rw [Nat.mul_comm (B4 ^ k), ← Nat.mul_assoc, Nat.mul_comm q]]
  generalize B4 ^ k = b at *
  generalize B4 * q * b = t1 at *
  omega

set_option maxRecDepth 100000 in
set_option maxHeartbeats 8000000 in
theorem Mul4_any (va vb : Value) (x y : Nat) (w : World) (hx : NumV w va x) (hy : NumV w vb y) (hX : (lim4 x).length ≤ 100000) (hY : (lim4 y).length ≤ 100000) :
    Calls Tryz.prog 73 #[va, vb] w fun e w' => ∃ v, e = .returned v ∧ NumV w' v (x * y) ∧ Below w.heap.size w w' := by
  obtain ⟨a, ca, rfl, ha⟩ := hx
  obtain ⟨b, cb, rfl, hb⟩ := hy
  have vx : Hid (val4 (lim4 x) = x) := val4_lim4 x
  have vy : Hid (val4 (lim4 y) = y) := val4_lim4 y
  have h1 := ha.le; have h2 := hb.le
  have HA := Lib.hid ha; have HB := Lib.hid hb
  clear ha hb
  generalize lim4 x = X at *
  generalize lim4 y = Y at *
  obtain ⟨n, hn⟩ : ∃ n, n = X.length := ⟨_, rfl⟩
  obtain ⟨m, hm⟩ : ∃ m, m = Y.length := ⟨_, rfl⟩
  rw [← hn] at hX h1 ⊢
  rw [← hm] at hY h2 ⊢
  have HN := Lib.hid hn
  have HM := Lib.hid hm
  clear hn hm
  go_enter Tryz.func73, Tryz.ntmps73
  go_wp2_with (at_make; refine wpList_make4 _ rfl _ _ rfl (n + m + 1) (n + m + 1) _ _ rfl rfl (by simp) (by simp) (Nat.le_refl _) (by omega) ?_; intro w0 hrow hb0)
  have HR0 := Lib.hid hrow
  have HB0 := Lib.hid hb0
  clear hrow hb0
  go_wp2_with fail
  go_loopw [6] (fun i wr => ∃ (k : Nat) (out : List Nat), k ≤ n ∧ i = .int .i64 (k : Int) ∧ Hid (out.length = n + m + 1) ∧ Hid (val4 out = val4 (X.take k) * val4 Y) ∧ Hid (∀ t, k + m ≤ t → out.getD t 0 = 0) ∧ Hid (Row4 wr w.heap.size (n + m + 1) out) ∧ Hid (Below w.heap.size w wr)) (fun i _ => n - (intOf i).toNat)
  case atStart => exact ⟨0, List.replicate (n + m + 1) 0, Nat.zero_le _, rfl, by show _ = _; simp, by show _ = _; simp [val4_zeros, val4], (fun t _ => by simp [List.getD, List.getElem?_replicate]; split <;> rfl), HR0, HB0⟩
  case round =>
    obtain ⟨k, out, hk, rfl, HOL, HV, HZ, HR, BW⟩ := hrel
    have hBs := BW.out.size
    clear HR0 HB0
    obtain ⟨wo, rfl⟩ : ∃ wo : World, wo = wr := ⟨_, rfl⟩
    by_cases hlt : k < n
    · obtain ⟨ba, oa, rfl, hca⟩ := HA.out.at_ k (by rw [← HN.out]; exact hlt)
      have HCA := Lib.hid hca
      have hba := World.block_lt_of_cell? w _ hca
      have hxk : X[k]'(by rw [← HN.out]; exact hlt) < 10000 := HA.out.lt _ (List.getElem_mem _)
      clear hca
      obtain ⟨xk, hxe⟩ : ∃ q, q = X[k]'(by rw [← HN.out]; exact hlt) := ⟨_, rfl⟩
      rw [← hxe] at HCA hxk
      have HXE : Hid (val4 (X.take (k + 1)) = val4 (X.take k) + B4 ^ k * xk) := by
        show _ = _
        rw [val4_pc, pc_lt (by rw [← HN.out]; exact hlt), ← hxe]
      clear hxe
      have hI : (k : Int) < (n : Int) := by omega
      go_wp2_with fail
      go_loopw [7, 8] (fun c i wr => ∃ (j : Nat) (o2 : List Nat) (cr : Nat), (j ≤ m ∨ j = m + 1 ∧ cr = 0) ∧ i = .int .i64 (j : Int) ∧ c = .int .i64 (cr : Int) ∧ cr < 10000 ∧ Hid (o2.length = n + m + 1) ∧ Hid (val4 o2 + cr * B4 ^ (k + j) = val4 (X.take k) * val4 Y + xk * val4 (Y.take j) * B4 ^ k) ∧ Hid (∀ t, k + max m j ≤ t → o2.getD t 0 = 0) ∧ Hid (Row4 wr w.heap.size (n + m + 1) o2) ∧ Hid (Below w.heap.size w wr)) (fun _ i _ => m + 1 - (intOf i).toNat)
      case atStart => exact ⟨0, out, 0, .inl (Nat.zero_le _), rfl, rfl, by omega, HOL, by show _ = _; simp [HV.out, val4], (fun t ht => HZ.out t (by omega)), HR, BW⟩
      case round =>
        obtain ⟨j, o2, cr, hj, rfl, rfl, hcr, HOL2, HV2, HZ2, HR2, BW2⟩ := hrel
        have hBs2 := BW2.out.size
        have hgl := HR2.out.ltg
        have hca' := (BW2.out.cell hba).trans HCA.out
        by_cases hjl : j < m
        · obtain ⟨bb, ob, rfl, hcb⟩ := HB.out.at_ j (by rw [← HM.out]; exact hjl)
          have hcb' := (BW2.out.cell (World.block_lt_of_cell? w _ hcb)).trans hcb
          have hyj : Y[j]'(by rw [← HM.out]; exact hjl) < 10000 := HB.out.lt _ (List.getElem_mem _)
          have hpe : val4 (Y.take (j + 1)) = val4 (Y.take j) + B4 ^ j * Y[j]'(by rw [← HM.out]; exact hjl) := by rw [val4_pc, pc_lt]
          have hkj : k + j < o2.length := by rw [HOL2.out]; omega
          have hco := HR2.out.cell (k + j) hkj
          have hfo := HR2.out.frozen (k + j)
          have hok : o2[k + j] < 10000 := HR2.out.lt _ (List.getElem_mem hkj)
          clear hcb
          generalize Y[j]'(by rw [← HM.out]; exact hjl) = yj at *
          obtain ⟨y', hy'⟩ : ∃ y' : Nat, y' = (cr + o2[k + j] + xk * yj) % B4 := ⟨_, rfl⟩
          obtain ⟨c2, hc2⟩ : ∃ c2 : Nat, c2 = (cr + o2[k + j] + xk * yj) / B4 := ⟨_, rfl⟩
          have hst := mul4_step (p := xk * yj) hkj HV2.out
          rw [← hy', ← hc2] at hst
          have HS : Hid (val4 (o2.set (k + j) y') + c2 * B4 ^ (k + (j + 1)) = val4 (X.take k) * val4 Y + xk * val4 (Y.take (j + 1)) * B4 ^ k) := by
            show val4 (o2.set (k + j) y') + c2 * B4 ^ (k + (j + 1)) = val4 (X.take k) * val4 Y + xk * val4 (Y.take (j + 1)) * B4 ^ k
            rw [← Nat.add_assoc, hst, hpe, Nat.mul_add, Nat.add_mul, ← Nat.add_assoc, Nat.pow_add]
            congr 1
            ac_rfl
          have hprod : xk * yj ≤ 99980001 := Nat.le_trans (Nat.mul_le_mul (show xk ≤ 9999 by omega) (show yj ≤ 9999 by omega)) (by decide)
          obtain ⟨pr, hpr⟩ : ∃ pr : Nat, pr = xk * yj := ⟨_, rfl⟩
          rw [← hpr] at hy' hc2 hprod
          have epr : (xk : Int) * (yj : Int) = (pr : Int) := by rw [hpr]; simp
          have ey : ((cr : Int) + (o2[k + j] : Int) + (pr : Int)) % 10000 = (y' : Int) := by rw [hy', B4]; omega
          have ec : ((cr : Int) + (o2[k + j] : Int) + (pr : Int)) / 10000 = (c2 : Int) := by rw [hc2, B4]; omega
          have hyl : y' < B4 := by rw [hy']; exact Nat.mod_lt _ (by decide)
          have hc2l : c2 < 10000 := by rw [hc2, B4]; omega
          have Hyl := Lib.hid hyl; have Hc2l := Lib.hid hc2l
          have HR3 : Hid (∀ W : World, W.heap = wr.heap → Row4 (W.setCell ⟨w.heap.size, k + j, none⟩ (.int .i64 (y' : Nat))) w.heap.size (n + m + 1) (o2.set (k + j) y')) := fun W hW => (HR2.out.keep (by rw [hW])).set (k + j) y' hkj hyl
          have HZ3 : Hid (∀ t, k + max m (j + 1) ≤ t → (o2.set (k + j) y').getD t 0 = 0) := by
            intro t ht
            have := HZ2.out t (by omega)
            simp only [List.getD] at this ⊢
            rw [List.getElem?_set_ne (by omega)]; exact this
          have HOL3 : Hid ((o2.set (k + j) y').length = n + m + 1) := by show (o2.set (k + j) y').length = _; simp [HOL2.out]
          have hJ : (j : Int) < (m : Int) := by omega
          have hkjI : (k : Int) + (j : Int) < (n : Int) + (m : Int) + 1 := by omega
          have h0k : (0 : Int) ≤ (k : Int) + (j : Int) := by omega
          have htn : ((k : Int) + (j : Int)).toNat = k + j := by omega
          clear hy' hc2 hyl hc2l hst hpr hpe
          generalize o2[k + j] = oo at *
          clear hkj
          go_wp2_with fail
          go_quiet (fail)
          go_wp2_with fail
          go_roundw
          case rel => exact ⟨j + 1, _, c2, .inl (by omega), by go_num, by first | rfl | exact congrArg (Value.int .i64) ec, Hc2l.out, HOL3, HS, HZ3, HR3.out _ (by simp), (BW2.out.drewN _).setCell (Nat.le_refl _) _⟩
          case measure => simp only [intOf]; omega
        · by_cases hc0 : cr = 0
          · subst hc0
            have hvo : Hid (val4 o2 = val4 (X.take (k + 1)) * val4 Y) := by
              show _ = _
              have h3 := HV2.out
              rw [List.take_of_length_le (l := Y) (by rw [← HM.out]; omega), Nat.zero_mul, Nat.add_zero] at h3
              rw [h3, HXE.out, Nat.add_mul]
              congr 1
              ac_rfl
            have HZ3 : Hid (∀ t, k + 1 + m ≤ t → o2.getD t 0 = 0) := fun t ht => HZ2.out t (by omega)
            have hJ : (m : Int) ≤ (j : Int) := by omega
            clear hj HV2 HV HZ
            go_wp2_with fail
            go_roundw
            case rel => exact ⟨k + 1, o2, by omega, by go_num, HOL2, hvo, HZ3, HR2, BW2⟩
            case measure => simp only [intOf]; omega
          · obtain rfl : j = m := by omega
            have hkj : k + j < o2.length := by rw [HOL2.out]; omega
            have hco := HR2.out.cell (k + j) hkj
            have hfo := HR2.out.frozen (k + j)
            have hz0 : o2[k + j] = 0 := by have := HZ2.out (k + j) (by omega); simpa [List.getD, hkj] using this
            rw [hz0] at hco
            have hst := mul4_step (p := 0) hkj HV2.out
            rw [hz0] at hst
            have hm0 : (cr + 0 + 0) % B4 = cr := by unfold B4; omega
            have hd0 : (cr + 0 + 0) / B4 = 0 := by unfold B4; omega
            rw [hm0, hd0] at hst
            have HS : Hid (val4 (o2.set (k + j) cr) + 0 * B4 ^ (k + (j + 1)) = val4 (X.take k) * val4 Y + xk * val4 (Y.take (j + 1)) * B4 ^ k) := by
              show _ = _
              rw [List.take_of_length_le (l := Y) (by rw [← HM.out]; omega)] at hst ⊢
              rw [← Nat.add_assoc, hst]; omega
            have hyl : cr < B4 := hcr
            have HR3 : Hid (∀ W : World, W.heap = wr.heap → Row4 (W.setCell ⟨w.heap.size, k + j, none⟩ (.int .i64 (cr : Nat))) w.heap.size (n + j + 1) (o2.set (k + j) cr)) := fun W hW => (HR2.out.keep (by rw [hW])).set (k + j) cr hkj hyl
            have HZ3 : Hid (∀ t, k + max j (j + 1) ≤ t → (o2.set (k + j) cr).getD t 0 = 0) := by
              intro t ht
              have := HZ2.out t (by omega)
              simp only [List.getD] at this ⊢
              rw [List.getElem?_set_ne (by omega)]; exact this
            have HOL3 : Hid ((o2.set (k + j) cr).length = n + j + 1) := by show (o2.set (k + j) cr).length = _; simp [HOL2.out]
            have hkjI : (k : Int) + (j : Int) < (n : Int) + (j : Int) + 1 := by omega
            have h0k : (0 : Int) ≤ (k : Int) + (j : Int) := by omega
            have htn : ((k : Int) + (j : Int)).toNat = k + j := by omega
            have hC0 : (0 : Int) < (cr : Int) := by omega
            have ey : (cr : Int) % 10000 = (cr : Int) := by omega
            have ec : (cr : Int) / 10000 = ((0 : Nat) : Int) := by omega
            clear hst hm0 hd0 hz0 hc0 hj HV2
            clear hkj
            go_wp2_with fail
            go_roundw
            case rel => exact ⟨j + 1, _, 0, .inr ⟨rfl, rfl⟩, by go_num, by first | rfl | exact congrArg (Value.int .i64) ec, by omega, HOL3, HS, HZ3, HR3.out _ (by simp), BW2.out.setCell (Nat.le_refl _) _⟩
            case measure => simp only [intOf]; omega
    · obtain rfl : k = n := by omega
      have hvv : val4 out = x * y := by
        rw [HV.out, List.take_of_length_le (by rw [← HN.out]; omega), vx.out, vy.out]
      have hli := HR.out.li4
      have HT := Lib.hid (trim4_any _ _ out wo hli)
      have HRr := Lib.hid (Own4.trimmed hli hvv)
      rw [HOL.out] at HT
      have hI : (k : Int) ≤ (k : Int) := Int.le_refl _
      clear hli hvv
      go_wp2_with fail
      refine HT.out.mono ?_
      rintro e _ ⟨rfl, rfl⟩
      go_wp2_with fail
      go_ret
      exact ⟨_, rfl, HRr.out, BW.out⟩
end Go.Proofs.YtcmpdamfeoaapaaGreatDoor
