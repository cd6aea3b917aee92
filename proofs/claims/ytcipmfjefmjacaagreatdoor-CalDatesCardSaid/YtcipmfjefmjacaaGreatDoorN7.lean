/- Package nat: small (division by one limb). -/
import Derived.Test.YtcipmfjefmjacaaGreatDoorN6
namespace Go.Proofs.YtcipmfjefmjacaaGreatDoor
open Go.RowKit
set_option linter.unusedVariables false

theorem small_digit (a H d : Nat) (hd : 0 < d) : (a + B32 * H) / d = (H % d * B32 + a) / d + B32 * (H / d) ∧ (a + B32 * H) % d = (H % d * B32 + a) % d := by
  have e : a + B32 * H = (H % d * B32 + a) + d * (B32 * (H / d)) := by
    conv => lhs; rw [← Nat.div_add_mod H d]
    rw [Nat.mul_add]
    rw [show B32 * (d * (H / d)) = d * (B32 * (H / d)) by ac_rfl, Nat.mul_comm B32 (H % d)]
    omega
  rw [e, Nat.add_mul_div_left _ _ hd, Nat.add_mul_mod_self_left]
  exact ⟨rfl, rfl⟩

theorem drop_set_head {A : List Nat} {k y : Nat} (h : k < A.length) : (A.set k y).drop k = y :: A.drop (k + 1) := by
  rw [List.drop_eq_getElem_cons (by simpa using h)]
  simp [List.drop_set_of_lt]

set_option maxRecDepth 100000 in
set_option maxHeartbeats 2000000 in
theorem small_any (g cap : Nat) (A : List Nat) (d : Nat) (w : World) (ha : RowU w g cap A) (hd : 0 < d) (hdl : d < 4294967296) (hsz : A.length ≤ 1000000) :
    Calls Tryz.prog 125 #[.slice (some ⟨g, 0, none⟩) A.length cap, .int .u32 d] w fun e w' => e = .returned (.int .u32 (val A % d : Nat)) ∧ (∃ A', A'.length = A.length ∧ val A' = val A / d ∧ RowU w' g cap A') ∧ Apart [g] w w' := by
  have h1 := ha.le
  have HA := Lib.hid ha
  clear ha
  go_enter Tryz.func125, Tryz.ntmps125
  go_wp2_with fail
  go_loopw [5, 6] (fun l i wr => ∃ (k : Nat) (A' : List Nat) (lf : Nat), k ≤ A.length ∧ i = .int .i64 ((k : Int) - 1) ∧ l = .int .u32 lf ∧ lf = val (A.drop k) % d ∧ A'.length = A.length ∧ val (A'.drop k) = val (A.drop k) / d ∧ A'.take k = A.take k ∧ RowU wr g cap A' ∧ Apart [g] w wr) (fun _ i _ => (intOf i + 1).toNat)
  case atStart => exact ⟨A.length, A, 0, Nat.le_refl _, rfl, rfl, by simp [val], rfl, by simp [val], rfl, HA.out, Apart.refl _ _⟩
  case round =>
    obtain ⟨k, A', lf, hk, rfl, rfl, hlf, hal, hv, ht, hrow, hap⟩ := hrel
    have HV := Lib.hid hv; have HR := Lib.hid hrow; have AP := Lib.hid hap; have HAL := Lib.hid hal; have HT := Lib.hid ht; have HLF := Lib.hid hlf
    have hgl := hrow.ltg
    have hlfd : lf < d := by rw [hlf]; exact Nat.mod_lt _ hd
    clear hv hrow hap hal ht hlf
    cases k with
    | zero =>
      go_wp2_with fail
      go_ret
      exact ⟨by rw [show val A % d = lf by rw [HLF.out]; rfl]; rfl, ⟨A', HAL.out, by simpa using HV.out, HR.out⟩, AP.out⟩
    | succ k =>
      have hkA : k < A'.length := by rw [HAL.out]; omega
      have hkA2 : k < A.length := by omega
      have hca := HR.out.cell k hkA
      have hAA : A'[k] = A[k] := by
        have h1 : (A'.take (k + 1))[k]? = (A.take (k + 1))[k]? := by rw [HT.out]
        simpa [hkA, hkA2] using h1
      have hxl : A'[k] < 4294967296 := HR.out.lt _ (List.getElem_mem hkA)
      have hdg := small_digit A[k] (val (A.drop (k + 1))) d hd
      rw [← HLF.out, ← hAA] at hdg
      have hvd : val (A.drop k) = A'[k] + B32 * val (A.drop (k + 1)) := by rw [List.drop_eq_getElem_cons hkA2, val, hAA]
      obtain ⟨q, hq⟩ : ∃ q, q = (lf * 4294967296 + A'[k]) / d := ⟨_, rfl⟩
      obtain ⟨r, hr⟩ : ∃ r, r = (lf * 4294967296 + A'[k]) % d := ⟨_, rfl⟩
      have hql : q < B32 := by
        rw [hq]; apply Nat.div_lt_of_lt_mul
        have : (lf + 1) * 4294967296 ≤ d * 4294967296 := Nat.mul_le_mul_right _ hlfd
        show lf * 4294967296 + A'[k] < d * 4294967296
        omega
      have HDIV := Lib.hid (Div32_any lf A'[k] d hlfd hxl hdl)
      rw [← hq, ← hr] at HDIV
      have HR3 := fun (w' : World) (hw : w'.heap[g]? = wr.heap[g]?) => (HR.out.keep hw).set k q hkA hql
      have HR3' := Lib.hid HR3
      have HV3 : Hid (val ((A'.set k q).drop k) = val (A.drop k) / d) := by
        show val ((A'.set k q).drop k) = val (A.drop k) / d
        rw [drop_set_head hkA, val, HV.out, hvd, hdg.1, hq]
      have HL3 : Hid (r = val (A.drop k) % d) := by show r = _; rw [hvd, hdg.2, hr]
      have HT3 : Hid ((A'.set k q).take k = A.take k) := by
        show (A'.set k q).take k = A.take k
        rw [List.take_set_of_le (Nat.le_refl k)]
        have := congrArg (List.take k) HT.out
        simpa [List.take_take] using this
      clear hAA hdg hvd hq hr hql HR3
      generalize A'[k] = xk at *
      go_wp2_with fail
      refine (HDIV.out _).mono ?_
      rintro e w1 ⟨rfl, hb⟩
      have hcw : w1.cell? ⟨g, k, none⟩ = some (.int .u32 xk) := (hb.cell hgl).trans hca
      have hfw : w1.frozen? ⟨g, k, none⟩ = false := (hb.frozen hgl).trans (HR.out.frozen k)
      have hgl1 : g < w1.heap.size := Nat.lt_of_lt_of_le hgl hb.size
      have HRW := Lib.hid (HR3'.out w1 (hb.block g hgl))
      have AP1 := Lib.hid (AP.out.trans (Apart.of_below hb [g]) (by intro x hx; exact .inl hx))
      clear hb hca
      go_wp2_with fail
      go_roundw
      case rel => exact ⟨k, _, r, by omega, rfl, rfl, HL3.out, by simp [HAL.out], HV3.out, HT3.out, HRW.out, AP1.out.setCell _ (by simp) _⟩
      case measure => simp [intOf]
theorem small_nil (d : Nat) (w : World) : Calls Tryz.prog 125 #[.slice none 0 0, .int .u32 d] w fun e w' => e = .returned (.int .u32 0) ∧ w = w' := by
  go_enter Tryz.func125, Tryz.ntmps125
  go_wp2_with fail
  refine wp_loop_rounds 1 ?_
  rw [rounds_succ]
  go_wp2_with fail
  go_ret
  exact ⟨rfl, rfl⟩
end Go.Proofs.YtcipmfjefmjacaaGreatDoor
