/- Package nat: Shl. -/
import Derived.Test.YtcipmfjefmjacaaGreatDoorN10
namespace Go.Proofs.YtcipmfjefmjacaaGreatDoor
open Go.RowKit
set_option linter.unusedVariables false

theorem shl_join (m s c : Nat) (hs : s ≤ 32) (hc : c < 2 ^ s) : m * 2 ^ s % 4294967296 ||| c = m * 2 ^ s % 4294967296 + c := by
  have h : (4294967296 : Nat) = 2 ^ s * 2 ^ (32 - s) := by rw [← Nat.pow_add, show s + (32 - s) = 32 by omega]
  rw [h, Nat.mul_comm m, Nat.mul_mod_mul_left]
  exact (Nat.two_pow_add_eq_or_of_lt hc _).symm
theorem shl_low (m s c : Nat) (hs : s ≤ 32) (hc : c < 2 ^ s) : m * 2 ^ s % 4294967296 + c < 4294967296 := by
  have h : (4294967296 : Nat) = 2 ^ s * 2 ^ (32 - s) := by rw [← Nat.pow_add, show s + (32 - s) = 32 by omega]
  have h1 : m * 2 ^ s % 4294967296 = 2 ^ s * (m % 2 ^ (32 - s)) := by rw [h, Nat.mul_comm m, Nat.mul_mod_mul_left]
  have h2 : m % 2 ^ (32 - s) + 1 ≤ 2 ^ (32 - s) := Nat.mod_lt _ (Nat.pow_pos (by decide))
  have h3 := Nat.mul_le_mul_left (2 ^ s) h2
  rw [← h, Nat.mul_add] at h3
  omega
theorem shl_step {X out : List Nat} {i cr kk : Nat} (h1 : i < X.length) (ho : out.length = kk / 32 + i) (hv : val out + cr * B32 ^ (kk / 32 + i) = val (X.take i) * 2 ^ kk) :
    val (out ++ [X[i] * 2 ^ (kk % 32) % 4294967296 + cr]) + X[i] * 2 ^ (kk % 32) / 4294967296 * B32 ^ (kk / 32 + (i + 1)) = val (X.take (i + 1)) * 2 ^ kk := by
  rw [List.take_succ_eq_append_getElem h1, val_append, val_append, ho]
  simp only [val, List.length_take, Nat.min_eq_left (Nat.le_of_lt h1), Nat.mul_zero, Nat.add_zero]
  rw [Nat.add_mul, ← hv]
  have e := Nat.div_add_mod (X[i] * 2 ^ (kk % 32)) B32
  have hk : B32 ^ (kk / 32) * 2 ^ (kk % 32) = 2 ^ kk := by
    rw [show B32 = 2 ^ 32 by decide, ← Nat.pow_mul, ← Nat.pow_add, Nat.div_add_mod]
  have e3 : B32 ^ i * X[i] * 2 ^ kk = B32 ^ (kk / 32 + i) * (X[i] * 2 ^ (kk % 32)) := by
    rw [← hk, Nat.pow_add]; ac_rfl
  rw [e3]
  change val out + B32 ^ (kk / 32 + i) * (X[i] * 2 ^ (kk % 32) % B32 + cr) + X[i] * 2 ^ (kk % 32) / B32 * B32 ^ (kk / 32 + (i + 1)) = _
  generalize X[i] * 2 ^ (kk % 32) = m at *
  generalize m / B32 = q at *
  generalize m % B32 = r at *
  rw [← Nat.add_assoc, Nat.pow_succ]
  generalize B32 ^ (kk / 32 + i) = P
  have e2 : P * (B32 * q) + P * r = P * m := by rw [← e, Nat.mul_add]
  simp only [Nat.mul_add]
  rw [show q * (P * B32) = P * (B32 * q) by ac_rfl, Nat.mul_comm cr]
  omega

set_option maxHeartbeats 4000000 in
theorem Shl_any (va : Value) (x kk : Nat) (w : World) (hx : NatV w va x) (h0 : 0 < x) (hk : kk ≤ 8192) (hf : (limbs (x * 2 ^ kk)).length ≤ 256) :
    Calls Tryz.prog 128 #[va, .int .i64 kk] w fun e w' => ∃ v, e = .returned (.tuple #[v, .int .i64 0]) ∧ NatV w' v (x * 2 ^ kk) ∧ Below w.heap.size w w' := by
  obtain ⟨a, ca, rfl, ha⟩ := hx
  have hxy : x < B32 ^ 256 := by
    refine Nat.lt_of_le_of_lt ?_ (lt_of_limbs_length hf)
    exact Nat.le_mul_of_pos_right _ (Nat.pow_pos (by decide))
  have hX : (limbs x).length ≤ 256 := limbs_length_le hxy
  have V1 := Lib.hid (valid_any a ca x w ha hX)
  have hXn : 0 < (limbs x).length := by
    rcases Nat.eq_zero_or_pos (limbs x).length with h | h
    · have := limbs_eq_nil.1 (List.eq_nil_of_length_eq_zero h); omega
    · exact h
  have h1 := ha.le
  have HA := Lib.hid ha
  have HF := Lib.hid hf
  have vx := Lib.hid (val_limbs x)
  clear ha hf hxy
  generalize limbs x = X at *
  have hX0 : ((X.length : Int) == 0) = false := beq_eq_false_iff_ne.2 (by omega)
  go_enter Tryz.func128, Tryz.ntmps128
  go_wp2_with fail
  refine V1.out.mono ?_
  rintro e w1 ⟨rfl, rfl⟩
  clear V1
  go_wp2_with (at_make; refine wpList_make1 _ rfl _ _ rfl (kk / 32) (kk / 32 + X.length + 1) _ _ rfl rfl (by simp) (by simp) (by omega) (by omega) ?_; intro w1 hrow hb0)
  have hown0 := hrow.own (Nat.le_refl _)
  rw [List.length_replicate] at hown0
  have HO0 := Lib.hid hown0
  have HB0 := Lib.hid hb0
  clear hrow hb0 hown0
  go_wp2_with fail
  go_loopw [6, 7, 36] (fun o c i wr => ∃ (k : Nat) (out : List Nat) (cr : Nat), k ≤ X.length ∧ i = .int .i64 k ∧ c = .int .u32 cr ∧ out.length = kk / 32 + k ∧ cr < 2 ^ (kk % 32) ∧ val out + cr * B32 ^ (kk / 32 + k) = val (X.take k) * 2 ^ kk ∧ OwnU wr w.heap.size o out ∧ Below w.heap.size w wr) (fun _ _ i _ => X.length - (intOf i).toNat)
  case atStart => exact ⟨0, _, 0, Nat.zero_le _, rfl, rfl, by simp, Nat.pow_pos (by decide), by simp [val, val_zeros], HO0.out, HB0.out⟩
  case round =>
    obtain ⟨k, out, cr, hk', rfl, rfl, hol, hcr, hv, hown, hbw⟩ := hrel
    have HV := Lib.hid hv; have HO := Lib.hid hown; have BW := Lib.hid hbw; have HOL := Lib.hid hol
    have hBs := hbw.size
    clear hv hown hbw hol HO0 HB0
    have hcr32 : cr < 2147483648 := Nat.lt_of_lt_of_le hcr (Nat.pow_le_pow_right (n := 2) (j := 31) (by decide) (by omega))
    by_cases hlt : k < X.length
    · obtain ⟨bp, op, rfl, hcp⟩ := HA.out.at_ k hlt
      have hcp' := (BW.out.cell (World.block_lt_of_cell? w _ hcp)).trans hcp
      have hxk : X[k] < 4294967296 := HA.out.lt _ (List.getElem_mem hlt)
      clear hcp
      have hp : 2 ^ (kk % 32) ≤ 2147483648 := (Nat.pow_le_pow_right (n := 2) (j := 31) (by decide) (by omega))
      have hml : X[k] * 2 ^ (kk % 32) < 18446744073709551616 :=
        Nat.lt_of_le_of_lt (Nat.mul_le_mul (Nat.le_of_lt hxk) hp) (by decide)
      have hc2l : X[k] * 2 ^ (kk % 32) / 4294967296 < 2 ^ (kk % 32) := by
        rw [Nat.div_lt_iff_lt_mul (by decide), Nat.mul_comm]
        exact (Nat.mul_lt_mul_left (Nat.pow_pos (by decide))).2 hxk
      obtain ⟨y, hy⟩ : ∃ y : Nat, y = X[k] * 2 ^ (kk % 32) % 4294967296 + cr := ⟨_, rfl⟩
      obtain ⟨c2, hc2⟩ : ∃ c2 : Nat, c2 = X[k] * 2 ^ (kk % 32) / 4294967296 := ⟨_, rfl⟩
      obtain ⟨m, hm⟩ : ∃ m : Nat, m = X[k] * 2 ^ (kk % 32) := ⟨_, rfl⟩
      have HS := shl_step hlt HOL.out HV.out
      rw [← hy, ← hc2] at HS
      have HS := Lib.hid HS
      have hyl : y < B32 := by rw [hy]; exact shl_low _ _ _ (by omega) hcr
      have em : IntKind.wrap .u64 (((X[k] : Nat) : Int) * 2 ^ (kk % 32)) = (m : Int) := by
        have e1 : ((X[k] : Nat) : Int) * 2 ^ (kk % 32) = (m : Int) := by rw [hm]; simp
        rw [← hm] at hml
        rw [e1, IntKind.wrap_u64]; omega
      have eo : bits .or .u32 ((m : Int) % 4294967296) (cr : Int) = (y : Int) := by
        have h3 := u32_or_nat (m % 4294967296) cr (Nat.mod_lt _ (by decide)) (by omega)
        rw [hm, shl_join _ _ _ (by omega) hcr, ← hy, ← hm] at h3
        rw [← h3]; simp
      have ec : (m : Int) / 4294967296 = (c2 : Int) := by rw [hc2, hm]; simp
      rw [← hc2] at hc2l
      have hc2s : c2 < 4294967296 := by omega
      have Hyl := Lib.hid hyl; have Hc2l := Lib.hid hc2l
      clear hy hc2 hm hyl hc2l hml hp
      generalize X[k] = xk at *
      go_wp2_with (at_builtin; refine wpList_app1 _ rfl _ _ rfl w.heap.size _ out rfl (OwnU.alloc HO.out _) wr.heap.size y rfl (by simp [go_sem]) Hyl.out (by simp; omega) (by rw [HOL.out]; omega) ?_; intro v1 w1 hown1 hgr1)
      have HO1 := Lib.hid hown1
      have HB1 := Lib.hid ((BW.out.alloc hBs _).grown hgr1 (by simp; omega) (fun x hx => (HO.out.own.lt x hx).1))
      clear hown1 hgr1
      go_wp2_with fail
      go_roundw
      case rel => exact ⟨k + 1, out ++ [y], c2, by omega, by go_num, rfl, by simp [HOL.out]; omega, Hc2l.out, HS.out, HO1.out, HB1.out⟩
      case measure => simp [intOf]; omega
    · obtain rfl : k = X.length := by omega
      go_wp2_with (at_builtin; refine wpList_app1 _ rfl _ _ rfl w.heap.size _ out rfl (OwnU.alloc HO.out _) wr.heap.size cr rfl (by simp [go_sem]) (by unfold B32; omega) (by simp; omega) (by rw [HOL.out]; omega) ?_; intro v1 w1 hown1 hgr1)
      have hvs : val (out ++ [cr]) = x * 2 ^ kk := by
        rw [val_append, HOL.out]
        have := HV.out
        rw [List.take_length] at this
        simp only [val, Nat.mul_zero, Nat.add_zero]
        rw [← vx.out, ← this]; rw [Nat.mul_comm (B32 ^ _)]
      have htr : trimL (out ++ [cr]) = limbs (x * 2 ^ kk) := by rw [trimL_limbs _ hown1.lt, hvs]
      have HB1 := Lib.hid ((BW.out.alloc hBs _).grown hgr1 (by simp; omega) (fun x hx => (HO.out.own.lt x hx).1))
      obtain ⟨a1, cap1, rfl, hlies⟩ := hown1.lies
      have HT := Lib.hid (told_any a1 cap1 _ w1 hlies (by rw [htr]; exact HF.out))
      have HLf : Hid (Lies w1 a1 (limbs (x * 2 ^ kk)).length (limbs (x * 2 ^ kk))) := by
        have h1 := (hlies.take (trimL (out ++ [cr])).length)
        rw [← trimL_prefix] at h1
        rw [← htr]; exact h1.clip
      have HTR := Lib.hid htr
      clear hown1 hgr1 hvs hlies htr
      go_wp2_with fail
      refine HT.out.mono ?_
      rintro e w2 ⟨rfl, rfl⟩
      rw [HTR.out]
      go_wp2_with fail
      go_ret2
      exact ⟨_, rfl, ⟨_, _, rfl, HLf.out⟩, HB1.out⟩
end Go.Proofs.YtcipmfjefmjacaaGreatDoor
