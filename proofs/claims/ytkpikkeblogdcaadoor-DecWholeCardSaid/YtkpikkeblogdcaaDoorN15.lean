/- Package nat: Text. -/
import Derived.Test.YtkpikkeblogdcaaDoorN14
namespace Go.Proofs.YtkpikkeblogdcaaDoor
open Go.RowKit
set_option linter.unusedVariables false

theorem pow_lt_digits {n k m : Nat} (h : 10 ^ k * m ≤ n) (hm : 0 < m) (hn : n < B32 ^ 256) : k < 8192 := by
  rcases Nat.lt_or_ge k 8192 with h1 | h1
  · exact h1
  · exfalso
    have h2 := p2_le (a := 32 * 256) (b := k) (by omega)
    have h3 : 2 ^ k ≤ 10 ^ k := Nat.pow_le_pow_left (by decide) k
    have h4 : 10 ^ k * 1 ≤ 10 ^ k * m := Nat.mul_le_mul_left _ hm
    have h5 := b32_pow 256
    generalize B32 ^ 256 = b at *
    generalize (2 : Nat) ^ (32 * 256) = c at *
    omega

theorem RowB.cell_turned {w : World} {g cap : Nat} {L : List Nat} (h : RowB w g cap L.reverse) (hd : DigN L) (j : Nat) (hj : j < (turned L).length) : w.cell? ⟨g, j, none⟩ = some (.int .u8 ((turned L)[j].toNat : Nat)) := by
  have hj' : j < L.reverse.length := by simpa [turned_length] using hj
  rw [h.cell j hj']
  have h2 := hd _ (List.mem_reverse.1 (List.getElem_mem hj'))
  have h3 : (turned L)[j] = UInt8.ofNat (L.reverse[j]) := by simp [turned]
  rw [h3, toNat_ofNat_dig h2.2]

theorem RowU.grownB {w w3 : World} {g cap base : Nat} {A L : List Nat} {v : Value} {o : Obj} (h : RowU w g cap A) (hb : OwnB w base v L) (hgr : (w.alloc o).grownBy w3 v.ownBlock) : RowU w3 g cap A := by
  have hg := h.ltg
  have h1 : w3.heap[g]? = (w.alloc o).heap[g]? := by
    refine hgr.block g (by simp; omega) ?_
    rcases hb.slice with ⟨rfl, rfl⟩ | ⟨g', cap', rfl, hbg, hr⟩
    · simp [Value.ownBlock]
    · simp only [Value.ownBlock]
      intro he
      cases he
      obtain ⟨c1, e1, _⟩ := hr.row
      obtain ⟨c2, e2, _⟩ := h.row
      rw [e1] at e2
      simp at e2
  exact h.keep (h1.trans (Below.heap_alloc w o g hg))

theorem OwnB.lenV {w : World} {base : Nat} {v : Value} {L : List Nat} (h : OwnB w base v L) : lenV v = L.length := by
  rcases h.slice with ⟨rfl, rfl⟩ | ⟨g, cap, rfl, _, _⟩ <;> simp [Go.Proofs.YtkpikkeblogdcaaDoor.lenV]

theorem valD_snoc (L : List Nat) (c : Nat) : valD (L ++ [c]) = valD L + 10 ^ L.length * (c - 48) := by rw [valD_append]; simp [valD]
theorem text_step (V l r i : Nat) : V + 10 ^ l * (r % 10) + 10 ^ (l + 1) * (r / 10) = V + 10 ^ l * r := by
  rw [Nat.pow_succ, Nat.mul_assoc, Nat.add_assoc, ← Nat.mul_add]
  congr 2; omega

set_option maxRecDepth 100000 in
set_option maxHeartbeats 8000000 in
theorem Text_any (va : Value) (x : Nat) (w : World) (hx : NatV w va x) (hX : (limbs x).length ≤ 256) (hx0 : 0 < x) :
    Calls Tryd.prog 45 #[va] w fun e w' => ∃ s : ByteArray, e = .returned (.tuple #[.string s, .int .i64 0]) ∧ Canon s.data.toList x ∧ Below w.heap.size w w' := by
  obtain ⟨a, ca, rfl, ha⟩ := hx
  have V1 := Lib.hid (valid_any a ca x w ha hX)
  have C1 := Lib.hid (Clone_any a ca (limbs x) w ha (by omega))
  have hle := ha.le
  have HXB : Hid (x < B32 ^ 256) := lt_of_limbs_length hX
  clear ha
  generalize hXe : limbs x = X at *
  have HXE := Lib.hid hXe
  clear hXe
  go_enter Tryd.func45, Tryd.ntmps45
  go_wp2_with fail
  refine V1.out.mono ?_
  rintro e w1 ⟨rfl, rfl⟩
  go_wp2_with fail
  refine C1.out.mono ?_
  rintro e w1 ⟨vl, rfl, hown0, hb1⟩
  have hs1 := hb1.size
  have HO0 := Lib.hid hown0
  have HB1 := Lib.hid hb1
  clear hown0 hb1 V1 C1 hle
  generalize hgw : w.heap.size = gw at *
  have HGW := Lib.hid hgw
  clear hgw
  go_wp2_with fail
  have hvx : Hid (val X = x) := by rw [← HXE.out]; exact val_limbs x
  go_loopw [4, 5] (fun vo vl wr => ∃ (m : Nat) (L : List Nat), OwnU wr gw vl (limbs m) ∧ OwnB wr gw vo L ∧ DigN L ∧ valD L + 10 ^ L.length * m = x ∧ Below gw w wr ∧ gw ≤ wr.heap.size ∧ (limbs m).length ≤ 256) (fun vo _ wr => 9000 - lenV vo)
  case atStart => exact ⟨x, [], by rw [HXE.out]; exact HO0.out, ⟨by simp, World.ownsRow_nil _ _ _ _⟩, by intro c hc; simp at hc, by simp [valD], HB1.out, by omega, by rw [HXE.out]; exact hX⟩
  case round =>
    obtain ⟨m, L, hown, hownb, hdl, hv, hbw, hgs, hml⟩ := hrel
    have HV := Lib.hid hv; have BW := Lib.hid hbw; have HO := Lib.hid hown; have HOB := Lib.hid hownb; have HD := Lib.hid hdl
    have HLU := Lib.hid hownb.lenV
    clear hv hbw hdl HO0 HB1
    by_cases hm : m = 0
    · subst hm
      obtain ⟨a, cap, rfl, hlies⟩ := hown.lies
      rw [limbs_zero] at *
      clear hown hlies
      have hvd : valD L = x := by have := HV.out; omega
      rcases hownb.slice with ⟨rfl, rfl⟩ | ⟨g, cap2, rfl, hgb, hrow⟩
      · simp [valD] at hvd; omega
      have HR := Lib.hid hrow
      have hgl := hrow.ltg
      have hrle := hrow.le
      have hrm := hrow.max
      have HVD := Lib.hid hvd
      have hL0 : Hid (0 < L.length) := by
        show 0 < L.length
        rcases Nat.eq_zero_or_pos L.length with h | h
        · rw [List.eq_nil_of_length_eq_zero h] at hvd; simp [valD] at hvd; omega
        · exact h
      clear hrow hownb hvd HO HOB
      go_wp2_with fail
      obtain ⟨wo, rfl⟩ : ∃ wo : World, wo = wr := ⟨_, rfl⟩
      go_loop [4] (fun v => ∃ k : Nat, k ≤ L.length ∧ v = .slice (some ⟨g, 0, none⟩) k cap2 ∧ ∀ c ∈ L.drop k, c = 48) lenV
      case atStart => exact ⟨L.length, Nat.le_refl _, rfl, by simp⟩
      case round =>
        obtain ⟨k, hk, rfl, hst⟩ := hrel
        have HST := Lib.hid hst
        clear hst
        cases k with
        | zero =>
          exfalso
          have h1 := valD_48 L (by simpa using HST.out)
          rw [HVD.out] at h1; omega
        | succ k =>
          have hc := HR.out.cell k (by omega)
          by_cases h48 : L[k] = 48
          · rw [h48] at hc
            have HS2 : Hid (∀ c ∈ L.drop k, c = 48) := by
              intro c hc
              rw [List.drop_eq_getElem_cons (show k < L.length by omega)] at hc
              rcases List.mem_cons.1 hc with rfl | hc
              · exact h48
              · exact HST.out c hc
            clear h48
            go_wp2_with fail
            go_round
            case rel => exact ⟨k, by omega, by go_num, HS2.out⟩
            case measure => simp [lenV]
          · have hCN := canon_turned HD.out (k := k + 1) (by omega) hk HST.out (fun _ => h48)
            rw [HVD.out] at hCN
            have HCN := Lib.hid hCN
            have h48' : (((L[k] : Nat) : Int) == 48) = false := beq_eq_false_iff_ne.2 (by omega)
            have hRT := HR.out.take (k + 1)
            have hREV := Reverse_any g cap2 (L.take (k + 1)) wo hRT
            rw [List.length_take, Nat.min_eq_left hk] at hREV
            have HREV := Lib.hid hREV
            clear hRT hREV hCN h48
            generalize L[k] = ck at *
            go_wp2_with fail
            refine HREV.out.mono ?_
            rintro e w2 ⟨rfl, hr2, hb2⟩
            have HR2 := Lib.hid hr2
            have HB2 := Lib.hid (hb2 gw w BW.out hgb)
            clear hr2 hb2
            have htl : (turned (L.take (k + 1))).length = k + 1 := by rw [turned_length, List.length_take, Nat.min_eq_left hk]
            have HCT := Lib.hid (HR2.out.cell_turned (fun c hc => HD.out c (List.mem_of_mem_take hc)))
            generalize turned (L.take (k + 1)) = T at *
            go_wp2_with (refine wpList_string _ rfl _ rfl g cap2 T (by rw [htl]; rfl) HCT.out ?_)
            go_ret2
            exact ⟨_, rfl, by simpa using HCN.out, by rw [HGW.out]; exact HB2.out⟩
    · have hmp : 0 < m := by omega
      have hmn : limbs m ≠ [] := fun h => hm (limbs_eq_nil.1 h)
      have hlm : 0 < (limbs m).length := List.length_pos_iff.2 hmn
      obtain ⟨a, cap, rfl, hlies⟩ := hown.lies
      obtain ⟨g, rfl, _, hgb, hrow⟩ := hown.row hlm
      have hll : L.length < 8192 := pow_lt_digits (n := x) (by have := HV.out; omega) hmp HXB.out
      have hSM := Lib.hid (small_any g cap (limbs m) 1000000000 wr hrow (by decide) (by decide) (by omega))
      have hvm := val_limbs m
      rw [hvm] at hSM
      have hgl := hrow.ltg
      have HR := Lib.hid hrow
      clear hown hlies hm hmn hrow hvm
      generalize hMe : limbs m = M at *
      have HME := Lib.hid hMe
      clear hMe
      have hM0 : (0 : Int) < (M.length : Int) := by omega
      go_wp2_with fail
      refine hSM.out.mono ?_
      rintro e w2 ⟨rfl, ⟨A', hal, hav, hra⟩, hap⟩
      have hs2 := hap.size
      have HAP := Lib.hid hap
      have HOB2 := Lib.hid (HOB.out.apart (fun k hk hne => hap.block k hk (by simpa using hne)) HR.out)
      have HRA := Lib.hid hra
      have HB2 := Lib.hid (BW.out.trans (hap.below (B := gw) hgs (by simp; exact hgb)))
      have HAV := Lib.hid hav
      have HAL := Lib.hid hal
      clear hap hra hav hal hownb HOB hSM HR
      obtain ⟨r, hr⟩ : ∃ r, r = m % 1000000000 := ⟨_, rfl⟩
      rw [← hr]
      have hr9 : r < 1000000000 := by omega
      have HRR := Lib.hid hr
      clear hr
      go_wp2_with fail
      go_loopw [4, 6, 19] (fun vo n i wr => ∃ (k : Nat) (L' : List Nat), k ≤ 9 ∧ i = .int .i64 k ∧ n = .int .u32 ((r / 10 ^ k : Nat) : Int) ∧ OwnB wr gw vo L' ∧ DigN L' ∧ L'.length = L.length + k ∧ valD L' + 10 ^ (L.length + k) * (r / 10 ^ k) = valD L + 10 ^ L.length * r ∧ RowU wr g cap A' ∧ Below gw w wr ∧ gw ≤ wr.heap.size) (fun _ _ i _ => 9 - (intOf i).toNat)
      case atStart => exact ⟨0, L, by omega, rfl, by simp, HOB2.out, HD.out, rfl, by simp, HRA.out, HB2.out, by omega⟩
      case round =>
        obtain ⟨k, L', hk, rfl, rfl, hown', hdl', hll', hv', hra', hbw', hgs'⟩ := hrel
        have HO' := Lib.hid hown'; have HD' := Lib.hid hdl'; have HLL' := Lib.hid hll'; have HV' := Lib.hid hv'; have HRA' := Lib.hid hra'; have BW' := Lib.hid hbw'
        clear hown' hdl' hll' hv' hbw' HOB2 HRA HB2
        by_cases hk9 : k < 9
        · obtain ⟨q, hq⟩ : ∃ q, q = r / 10 ^ k := ⟨_, rfl⟩
          have hqr : q ≤ r := by rw [hq]; exact Nat.div_le_self _ _
          have hq2 : r / 10 ^ (k + 1) = q / 10 := by rw [hq, Nat.pow_succ, Nat.div_div_eq_div_mul]
          have HV2 := HV'.out
          rw [← hq] at HV2 ⊢
          have HQ2 := Lib.hid hq2
          have hst := text_step (valD L') (L.length + k) q 0
          rw [HV2] at hst
          have HST := Lib.hid hst
          have hdq : q % 10 ≤ 9 := by omega
          obtain ⟨c, hc⟩ : ∃ c, c = 48 + q % 10 := ⟨_, rfl⟩
          have ec : 48 + (q : Int) % 10 = (c : Int) := by omega
          have hcd : 48 ≤ c ∧ c ≤ 57 := by omega
          have HC : Hid (q % 10 = c - 48) := by show q % 10 = c - 48; omega
          clear hq hq2 HV2 hst hc
          go_wp2_with (
            at_builtin
            go_loud (refine wpList_appB _ rfl _ _ rfl gw _ L' rfl (OwnB.alloc HO'.out _) wr.heap.size c rfl (by simp [go_sem]) (by omega) (by simp; omega) (by have := HLL'.out; omega) ?_)
            intro v1 w3 hown1 hgr1
            have HO1 := Lib.hid hown1
            have HB3 := Lib.hid ((BW'.out.alloc hgs' _).grown hgr1 (by simp; omega) (fun x hx => (HO'.out.own.lt x hx).1))
            have HRA3 : Hid (RowU w3 g cap A') := HRA'.out.grownB HO'.out hgr1
            have hs3 : gw ≤ w3.heap.size := by have := hgr1.size; simp at this; omega
            clear hown1 hgr1)
          go_wp2_with fail
          go_roundw
          case rel => exact ⟨k + 1, L' ++ [c], by omega, by go_num, by rw [HQ2.out]; rfl, HO1.out, by intro c hc; rcases List.mem_append.1 hc with h | h; exact HD'.out c h; simp at h; omega, by simp [HLL'.out]; omega, by rw [valD_snoc, HLL'.out, HQ2.out, ← HST.out, HC.out]; rfl, HRA3.out, HB3.out, hs3⟩
          case measure => simp [intOf]; omega
        · obtain rfl : k = 9 := by omega
          have hlA : A'.length = M.length := HAL.out
          have hTR := trim_any (some ⟨g, 0, none⟩) cap A' wr HRA'.out.lies
          have htA : trimL A' = limbs (m / 1000000000) := by rw [trimL_limbs A' HRA'.out.lt, HAV.out]
          have hown3 := (HRA'.out.take (trimL A').length).own hgb
          rw [← trimL_prefix, htA] at hown3
          have hlm2 := trimL_length_le A'
          have hll2 := hown3.lies
          rw [htA] at hTR hlm2
          rw [hlA] at hTR hlm2
          have HTR := Lib.hid hTR
          have HOW3 := Lib.hid hown3
          have hr0 : r / 10 ^ 9 = 0 := Nat.div_eq_of_lt (by omega)
          have hvv : valD L' + 10 ^ L'.length * (m / 1000000000) = x := by
            have h1 := HV'.out
            rw [hr0, Nat.mul_zero, Nat.add_zero] at h1
            rw [h1, HLL'.out, Nat.pow_add, Nat.mul_assoc, Nat.add_assoc, ← Nat.mul_add, ← HV.out, HRR.out]
            congr 2; omega
          have HVV := Lib.hid hvv
          have HLV := Lib.hid HO'.out.lenV
          clear hvv hr0 hown3 hTR htA hll2 hra'
          generalize hZ : limbs (m / 1000000000) = Z at *
          have HZ := Lib.hid hZ
          clear hZ
          go_wp2_with fail
          refine HTR.out.mono ?_
          rintro e w4 ⟨rfl, rfl⟩
          go_wp2_with fail
          go_roundw
          case rel => exact ⟨m / 1000000000, L', by rw [HZ.out]; exact HOW3.out, HO'.out, HD'.out, HVV.out, BW'.out, hgs', by rw [HZ.out]; omega⟩
          case measure =>
            have h1 := HLV.out
            have h2 := HLL'.out
            have h3 := HLU.out
            omega
end Go.Proofs.YtkpikkeblogdcaaDoor
