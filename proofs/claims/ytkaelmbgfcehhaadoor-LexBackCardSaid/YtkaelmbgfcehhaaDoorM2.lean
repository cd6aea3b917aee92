/- Several texts in one (N8, N9, N10, N11, N12, N13, X1, Y1, X2, N14, N15, N16, D1). -/
import Derived.Test.YtkaelmbgfcehhaaDoorM1
import Derived.Laws.ShiftsVarLaws
import Derived.BigRegion
import Derived.Lib.ConvBytes
import Derived.Lib.SmallJoins
import Derived.Test.YtkaelmbgfcehhaaDoorShelfR
import Derived.Laws.IdiomStrings
import Derived.Lib.OwnBridge
set_option linter.unusedVariables false
set_option linter.unusedSimpArgs false
section
/- Package nat: Div. -/
namespace Go.Proofs.YtkaelmbgfcehhaaDoor
open Go.RowKit
set_option linter.unusedVariables false

theorem NatV.of_trim {w : World} {a : Option Addr} {cap n : Nat} {L : List Nat} (h : Lies w a cap L) (hv : val L = n) : NatV w (.slice a (trimL L).length (trimL L).length) n ∧ trimL L = limbs n := by
  have e : trimL L = limbs n := by rw [trimL_limbs _ h.lt, hv]
  refine ⟨?_, e⟩
  have h1 := h.take (trimL L).length
  rw [← trimL_prefix, e] at h1
  rw [e]
  exact ⟨a, _, rfl, h1.clip⟩

set_option maxRecDepth 100000 in
set_option maxHeartbeats 2000000 in
theorem Div_small (va vb : Value) (x y : Nat) (w : World) (hx : NatV w va x) (hy : NatV w vb y) (hX : (limbs x).length ≤ 256) (hY : (limbs y).length = 1) :
    Calls Tryd.prog 82 #[va, vb] w fun e w' => ∃ q r, e = .returned (.tuple #[q, r, .int .i64 0]) ∧ NatV w' q (x / y) ∧ NatV w' r (x % y) ∧ Below w.heap.size w w' := by
  obtain ⟨a, ca, rfl, ha⟩ := hx
  obtain ⟨b, cb, rfl, hb⟩ := hy
  have V1 := Lib.hid (valid_any a ca x w ha hX)
  have V2 := Lib.hid (valid_any b cb y w hb (by omega))
  obtain ⟨d, hd⟩ : ∃ d, limbs y = [d] := by
    rcases h : limbs y with _ | ⟨d, l⟩
    · rw [h] at hY; simp at hY
    · rw [h] at hY
      simp at hY
      exact ⟨d, by rw [hY]⟩
  have hyd : y = d := by have := val_limbs y; rw [hd] at this; simp [val] at this; exact this.symm
  have hd0 : d ≠ 0 := by
    intro h0; have := limbs_zero; rw [← h0, ← hyd, hd] at this; simp at this
  have hdl : d < 4294967296 := limbs_lt y d (by rw [hd]; simp)
  rw [hd] at hb V2 ⊢
  obtain ⟨bb, ob, rfl, hcb⟩ := hb.at_ 0 (by simp)
  have hcb' : w.cell? ⟨bb, ob, none⟩ = some (.int .u32 d) := by simpa using hcb
  have vx : Hid (val (limbs x) = x) := val_limbs x
  have h1 := ha.le
  have hcb1 : 1 ≤ cb := by have := hb.le; simpa using this
  have HA := Lib.hid ha
  clear ha hb hcb hd hY
  subst hyd
  generalize limbs x = X at *
  simp only [List.length_cons, List.length_nil] at V2 ⊢
  have hbw : bb < w.heap.size := World.block_lt_of_cell? w _ hcb'
  go_enter Tryd.func82, Tryd.ntmps82
  go_wp2_with fail
  refine V1.out.mono ?_
  rintro e w1 ⟨rfl, rfl⟩
  go_wp2_with fail
  refine V2.out.mono ?_
  rintro e w1 ⟨rfl, rfl⟩
  clear V1 V2
  go_wp2_with fail
  refine (Clone_any a ca X w HA.out (by omega)).mono ?_
  rintro e w1 ⟨v, rfl, hown, hb1⟩
  have hcb2 := (hb1.cell (p := ⟨bb, ob, none⟩) hbw).trans hcb'
  have hbw1 : bb < w1.heap.size := Nat.lt_of_lt_of_le hbw hb1.size
  have HB1 := Lib.hid hb1
  clear hb1 hcb'
  rcases hown.at_ with ⟨rfl, rfl⟩ | ⟨g, cap, cur, rfl, hbg, hg, hl, hm, hs, ht⟩
  · have hx0 : x = 0 := by rw [← vx.out]; rfl
    subst hx0
    clear hown
    go_wp2_with fail
    refine (small_nil y w1).mono ?_
    rintro e w2 ⟨rfl, rfl⟩
    go_wp2_with fail
    refine (trim_any none 0 [] w1 (Lies.nil _ _ _ (by omega) (by simp))).mono ?_
    rintro e w3 ⟨rfl, rfl⟩
    go_wp2_with fail
    refine (clip_any none 0 0 _ (by omega)).mono ?_
    rintro e w3 ⟨rfl, rfl⟩
    go_wp2_with fail
    refine (From_any 0 (by omega) _).mono ?_
    rintro e w4 ⟨a4, c4, rfl, hl4, hb4⟩
    have HB4 := Lib.hid (HB1.out.trans (hb4.mono HB1.out.size))
    have HR4 : Hid (NatV w4 (.slice a4 (limbs 0).length c4) 0) := ⟨a4, c4, rfl, hl4⟩
    have HQ4 : Hid (NatV w4 (.slice none 0 0) 0) := ⟨none, 0, by rw [limbs_zero]; rfl, by rw [limbs_zero]; exact Lies.nil _ _ _ (by omega) (by simp)⟩
    clear hl4 hb4
    go_wp2_with fail
    go_ret3
    exact ⟨_, _, rfl, by rw [Nat.zero_div]; exact HQ4.out, by rw [Nat.zero_mod]; exact HR4.out, HB4.out⟩
  · have hrow : RowU w1 g cap X := ⟨hown.lt, hl, hm, cur, hg, hs, ht⟩
    have HR := Lib.hid hrow
    clear hown hg hs ht hrow
    go_wp2_with fail
    have hsm := small_any g cap X y w1 HR.out (by omega) hdl (by omega)
    have hml : val X % y < 4294967296 := Nat.lt_trans (Nat.mod_lt _ (by omega)) hdl
    rw [vx.out] at hml
    obtain ⟨m, hm'⟩ : ∃ m, m = x % y := ⟨_, rfl⟩
    rw [vx.out, ← hm'] at hsm
    rw [← hm'] at hml
    have HM := Lib.hid hm'
    clear hm'
    refine hsm.mono ?_
    rintro e w2 ⟨rfl, ⟨A', hal, hav, hr2⟩, hap⟩
    have HB2 := Lib.hid (HB1.out.trans (hap.below HB1.out.size (by simpa using hbg)))
    have HT := Lib.hid (trim_any (some ⟨g, 0, none⟩) cap A' w2 hr2.lies)
    have HQ := Lib.hid (NatV.of_trim hr2.lies (show val A' = x / y by rw [hav])).1
    have htl := trimL_length_le A'
    rw [hal] at HT htl
    clear hav hr2 hap HB1
    go_wp2_with fail
    refine HT.out.mono ?_
    rintro e w3 ⟨rfl, rfl⟩
    go_wp2_with fail
    refine (clip_any _ _ cap _ (by omega)).mono ?_
    rintro e w3 ⟨rfl, rfl⟩
    go_wp2_with fail
    refine (From_any m (by omega) _).mono ?_
    rintro e w4 ⟨a4, c4, rfl, hl4, hb4⟩
    have HB4 := Lib.hid (HB2.out.trans (hb4.mono HB2.out.size))
    have HQ4 := Lib.hid (HQ.out.below hb4)
    have HR4 : Hid (NatV w4 (.slice a4 (limbs m).length c4) m) := ⟨a4, c4, rfl, hl4⟩
    clear hl4 hb4
    go_wp2_with fail
    go_ret3
    exact ⟨_, _, rfl, HQ4.out, by rw [← HM.out]; exact HR4.out, HB4.out⟩
end Go.Proofs.YtkaelmbgfcehhaaDoor
end

section
/- Package nat: Div, bit by bit. -/
namespace Go.Proofs.YtkaelmbgfcehhaaDoor
open Go.RowKit
set_option linter.unusedVariables false

/-- one limb of a number -/
theorem limb_get {L : List Nat} (hL : ∀ x ∈ L, x < B32) {t : Nat} (h : t < L.length) : L[t] = val L / B32 ^ t % B32 := by
  have e : L = L.take t ++ (L[t] :: L.drop (t + 1)) := by rw [← List.drop_eq_getElem_cons h, List.take_append_drop]
  have hb := val_lt (L.take t) (fun x hx => hL x (List.mem_of_mem_take hx))
  have hl : (L.take t).length = t := by simp; omega
  rw [hl] at hb
  have hx := hL _ (List.getElem_mem h)
  have hv : val L = val (L.take t) + B32 ^ t * (L[t] + B32 * val (L.drop (t + 1))) := by
    conv => lhs; rw [e]
    rw [val_append, hl, val]
  rw [hv, Nat.add_mul_div_left _ _ (Nat.pow_pos (by decide)), Nat.div_eq_of_lt hb, Nat.zero_add, Nat.add_mul_mod_self_left, Nat.mod_eq_of_lt hx]

theorem bit_of {L : List Nat} (hL : ∀ x ∈ L, x < B32) {i : Nat} (h : i / 32 < L.length) : L[i / 32] / 2 ^ (i % 32) % 2 = val L / 2 ^ i % 2 := by
  rw [limb_get hL h]
  have hs : i % 32 < 32 := Nat.mod_lt _ (by decide)
  have hB : B32 = 2 ^ (i % 32) * 2 ^ (32 - i % 32) := by rw [← Nat.pow_add, show i % 32 + (32 - i % 32) = 32 by omega]
  have hi : i = 32 * (i / 32) + i % 32 := (Nat.div_add_mod i 32).symm
  have e1 : val L / 2 ^ i = val L / B32 ^ (i / 32) / 2 ^ (i % 32) := by
    rw [Nat.div_div_eq_div_mul, show B32 ^ (i / 32) * 2 ^ (i % 32) = 2 ^ i by rw [show B32 = 2 ^ 32 from rfl, ← Nat.pow_mul, ← Nat.pow_add, ← hi]]
  rw [e1, hB, Nat.mod_mul_right_div_self]
  obtain ⟨m, hm⟩ : ∃ m, 32 - i % 32 = m + 1 := ⟨31 - i % 32, by omega⟩
  rw [hm, Nat.pow_succ, Nat.mod_mul_left_mod]

theorem set_bit {L : List Nat} (hL : ∀ x ∈ L, x < B32) {i c : Nat} (h : i / 32 < L.length) (hv : val L = c * 2 ^ (i + 1)) :
    L[i / 32] ||| 2 ^ (i % 32) = L[i / 32] + 2 ^ (i % 32) ∧ L[i / 32] + 2 ^ (i % 32) < B32 ∧ val (L.set (i / 32) (L[i / 32] + 2 ^ (i % 32))) = val L + 2 ^ i := by
  have hs : i % 32 < 32 := Nat.mod_lt _ (by decide)
  have hi : i = 32 * (i / 32) + i % 32 := (Nat.div_add_mod i 32).symm
  have hx := hL _ (List.getElem_mem h)
  have hg := limb_get hL h
  have hB : B32 = 2 ^ (i % 32 + 1) * 2 ^ (31 - i % 32) := by rw [← Nat.pow_add, show i % 32 + 1 + (31 - i % 32) = 32 by omega]
  have e1 : val L / B32 ^ (i / 32) = c * 2 ^ (i % 32 + 1) := by
    rw [hv, show (2 : Nat) ^ (i + 1) = B32 ^ (i / 32) * 2 ^ (i % 32 + 1) by rw [show B32 = 2 ^ 32 from rfl, ← Nat.pow_mul, ← Nat.pow_add]; congr 1; omega]
    rw [show c * (B32 ^ (i / 32) * 2 ^ (i % 32 + 1)) = B32 ^ (i / 32) * (c * 2 ^ (i % 32 + 1)) by ac_rfl, Nat.mul_div_cancel_left _ (Nat.pow_pos (by decide))]
  have hmod : L[i / 32] % 2 ^ (i % 32 + 1) = 0 := by
    rw [hg, e1]
    conv => lhs; arg 1; arg 2; rw [hB]
    rw [Nat.mod_mul_right_mod, Nat.mul_mod_left]
  have hor : L[i / 32] ||| 2 ^ (i % 32) = L[i / 32] + 2 ^ (i % 32) := nat_join (i % 32 + 1) _ _ hmod (Nat.pow_lt_pow_right (by decide) (by omega))
  refine ⟨hor, ?_, ?_⟩
  · obtain ⟨m, hm⟩ : ∃ m, L[i / 32] = 2 ^ (i % 32 + 1) * m := ⟨L[i / 32] / 2 ^ (i % 32 + 1), by rw [Nat.mul_div_cancel' (Nat.dvd_of_mod_eq_zero hmod)]⟩
    rw [hm] at hx ⊢
    have hlt : m < 2 ^ (31 - i % 32) := by
      rw [hB] at hx; exact Nat.lt_of_mul_lt_mul_left hx
    have h2 : 2 ^ (i % 32 + 1) * (m + 1) ≤ 2 ^ (i % 32 + 1) * 2 ^ (31 - i % 32) := Nat.mul_le_mul_left _ hlt
    rw [← hB, Nat.mul_add] at h2
    have h3 : 2 ^ (i % 32) < 2 ^ (i % 32 + 1) := Nat.pow_lt_pow_right (by decide) (by omega)
    omega
  · have hvs := val_set L (i / 32) (L[i / 32] + 2 ^ (i % 32)) h
    have e2 : (2 : Nat) ^ i = 2 ^ (i % 32) * B32 ^ (i / 32) := by rw [show B32 = 2 ^ 32 from rfl, ← Nat.pow_mul, ← Nat.pow_add]; congr 1; omega
    rw [Nat.add_mul, ← e2] at hvs
    omega

theorem double_step {R R' : List Nat} {j bt b0 : Nat} (hj : j < R.length) (hl : R'.length = R.length) (hv : val (R'.take j) + bt * B32 ^ j = 2 * val (R.take j) + b0) :
    val ((R'.set j ((R[j] * 2) % 4294967296 + bt)).take (j + 1)) + R[j] / 2147483648 * B32 ^ (j + 1) = 2 * val (R.take (j + 1)) + b0 := by
  rw [val_take_snoc (Y := R'.set j _) (by simp; omega), val_take_snoc hj, List.take_set_of_le (Nat.le_refl j)]
  simp only [List.getElem_set_self, Nat.pow_succ]
  have e : (R[j] * 2) % 4294967296 + R[j] / 2147483648 * B32 = R[j] * 2 := by rw [B32]; omega
  have e2 : ((R[j] * 2) % 4294967296 + R[j] / 2147483648 * B32) * B32 ^ j = R[j] * 2 * B32 ^ j := by rw [e]
  simp only [Nat.add_mul, Nat.mul_add] at e2 ⊢
  rw [show R[j] / 2147483648 * (B32 ^ j * B32) = R[j] / 2147483648 * B32 * B32 ^ j by ac_rfl]
  rw [show 2 * (R[j] * B32 ^ j) = R[j] * 2 * B32 ^ j by ac_rfl]
  omega

theorem div_bit (x y k : Nat) (hy : 0 < y) : x / 2 ^ k / y = 2 * (x / 2 ^ (k + 1) / y) + (2 * (x / 2 ^ (k + 1) % y) + x / 2 ^ k % 2) / y ∧ x / 2 ^ k % y = (2 * (x / 2 ^ (k + 1) % y) + x / 2 ^ k % 2) % y := by
  have e : x / 2 ^ k = 2 * (x / 2 ^ (k + 1)) + x / 2 ^ k % 2 := by
    rw [Nat.pow_succ, ← Nat.div_div_eq_div_mul]; omega
  have e2 : x / 2 ^ k = (2 * (x / 2 ^ (k + 1) % y) + x / 2 ^ k % 2) + y * (2 * (x / 2 ^ (k + 1) / y)) := by
    have h := Nat.div_add_mod (x / 2 ^ (k + 1)) y
    rw [show y * (2 * (x / 2 ^ (k + 1) / y)) = 2 * (y * (x / 2 ^ (k + 1) / y)) by ac_rfl]
    omega
  constructor
  · conv => lhs; rw [e2]
    rw [Nat.add_mul_div_left _ _ hy]; omega
  · conv => lhs; rw [e2]
    rw [Nat.add_mul_mod_self_left]
end Go.Proofs.YtkaelmbgfcehhaaDoor
end

section
/- Package nat: Div, bit by bit: the walk. -/
namespace Go.Proofs.YtkaelmbgfcehhaaDoor
open Go.RowKit
set_option linter.unusedVariables false

set_option maxRecDepth 100000 in
set_option maxHeartbeats 4000000 in
theorem Div_long (va vb : Value) (x y : Nat) (w : World) (hx : NatV w va x) (hy : NatV w vb y) (hX : (limbs x).length ≤ 256) (hY : (limbs y).length ≤ 256) (hY2 : 2 ≤ (limbs y).length) :
    Calls Tryd.prog 82 #[va, vb] w fun e w' => ∃ q r, e = .returned (.tuple #[q, r, .int .i64 0]) ∧ NatV w' q (x / y) ∧ NatV w' r (x % y) ∧ Below w.heap.size w w' := by
  obtain ⟨a, ca, rfl, ha⟩ := hx
  obtain ⟨b, cb, rfl, hb⟩ := hy
  have V1 := Lib.hid (valid_any a ca x w ha hX)
  have V2 := Lib.hid (valid_any b cb y w hb hY)
  have VB := Lib.hid (fun (w' : World) (h : Lies w' a ca (limbs x)) => Bits_any a ca x w' h hX)
  have hy0 : 0 < y := by
    rcases Nat.eq_zero_or_pos y with h | h
    · rw [h, limbs_zero] at hY2; simp at hY2
    · exact h
  have hylt : y < B32 ^ (limbs y).length := lt_of_limbs_length (Nat.le_refl _)
  have hnb : nbits x ≤ 32 * (limbs x).length := nbits_le.2 (by rw [Nat.pow_mul]; exact lt_of_limbs_length (Nat.le_refl _))
  have hxn : x < 2 ^ nbits x := nbits_le.1 (Nat.le_refl _)
  have vx : Hid (val (limbs x) = x) := val_limbs x
  have hXl := Lib.hid (limbs_lt x)
  have hXn : Hid (limbs y ≠ []) := by intro h; rw [h] at hY2; simp at hY2
  have h1 := ha.le; have h2 := hb.le
  have HA := Lib.hid ha; have HB := Lib.hid hb
  have HCMP := Lib.hid (fun (w' : World) (p : Option Addr) (cp : Nat) (n : Nat) (h : Lies w' p cp (limbs n)) (h' : Lies w' b cb (limbs y)) => Cmp_any p cp n b cb y w' h h')
  have HYV : Hid (val (limbs y) = y) := val_limbs y
  have hHY := Lib.hid hylt
  have HXN := Lib.hid hxn
  clear ha hb hylt hxn
  generalize limbs x = X at *
  generalize limbs y = Y at *
  have hY0 : ((Y.length : Int) == 0) = false := beq_eq_false_iff_ne.2 (by omega)
  have hY1 : ((Y.length : Int) == 1) = false := beq_eq_false_iff_ne.2 (by omega)
  have hbw : Hid (∀ p, b = some p → p.block < w.heap.size) := by
    intro p hp
    obtain ⟨bb, ob, e, hc⟩ := HB.out.at_ 0 (by omega)
    rw [hp] at e; cases e
    exact World.block_lt_of_cell? w _ hc
  go_enter Tryd.func82, Tryd.ntmps82
  go_wp2_with fail
  refine V1.out.mono ?_
  rintro e w1 ⟨rfl, rfl⟩
  go_wp2_with fail
  refine V2.out.mono ?_
  rintro e w1 ⟨rfl, rfl⟩
  clear V1 V2
  go_wp2_with (first
    | (at_make; refine wpList_make1 _ rfl _ _ rfl X.length X.length _ _ rfl rfl rfl rfl (Nat.le_refl _) (by omega) ?_; intro w1 hrow hb0
       have HQ0 := Lib.hid hrow
       have hgq := hrow.ltg
       have hb0s := hb0.size
       have HB0 := Lib.hid hb0
       clear hrow hb0)
    | (at_make; refine wpList_make1 _ rfl _ _ rfl (Y.length + 1) (Y.length + 1) _ _ rfl rfl (by simp) (by simp) (Nat.le_refl _) (by omega) ?_; intro w2 hrow hb1
       have HQ1 := Lib.hid (HQ0.out.below hb1 hgq)
       have HL1 := Lib.hid hrow
       have HB1 := Lib.hid (HB0.out.trans (hb1.mono hb0s))
       have hbs := hb1.size
       clear hrow hb1 HQ0 HB0))
  generalize hgl : w1.heap.size = gl at *
  clear hgl
  generalize hgqe : w.heap.size = gq at *
  have HGQ := Lib.hid hgqe
  clear hgqe
  go_wp2_with fail
  refine (VB.out _ (HA.out.below (by rw [HGQ.out]; exact HB1.out))).mono ?_
  rintro e w3 ⟨rfl, rfl⟩
  go_wp2_with fail
  go_loopw [11] (fun i wr => ∃ (k : Nat) (Q R : List Nat), k ≤ nbits x ∧ i = .int .i64 ((k : Int) - 1) ∧ Q.length = X.length ∧ R.length = Y.length + 1 ∧ val R = x / 2 ^ k % y ∧ val Q = x / 2 ^ k / y * 2 ^ k ∧ RowU wr gq X.length Q ∧ RowU wr gl (Y.length + 1) R ∧ Below gq w wr) (fun i _ => (intOf i + 1).toNat)
  case atStart => exact ⟨nbits x, _, _, Nat.le_refl _, rfl, by simp, by simp, by rw [val_zeros, Nat.div_eq_of_lt HXN.out]; simp, by rw [val_zeros, Nat.div_eq_of_lt HXN.out]; simp, HQ1.out, HL1.out, HB1.out⟩
  case round =>
    obtain ⟨k, Q, R, hk, rfl, hql, hrl, hrv, hqv, hqr, hrr, hbr⟩ := hrel
    have HQL := Lib.hid hql; have HRL := Lib.hid hrl; have HRV := Lib.hid hrv; have HQV := Lib.hid hqv; have HQR := Lib.hid hqr; have HRR := Lib.hid hrr; have BR := Lib.hid hbr
    have hgqr := hqr.ltg; have hglr := hrr.ltg
    clear hql hrl hrv hqv hqr hrr hbr HQ1 HL1 HB1
    cases k with
    | zero =>
      have hq0 : val Q = x / y := by rw [HQV.out]; simp
      have hr0 : val R = x % y := by rw [HRV.out]; simp
      have TQ := Lib.hid (trim_any (some ⟨gq, 0, none⟩) X.length Q wr HQR.out.lies)
      have TR := Lib.hid (trim_any (some ⟨gl, 0, none⟩) (Y.length + 1) R wr HRR.out.lies)
      have NQ := Lib.hid (NatV.of_trim HQR.out.lies hq0).1
      have NR := Lib.hid (NatV.of_trim HRR.out.lies hr0).1
      have lq := trimL_length_le Q
      have lr := trimL_length_le R
      rw [HQL.out] at TQ lq
      rw [HRL.out] at TR lr
      clear hq0 hr0
      go_wp2_with fail
      refine TQ.out.mono ?_
      rintro e w3 ⟨rfl, rfl⟩
      go_wp2_with fail
      refine (clip_any _ _ X.length _ lq).mono ?_
      rintro e w3 ⟨rfl, rfl⟩
      go_wp2_with fail
      refine TR.out.mono ?_
      rintro e w3 ⟨rfl, rfl⟩
      go_wp2_with fail
      refine (clip_any _ _ (Y.length + 1) _ lr).mono ?_
      rintro e w3 ⟨rfl, rfl⟩
      go_wp2_with fail
      go_ret3
      exact ⟨_, _, rfl, NQ.out, NR.out, by rw [HGQ.out]; exact BR.out⟩
    | succ k =>
      have hkX : k / 32 < X.length := by omega
      obtain ⟨ba, oa, rfl, hca⟩ := HA.out.at_ (k / 32) hkX
      have hca' : wr.cell? ⟨ba, oa + k / 32, none⟩ = some (.int .u32 (X[k / 32] : Nat)) := (BR.out.cell (by rw [← HGQ.out]; exact World.block_lt_of_cell? w _ hca)).trans hca
      have hbar : ba < wr.heap.size := World.block_lt_of_cell? wr _ hca'
      have i1 : (k : Int) / 32 < (X.length : Int) := by omega
      obtain ⟨b0, hb0⟩ : ∃ b0, b0 = x / 2 ^ k % 2 := ⟨_, rfl⟩
      have eb : bits .and .u32 ((X[k / 32] : Int) / 2 ^ (k % 32)) 1 = (b0 : Int) := by
        have h1 : (X[k / 32] : Int) / 2 ^ (k % 32) = ((X[k / 32] / 2 ^ (k % 32) : Nat) : Int) := by simp
        have h2 : X[k / 32] / 2 ^ (k % 32) < 4294967296 := Nat.lt_of_le_of_lt (Nat.div_le_self _ _) (hXl.out _ (List.getElem_mem hkX))
        have h3 := u32_and_nat (X[k / 32] / 2 ^ (k % 32)) 1 h2 (by decide)
        rw [h1]
        rw [nat_mask1, bit_of hXl.out hkX, vx.out, ← hb0] at h3
        exact h3
      have hb01 : b0 ≤ 1 := by omega
      have HB0 := Lib.hid hb0
      have HDB := Lib.hid (div_bit x y k hy0)
      clear hca hb0
      generalize X[k / 32] = xk at *
      go_wp2_with fail
      obtain ⟨wo, rfl⟩ : ∃ wo : World, wo = wr := ⟨_, rfl⟩
      go_loopw [12, 69] (fun c i wr => ∃ (j : Nat) (R' : List Nat) (bt : Nat), j ≤ Y.length + 1 ∧ i = .int .i64 j ∧ c = .int .u32 bt ∧ bt ≤ 1 ∧ R'.length = Y.length + 1 ∧ val (R'.take j) + bt * B32 ^ j = 2 * val (R.take j) + b0 ∧ R'.drop j = R.drop j ∧ RowU wr gq X.length Q ∧ RowU wr gl (Y.length + 1) R' ∧ Below gq w wr) (fun _ i _ => Y.length + 1 - (intOf i).toNat)
      case atStart => exact ⟨0, R, b0, Nat.zero_le _, rfl, rfl, hb01, HRL.out, by simp [val], rfl, HQR.out, HRR.out, BR.out⟩
      case round =>
        obtain ⟨j, R', bt, hj, rfl, rfl, hbt, hrl', hv', hd', hqr', hrr', hbr'⟩ := hrel
        have HRL' := Lib.hid hrl'; have HV' := Lib.hid hv'; have HD' := Lib.hid hd'; have HQR' := Lib.hid hqr'; have HRR' := Lib.hid hrr'; have BR' := Lib.hid hbr'
        have hgqr' := hqr'.ltg; have hglr' := hrr'.ltg
        clear hrl' hv' hd' hqr' hrr' hbr' hca' hbar
        by_cases hjl : j < Y.length + 1
        · have hjR : j < R'.length := by rw [HRL'.out]; exact hjl
          have hjR0 : j < R.length := by rw [HRL.out]; exact hjl
          have hcr := HRR'.out.cell j hjR
          have hfr := HRR'.out.frozen j
          have hRR : R'[j] = R[j] := by
            have h1 := List.drop_eq_getElem_cons hjR
            have h2 := List.drop_eq_getElem_cons hjR0
            rw [HD'.out, h2] at h1; exact (List.cons.inj h1).1.symm
          have hrl4 : R'[j] < 4294967296 := HRR'.out.lt _ (List.getElem_mem hjR)
          obtain ⟨nv, hnv⟩ : ∃ nv, nv = R'[j] * 2 % 4294967296 + bt := ⟨_, rfl⟩
          have eo : bits .or .u32 ((R'[j] : Int) * 2 % 4294967296) (bt : Int) = (nv : Int) := by
            have h3 := u32_or_nat (R'[j] * 2 % 4294967296) bt (Nat.mod_lt _ (by decide)) (by omega)
            rw [nat_join 1 _ _ (by omega) (by omega), ← hnv] at h3
            rw [← h3]; simp
          have hnvl : nv < B32 := by rw [hnv, B32]; omega
          obtain ⟨b2, hb2⟩ : ∃ b2, b2 = R'[j] / 2147483648 := ⟨_, rfl⟩
          have eb2 : (R'[j] : Int) / 2147483648 = (b2 : Int) := by omega
          have hb21 : b2 ≤ 1 := by omega
          have hst := double_step hjR0 (by rw [HRL'.out, HRL.out]) HV'.out
          rw [← hRR, ← hnv, ← hb2] at hst
          have HST := Lib.hid hst
          have HR3 := Lib.hid (HRR'.out.set j nv hjR hnvl)
          have HD3 : Hid ((R'.set j nv).drop (j + 1) = R.drop (j + 1)) := by
            show (R'.set j nv).drop (j + 1) = R.drop (j + 1)
            rw [List.drop_set_of_lt (by omega)]
            have := congrArg (List.drop 1) HD'.out
            simpa [List.drop_drop] using this
          have ij : (j : Int) < (Y.length : Int) + 1 := by omega
          have ij0 : (0 : Int) ≤ (j : Int) := Int.natCast_nonneg _
          clear hst hnv hb2 hRR
          generalize R'[j] = rj at *
          clear hjR hjR0
          go_wp2_with fail
          go_region
          go_wp2_with fail
          go_roundw
          case rel => exact ⟨j + 1, _, b2, by omega, by go_num, rfl, hb21, by simp [HRL'.out], HST.out, HD3.out, HQR'.out.keep (by show (wr.setCell _ _).heap[gq]? = _; exact Below.heap_setCell _ _ _ _ (by simp; omega)), HR3.out.keep (by rfl), (BR'.out.setCell (by simp; omega) _).drew⟩
          case measure => simp [intOf]; omega
        · obtain rfl : j = Y.length + 1 := by omega
          have hrm := HRV.out
          have hrlt : val R < y := by rw [hrm]; exact Nat.mod_lt _ hy0
          have hv2 : val R' = 2 * val R + b0 := by
            have h1 := HV'.out
            rw [List.take_of_length_le (by rw [HRL'.out]; omega), List.take_of_length_le (by rw [HRL.out]; omega)] at h1
            have h2 : B32 ^ Y.length * B32 = B32 ^ (Y.length + 1) := (Nat.pow_succ _ _).symm
            have h3 := hHY.out
            have h4 : 2 * B32 ^ Y.length ≤ B32 ^ Y.length * B32 := by rw [Nat.mul_comm]; exact Nat.mul_le_mul_left _ (by decide)
            have h5 : bt = 0 := by
              rcases Nat.eq_zero_or_pos bt with h | h
              · exact h
              · have h6 : 1 * B32 ^ (Y.length + 1) ≤ bt * B32 ^ (Y.length + 1) := Nat.mul_le_mul_right _ h
                omega
            rw [h5] at h1; omega
          have hvb : val R' = 2 * (x / 2 ^ (k + 1) % y) + x / 2 ^ k % 2 := by rw [hv2, hrm, HB0.out]
          have hv2y : val R' < 2 * y := by omega
          have TR := trim_any (some ⟨gl, 0, none⟩) (Y.length + 1) R' wr HRR'.out.lies
          rw [HRL'.out] at TR
          have TR' := Lib.hid TR
          have NR := NatV.of_trim HRR'.out.lies (rfl : val R' = val R')
          have HC := Lib.hid (HCMP.out wr (some ⟨gl, 0, none⟩) (Y.length + 1) (val R') (by rw [← NR.2]; have := HRR'.out.lies.take (trimL R').length; rw [← trimL_prefix] at this; exact this) (HB.out.below (by rw [HGQ.out]; exact BR'.out)))
          have htl : Hid ((trimL R').length = (limbs (val R')).length) := by show (trimL R').length = _; rw [NR.2]
          have HVB := Lib.hid hvb
          clear TR NR hvb hv2 hrm hrlt
          go_wp2_with fail
          refine TR'.out.mono ?_
          rintro e w3 ⟨rfl, rfl⟩
          rw [htl.out]
          go_wp2_with fail
          refine HC.out.mono ?_
          rintro e w3 ⟨rfl, hb3⟩
          have HQ3 := Lib.hid (HQR'.out.below hb3 hgqr')
          have HR3 := Lib.hid (HRR'.out.below hb3 hglr')
          have HB3 := Lib.hid (BR'.out.trans (hb3.mono (by omega)))
          have hs3 := hb3.size
          clear hb3 TR' HC
          by_cases hge : y ≤ val R'
          · have hcm : (0 : Int) ≤ cmpN (val R') y := by
              simp only [cmpN]; rw [if_neg (by omega)]; split <;> omega
            have hq' : val Q = x / 2 ^ (k + 1) / y * 2 ^ (k + 1) := HQV.out
            have hkQ : k / 32 < Q.length := by rw [HQL.out]; exact hkX
            obtain ⟨s1, s2, s3⟩ := set_bit HQR.out.lt hkQ hq'
            have hdv : val R' / y = 1 := by
              rw [Nat.div_eq_iff hy0]; omega
            have hQn : Hid (val (Q.set (k / 32) (Q[k / 32] + 2 ^ (k % 32))) = x / 2 ^ k / y * 2 ^ k) := by
              show val (Q.set (k / 32) (Q[k / 32] + 2 ^ (k % 32))) = x / 2 ^ k / y * 2 ^ k
              rw [s3, hq', HDB.out.1, ← HVB.out, hdv, Nat.add_mul, Nat.pow_succ]
              rw [Nat.one_mul]; congr 1; ac_rfl
            have hRn : Hid (val R' - y = x / 2 ^ k % y) := by
              show val R' - y = x / 2 ^ k % y
              rw [HDB.out.2, ← HVB.out, Nat.mod_eq_sub_mod hge, Nat.mod_eq_of_lt (by omega)]
            generalize cmpN (val R') y = cm at *
            go_wp2_with fail
            have hne : ∀ p, b = some p → p.block ≠ gl := by
              intro p hp; have := hbw.out p hp; omega
            have HLS := less_any gl (Y.length + 1) R' b cb Y w3 HR3.out (HB.out.below (by rw [HGQ.out]; exact HB3.out)) hne (by rw [HRL'.out]; omega) (by rw [HYV.out]; exact hge) (by rw [HRL'.out]; omega)
            rw [HRL'.out] at HLS
            refine HLS.mono ?_
            rintro e w4 ⟨rfl, ⟨A', hal, hav, hra⟩, hap⟩
            rw [HYV.out, hRn.out] at hav
            have HQ4 := Lib.hid (HQ3.out.keep (hap.block gq (by omega) (by simp; omega)))
            have HAV := Lib.hid hav
            have HRA := Lib.hid hra
            have HAL := Lib.hid hal
            have HB4 := Lib.hid (HB3.out.trans (hap.below (by omega) (by simp; omega)))
            have hs4 := hap.size
            have hcq := HQ4.out.cell (k / 32) hkQ
            have hfq := HQ4.out.frozen (k / 32)
            have HQset := Lib.hid (HQ4.out.set (k / 32) _ hkQ s2)
            have hkb : (2 : Nat) ^ (k % 32) < 4294967296 := Nat.pow_lt_pow_right (a := 2) (n := 32) (by decide) (Nat.mod_lt _ (by decide))
            have hql4 : Q[k / 32] < 4294967296 := HQR.out.lt _ (List.getElem_mem hkQ)
            have hor := u32_or_nat (Q[k / 32]) (2 ^ (k % 32)) hql4 hkb
            rw [s1] at hor
            obtain ⟨nq, hnq⟩ : ∃ nq, nq = Q[k / 32] + 2 ^ (k % 32) := ⟨_, rfl⟩
            rw [← hnq] at HQset hQn s2
            have eor : bits .or .u32 (Q[k / 32] : Int) (2 ^ (k % 32) % 4294967296) = (nq : Int) := by
              have h1 : (2 : Int) ^ (k % 32) % 4294967296 = ((2 ^ (k % 32) : Nat) : Int) := by
                have e1 : (2 : Int) ^ (k % 32) = ((2 ^ (k % 32) : Nat) : Int) := by simp
                rw [e1]
                exact Int.emod_eq_of_lt (Int.natCast_nonneg _) (Int.ofNat_lt.2 hkb)
              rw [h1, hnq]; exact hor
            clear hal hav hra hap HLS hor s1 s2 s3 hq' hdv hge hnq
            generalize Q[k / 32] = qk at *
            clear hkQ
            go_wp2_with fail
            go_region
            go_wp2_with fail
            go_roundw
            case rel => exact ⟨k, Q.set (k / 32) nq, A', by omega, rfl, by simp [HQL.out], by rw [HAL.out], HAV.out, hQn.out, HQset.out.keep (by rfl), HRA.out.keep (by show (w4.setCell _ _).heap[gl]? = _; exact Below.heap_setCell _ _ _ _ (by simp; omega)), (HB4.out.setCell (by simp) _).drew⟩
            case measure => simp [intOf]
          · have hcm : Hid (cmpN (val R') y = -1) := by show cmpN (val R') y = -1; simp only [cmpN]; rw [if_pos (by omega)]
            rw [hcm.out]
            have hq' : val Q = x / 2 ^ k / y * 2 ^ k := by
              rw [HQV.out, HDB.out.1, ← HVB.out, Nat.div_eq_of_lt (show val R' < y by omega), Nat.pow_succ]
              rw [Nat.add_zero]; ac_rfl
            have hr' : val R' = x / 2 ^ k % y := by
              rw [HDB.out.2, ← HVB.out, Nat.mod_eq_of_lt (show val R' < y by omega)]
            have HQ' := Lib.hid hq'; have HR' := Lib.hid hr'
            clear hq' hr' hge
            go_wp2_with fail
            go_roundw
            case rel => exact ⟨k, Q, R', by omega, rfl, HQL.out, HRL'.out, HR'.out, HQ'.out, HQ3.out, HR3.out, HB3.out⟩
            case measure => simp [intOf]
end Go.Proofs.YtkaelmbgfcehhaaDoor
end

section
/- Package nat: Shl. -/
namespace Go.Proofs.YtkaelmbgfcehhaaDoor
open Go.RowKit
set_option linter.unusedVariables false

theorem shl_join (m s c : Nat) (hs : s ≤ 32) (hc : c < 2 ^ s) : m * 2 ^ s % 4294967296 ||| c = m * 2 ^ s % 4294967296 + c := by
  have h : (4294967296 : Nat) = 2 ^ s * 2 ^ (32 - s) := by rw [← Nat.pow_add, show s + (32 - s) = 32 by omega]
  rw [h, Nat.mul_comm m, Nat.mul_mod_mul_left]
  exact (Nat.two_pow_add_eq_or_of_lt hc _).symm
theorem shl_low (m s c : Nat) (hs : s ≤ 32) (hc : c < 2 ^ s) : m * 2 ^ s % 4294967296 + c < 4294967296 := by
  have h : (4294967296 : Nat) = 2 ^ s * 2 ^ (32 - s) := by rw [← Nat.pow_add, show s + (32 - s) = 32 by omega]
  have h1 : m * 2 ^ s % 4294967296 = 2 ^ s * (m % 2 ^ (32 - s)) := by rw [h, Nat.mul_comm m, Nat.mul_mod_mul_left]
  have h2 : m % 2 ^ (32 - s) + 1 ≤ 2 ^ (32 - s) := Nat.mod_lt _ (Nat.pow_pos (by decide))
  have h3 := Nat.mul_le_mul_left (2 ^ s) h2
  rw [← h, Nat.mul_add] at h3
  omega
theorem shl_step {X out : List Nat} {i cr kk : Nat} (h1 : i < X.length) (ho : out.length = kk / 32 + i) (hv : val out + cr * B32 ^ (kk / 32 + i) = val (X.take i) * 2 ^ kk) :
    val (out ++ [X[i] * 2 ^ (kk % 32) % 4294967296 + cr]) + X[i] * 2 ^ (kk % 32) / 4294967296 * B32 ^ (kk / 32 + (i + 1)) = val (X.take (i + 1)) * 2 ^ kk := by
  rw [List.take_succ_eq_append_getElem h1, val_append, val_append, ho]
  simp only [val, List.length_take, Nat.min_eq_left (Nat.le_of_lt h1), Nat.mul_zero, Nat.add_zero]
  rw [Nat.add_mul, ← hv]
  have e := Nat.div_add_mod (X[i] * 2 ^ (kk % 32)) B32
  have hk : B32 ^ (kk / 32) * 2 ^ (kk % 32) = 2 ^ kk := by
    rw [show B32 = 2 ^ 32 by decide, ← Nat.pow_mul, ← Nat.pow_add, Nat.div_add_mod]
  have e3 : B32 ^ i * X[i] * 2 ^ kk = B32 ^ (kk / 32 + i) * (X[i] * 2 ^ (kk % 32)) := by
    rw [← hk, Nat.pow_add]; ac_rfl
  rw [e3]
  change val out + B32 ^ (kk / 32 + i) * (X[i] * 2 ^ (kk % 32) % B32 + cr) + X[i] * 2 ^ (kk % 32) / B32 * B32 ^ (kk / 32 + (i + 1)) = _
  generalize X[i] * 2 ^ (kk % 32) = m at *
  generalize m / B32 = q at *
  generalize m % B32 = r at *
  rw [← Nat.add_assoc, Nat.pow_succ]
  generalize B32 ^ (kk / 32 + i) = P
  have e2 : P * (B32 * q) + P * r = P * m := by rw [← e, Nat.mul_add]
  simp only [Nat.mul_add]
  rw [show q * (P * B32) = P * (B32 * q) by ac_rfl, Nat.mul_comm cr]
  omega

set_option maxHeartbeats 4000000 in
theorem Shl_any (va : Value) (x kk : Nat) (w : World) (hx : NatV w va x) (h0 : 0 < x) (hk : kk ≤ 8192) (hf : (limbs (x * 2 ^ kk)).length ≤ 256) :
    Calls Tryd.prog 97 #[va, .int .i64 kk] w fun e w' => ∃ v, e = .returned (.tuple #[v, .int .i64 0]) ∧ NatV w' v (x * 2 ^ kk) ∧ Below w.heap.size w w' := by
  obtain ⟨a, ca, rfl, ha⟩ := hx
  have hxy : x < B32 ^ 256 := by
    refine Nat.lt_of_le_of_lt ?_ (lt_of_limbs_length hf)
    exact Nat.le_mul_of_pos_right _ (Nat.pow_pos (by decide))
  have hX : (limbs x).length ≤ 256 := limbs_length_le hxy
  have V1 := Lib.hid (valid_any a ca x w ha hX)
  have hXn : 0 < (limbs x).length := by
    rcases Nat.eq_zero_or_pos (limbs x).length with h | h
    · have := limbs_eq_nil.1 (List.eq_nil_of_length_eq_zero h); omega
    · exact h
  have h1 := ha.le
  have HA := Lib.hid ha
  have HF := Lib.hid hf
  have vx := Lib.hid (val_limbs x)
  clear ha hf hxy
  generalize limbs x = X at *
  have hX0 : ((X.length : Int) == 0) = false := beq_eq_false_iff_ne.2 (by omega)
  go_enter Tryd.func97, Tryd.ntmps97
  go_wp2_with fail
  refine V1.out.mono ?_
  rintro e w1 ⟨rfl, rfl⟩
  clear V1
  go_wp2_with (at_make; refine wpList_make1 _ rfl _ _ rfl (kk / 32) (kk / 32 + X.length + 1) _ _ rfl rfl (by simp) (by simp) (by omega) (by omega) ?_; intro w1 hrow hb0)
  have hown0 := hrow.own (Nat.le_refl _)
  rw [List.length_replicate] at hown0
  have HO0 := Lib.hid hown0
  have HB0 := Lib.hid hb0
  clear hrow hb0 hown0
  go_wp2_with fail
  go_loopw [6, 7, 36] (fun o c i wr => ∃ (k : Nat) (out : List Nat) (cr : Nat), k ≤ X.length ∧ i = .int .i64 k ∧ c = .int .u32 cr ∧ out.length = kk / 32 + k ∧ cr < 2 ^ (kk % 32) ∧ val out + cr * B32 ^ (kk / 32 + k) = val (X.take k) * 2 ^ kk ∧ OwnU wr w.heap.size o out ∧ Below w.heap.size w wr) (fun _ _ i _ => X.length - (intOf i).toNat)
  case atStart => exact ⟨0, _, 0, Nat.zero_le _, rfl, rfl, by simp, Nat.pow_pos (by decide), by simp [val, val_zeros], HO0.out, HB0.out⟩
  case round =>
    obtain ⟨k, out, cr, hk', rfl, rfl, hol, hcr, hv, hown, hbw⟩ := hrel
    have HV := Lib.hid hv; have HO := Lib.hid hown; have BW := Lib.hid hbw; have HOL := Lib.hid hol
    have hBs := hbw.size
    clear hv hown hbw hol HO0 HB0
    have hcr32 : cr < 2147483648 := Nat.lt_of_lt_of_le hcr (Nat.pow_le_pow_right (n := 2) (j := 31) (by decide) (by omega))
    by_cases hlt : k < X.length
    · obtain ⟨bp, op, rfl, hcp⟩ := HA.out.at_ k hlt
      have hcp' := (BW.out.cell (World.block_lt_of_cell? w _ hcp)).trans hcp
      have hxk : X[k] < 4294967296 := HA.out.lt _ (List.getElem_mem hlt)
      clear hcp
      have hp : 2 ^ (kk % 32) ≤ 2147483648 := (Nat.pow_le_pow_right (n := 2) (j := 31) (by decide) (by omega))
      have hml : X[k] * 2 ^ (kk % 32) < 18446744073709551616 :=
        Nat.lt_of_le_of_lt (Nat.mul_le_mul (Nat.le_of_lt hxk) hp) (by decide)
      have hc2l : X[k] * 2 ^ (kk % 32) / 4294967296 < 2 ^ (kk % 32) := by
        rw [Nat.div_lt_iff_lt_mul (by decide), Nat.mul_comm]
        exact (Nat.mul_lt_mul_left (Nat.pow_pos (by decide))).2 hxk
      obtain ⟨y, hy⟩ : ∃ y : Nat, y = X[k] * 2 ^ (kk % 32) % 4294967296 + cr := ⟨_, rfl⟩
      obtain ⟨c2, hc2⟩ : ∃ c2 : Nat, c2 = X[k] * 2 ^ (kk % 32) / 4294967296 := ⟨_, rfl⟩
      obtain ⟨m, hm⟩ : ∃ m : Nat, m = X[k] * 2 ^ (kk % 32) := ⟨_, rfl⟩
      have HS := shl_step hlt HOL.out HV.out
      rw [← hy, ← hc2] at HS
      have HS := Lib.hid HS
      have hyl : y < B32 := by rw [hy]; exact shl_low _ _ _ (by omega) hcr
      have em : IntKind.wrap .u64 (((X[k] : Nat) : Int) * 2 ^ (kk % 32)) = (m : Int) := by
        have e1 : ((X[k] : Nat) : Int) * 2 ^ (kk % 32) = (m : Int) := by rw [hm]; simp
        rw [← hm] at hml
        rw [e1, IntKind.wrap_u64]; omega
      have eo : bits .or .u32 ((m : Int) % 4294967296) (cr : Int) = (y : Int) := by
        have h3 := u32_or_nat (m % 4294967296) cr (Nat.mod_lt _ (by decide)) (by omega)
        rw [hm, shl_join _ _ _ (by omega) hcr, ← hy, ← hm] at h3
        rw [← h3]; simp
      have ec : (m : Int) / 4294967296 = (c2 : Int) := by rw [hc2, hm]; simp
      rw [← hc2] at hc2l
      have hc2s : c2 < 4294967296 := by omega
      have Hyl := Lib.hid hyl; have Hc2l := Lib.hid hc2l
      clear hy hc2 hm hyl hc2l hml hp
      generalize X[k] = xk at *
      go_wp2_with (at_builtin; refine wpList_app1 _ rfl _ _ rfl w.heap.size _ out rfl (OwnU.alloc HO.out _) wr.heap.size y rfl (by simp [go_sem]) Hyl.out (by simp; omega) (by rw [HOL.out]; omega) ?_; intro v1 w1 hown1 hgr1)
      have HO1 := Lib.hid hown1
      have HB1 := Lib.hid ((BW.out.alloc hBs _).grown hgr1 (by simp; omega) (fun x hx => (HO.out.own.lt x hx).1))
      clear hown1 hgr1
      go_wp2_with fail
      go_roundw
      case rel => exact ⟨k + 1, out ++ [y], c2, by omega, by go_num, rfl, by simp [HOL.out]; omega, Hc2l.out, HS.out, HO1.out, HB1.out⟩
      case measure => simp [intOf]; omega
    · obtain rfl : k = X.length := by omega
      go_wp2_with (at_builtin; refine wpList_app1 _ rfl _ _ rfl w.heap.size _ out rfl (OwnU.alloc HO.out _) wr.heap.size cr rfl (by simp [go_sem]) (by unfold B32; omega) (by simp; omega) (by rw [HOL.out]; omega) ?_; intro v1 w1 hown1 hgr1)
      have hvs : val (out ++ [cr]) = x * 2 ^ kk := by
        rw [val_append, HOL.out]
        have := HV.out
        rw [List.take_length] at this
        simp only [val, Nat.mul_zero, Nat.add_zero]
        rw [← vx.out, ← this]; rw [Nat.mul_comm (B32 ^ _)]
      have htr : trimL (out ++ [cr]) = limbs (x * 2 ^ kk) := by rw [trimL_limbs _ hown1.lt, hvs]
      have HB1 := Lib.hid ((BW.out.alloc hBs _).grown hgr1 (by simp; omega) (fun x hx => (HO.out.own.lt x hx).1))
      obtain ⟨a1, cap1, rfl, hlies⟩ := hown1.lies
      have HT := Lib.hid (told_any a1 cap1 _ w1 hlies (by rw [htr]; exact HF.out))
      have HLf : Hid (Lies w1 a1 (limbs (x * 2 ^ kk)).length (limbs (x * 2 ^ kk))) := by
        have h1 := (hlies.take (trimL (out ++ [cr])).length)
        rw [← trimL_prefix] at h1
        rw [← htr]; exact h1.clip
      have HTR := Lib.hid htr
      clear hown1 hgr1 hvs hlies htr
      go_wp2_with fail
      refine HT.out.mono ?_
      rintro e w2 ⟨rfl, rfl⟩
      rw [HTR.out]
      go_wp2_with fail
      go_ret2
      exact ⟨_, rfl, ⟨_, _, rfl, HLf.out⟩, HB1.out⟩
end Go.Proofs.YtkaelmbgfcehhaaDoor
end

section
/- Package nat: Parse. -/
namespace Go.Proofs.YtkaelmbgfcehhaaDoor
open Go.RowKit
set_option linter.unusedVariables false

/-- what digits write -/
def digVal (l : List UInt8) : Nat := l.foldl (fun n c => 10 * n + (c.toNat - 48)) 0
def Digits (l : List UInt8) : Prop := ∀ c ∈ l, 48 ≤ c.toNat ∧ c.toNat ≤ 57
theorem digVal_snoc (l : List UInt8) (c : UInt8) : digVal (l ++ [c]) = 10 * digVal l + (c.toNat - 48) := by simp [digVal]
theorem digVal_append (l m : List UInt8) : digVal l ≤ digVal (l ++ m) := by
  induction m generalizing l with
  | nil => simp
  | cons c m ih =>
    have := ih (l ++ [c])
    rw [digVal_snoc] at this
    rw [show l ++ c :: m = l ++ [c] ++ m by simp]
    omega
theorem digVal_take (l : List UInt8) (k : Nat) : digVal (l.take k) ≤ digVal l := by
  have := digVal_append (l.take k) (l.drop k)
  rwa [List.take_append_drop] at this

/-- bytes that lie in a row -/
def LiesB (w : World) (g off : Nat) (L : List UInt8) : Prop := ∀ i (h : i < L.length), w.cell? ⟨g, off + i, none⟩ = some (.int .u8 (L[i].toNat : Nat))
theorem LiesB.below {w w' : World} {g off B : Nat} {L : List UInt8} (h : LiesB w g off L) (hb : Below B w w') (hg : g < B) : LiesB w' g off L := fun i hi => by
  have e := h i hi
  unfold World.cell? at e ⊢
  rw [hb.block g hg]; exact e

theorem undStr : Tryd.prog.underlying 9 = some .string := by kernel_rfl
theorem undBytes : Tryd.prog.underlying 44 = some (.slice 5) := by kernel_rfl
theorem undByte : Tryd.prog.underlying 5 = some (.int .u8) := by kernel_rfl

/-- a string as bytes -/
theorem wpList_bytes (w : World) {ops : Array Oper} {rest : List Oper} {o : Oper} {a : Act} {Q : Exit → Act → World → Prop} (hg : o.guard = none) (x : Operand) (ho : o.op = .convert 9 44 x) (s : ByteArray) (hx : a.eval x = .string s)
    (hK : ∀ cap w', LiesB w' w.heap.size 0 s.data.toList → Below w.heap.size w w' → w'.heap.size = w.heap.size + 1 → wpList Tryd.prog ops Q rest (a.put o.dst (.slice (some ⟨w.heap.size, 0, none⟩) s.size cap)) w') : wpList Tryd.prog ops Q (o :: rest) a w := by
  have hr := Lib.run_convert_string_bytes (P := Tryd.prog) w 9 44 5 s undStr undBytes undByte
  refine wpList_plain hg fun K' hK' => ?_
  unfold Oper.wp
  simp [execOp, ho, hx, hr, Result.andThen]
  refine hK' _ _ (hK _ _ ?_ (Go.Joins.below_bytesWorld _ _ _ _ (Nat.le_refl _)) (Lib.bytesWorld_size _ _ _))
  intro i hi
  have := Lib.bytesWorld_cell w 5 s i (by simpa using hi)
  rw [Nat.zero_add, this]
  have h2 : i < s.data.size := by simpa using hi
  simp [List.getD, Array.getElem?_eq_getElem h2]

theorem OwnU.row {w : World} {base n cap : Nat} {a : Option Addr} {L : List Nat} (h : OwnU w base (.slice a n cap) L) (hne : 0 < L.length) : ∃ g, a = some ⟨g, 0, none⟩ ∧ n = L.length ∧ base ≤ g ∧ RowU w g cap L := by
  rcases h.at_ with ⟨_, rfl⟩ | ⟨g, cap', cur, e, hb, hg, hl, hm, hs, ht⟩
  · simp at hne
  · cases e
    exact ⟨g, rfl, rfl, hb, h.lt, hl, hm, cur, hg, hs, ht⟩
theorem OwnU.keep {w w' : World} {base B : Nat} {v : Value} {L : List Nat} (h : OwnU w base v L) (hb : Below B w w') (hB : w.heap.size ≤ B) : OwnU w' base v L := by
  rcases h.at_ with ⟨rfl, rfl⟩ | ⟨g, cap, cur, rfl, hbg, hg, hl, hm, hs, ht⟩
  · exact OwnU.nil _ _
  · exact (RowU.keep ⟨h.lt, hl, hm, cur, hg, hs, ht⟩ (hb.block g (Nat.lt_of_lt_of_le (lt_of_heap hg) hB))).own hbg

theorem parse_step {X X' : List Nat} {j cr : Nat} (hj : j < X.length) (hl : X'.length = X.length) (hd : X'.drop j = X.drop j) {d : Nat} (hv : val (X'.take j) + cr * B32 ^ j = 10 * val (X.take j) + d) :
    val ((X'.set j ((cr + X[j] * 10) % B32)).take (j + 1)) + (cr + X[j] * 10) / B32 * B32 ^ (j + 1) = 10 * val (X.take (j + 1)) + d := by
  have hj' : j < X'.length := by omega
  have e1 : (X'.set j ((cr + X[j] * 10) % B32)).take (j + 1) = X'.take j ++ [(cr + X[j] * 10) % B32] := by
    rw [List.take_succ_eq_append_getElem (by simpa using hj')]
    simp [List.take_set_of_le]
  rw [e1, List.take_succ_eq_append_getElem hj, val_append, val_append]
  simp only [val, List.length_take, Nat.min_eq_left (Nat.le_of_lt hj), Nat.min_eq_left (Nat.le_of_lt hj'), Nat.mul_zero, Nat.add_zero]
  have e := Nat.div_add_mod (cr + X[j] * 10) B32
  generalize (cr + X[j] * 10) / B32 = q at *
  generalize (cr + X[j] * 10) % B32 = r at *
  rw [Nat.pow_succ]
  generalize B32 ^ j = P at *
  have e2 : P * (B32 * q) + P * r = P * cr + 10 * (P * X[j]) := by
    rw [← Nat.mul_add, e, Nat.mul_add]; congr 1; ac_rfl
  rw [show q * (P * B32) = P * (B32 * q) by ac_rfl]
  rw [Nat.mul_comm cr] at hv
  omega

theorem parse_done0 {n n' : Nat} {X' : List Nat} (hX : ∀ x ∈ X', x < B32) (hl : X'.length = (limbs n).length) (hv : val X' = n') (hn : n ≤ n') : X' = limbs n' := by
  have h1 := trimL_limbs X' hX
  rw [hv] at h1
  have h2 : (limbs n).length ≤ (limbs n').length := by
    rcases Nat.lt_or_ge (limbs n').length (limbs n).length with h | h
    · have := limbs_len_lt h; omega
    · exact h
  have h3 := trimL_prefix X'
  rw [h1] at h3
  rw [h3, List.take_of_length_le (by omega)]
theorem parse_done1 {n' cr : Nat} {X' : List Nat} (hX : ∀ x ∈ X', x < B32) (hc : cr ≠ 0) (hcl : cr < B32) (hv : val X' + cr * B32 ^ X'.length = n') : X' ++ [cr] = limbs n' := by
  have h1 := trimL_snoc_pos cr hc X'
  rw [← h1, trimL_limbs _ (by intro x hx; rcases List.mem_append.1 hx with h | h; exact hX x h; simp at h; omega), val_append]
  congr 1
  simp only [val, Nat.mul_zero, Nat.add_zero]
  rw [← hv, Nat.mul_comm cr]

set_option maxRecDepth 100000 in
set_option maxHeartbeats 4000000 in
theorem Parse_any (s : ByteArray) (w : World) (hn : s.data.toList ≠ []) (hd : Digits s.data.toList) (hf : (limbs (digVal s.data.toList)).length ≤ 256) (hl : s.data.toList.length ≤ 1000000) :
    Calls Tryd.prog 65 #[.string s] w fun e w' => ∃ v, e = .returned (.tuple #[v, .int .i64 0]) ∧ NatV w' v (digVal s.data.toList) ∧ Below w.heap.size w w' := by
  have hne : s.toList.isEmpty = false := by
    rw [ByteArray.toList_eq]
    simpa using hn
  have hsz : s.size = s.data.toList.length := by simp
  generalize hLe : s.data.toList = L at *
  have HLe := Lib.hid hLe
  have HD := Lib.hid hd
  have HF := Lib.hid hf
  clear hd hf hn hLe
  go_enter Tryd.func65, Tryd.ntmps65
  go_wp2_with (refine wpList_bytes _ rfl _ rfl s rfl ?_; rw [HLe.out, hsz]; intro cap1 w1 hl1 hb1 hs1)
  generalize hg1 : w.heap.size = g1 at *
  have HG1 := Lib.hid hg1
  have HL1 := Lib.hid hl1
  have HB1 := Lib.hid hb1
  clear hg1 hl1 hb1
  go_wp2_with fail
  go_loop [16] (fun i => ∃ k : Nat, k ≤ L.length ∧ i = .int .i64 k) (fun i => L.length - (intOf i).toNat)
  case atStart => exact ⟨0, Nat.zero_le _, rfl⟩
  case round =>
    obtain ⟨k, hk, rfl⟩ := hrel
    by_cases hlt : k < L.length
    · have hc := HL1.out k hlt
      rw [Nat.zero_add] at hc
      have hdd := HD.out _ (List.getElem_mem hlt)
      generalize L[k].toNat = c at *
      go_wp2_with fail
      go_round
      case rel => exact ⟨k + 1, by omega, by go_num⟩
      case measure => simp [intOf]; omega
    · obtain rfl : k = L.length := by omega
      go_wp2_with (refine wpList_bytes _ rfl _ rfl s rfl ?_; rw [HLe.out, hsz]; intro cap2 w2 hl2 hb2 hs2)
      have HB2 := Lib.hid (HB1.out.trans (hb2.mono (by omega)))
      rw [hs1] at hl2 hs2
      have HL2 := Lib.hid hl2
      have hg2 : g1 + 1 < w2.heap.size := by omega
      clear hl2 hb2 HL1 HB1
      go_wp2_with fail
      go_loopw [4, 30] (fun o i wr => ∃ k : Nat, k ≤ L.length ∧ i = .int .i64 k ∧ OwnU wr w2.heap.size o (limbs (digVal (L.take k))) ∧ Below w2.heap.size w2 wr) (fun _ i _ => L.length - (intOf i).toNat)
      case atStart => exact ⟨0, Nat.zero_le _, rfl, by rw [show limbs (digVal (L.take 0)) = [] by simp [digVal, limbs_zero]]; exact OwnU.nil _ _, Below.refl _ _⟩
      case round =>
        obtain ⟨k, hk, rfl, hown, hbw⟩ := hrel
        have BW := Lib.hid hbw
        have hBs := hbw.size
        clear hbw
        have hsub := digVal_take L k
        have hlen0 : (limbs (digVal (L.take k))).length ≤ 256 := limbs_length_le (Nat.lt_of_le_of_lt hsub (lt_of_limbs_length HF.out))
        obtain ⟨a, cap, rfl, hlies⟩ := hown.lies
        by_cases hlt : k < L.length
        · have hc := (HL2.out.below BW.out hg2) k hlt
          rw [Nat.zero_add] at hc
          have hdd := HD.out _ (List.getElem_mem hlt)
          have hsub1 := digVal_take L (k + 1)
          rw [List.take_succ_eq_append_getElem hlt, digVal_snoc] at hsub1
          have htk : Hid (digVal (L.take (k + 1)) = 10 * digVal (L.take k) + (L[k].toNat - 48)) := by
            show digVal (L.take (k + 1)) = _
            rw [List.take_succ_eq_append_getElem hlt, digVal_snoc]
          have hlen1 : (limbs (10 * digVal (L.take k) + (L[k].toNat - 48))).length ≤ 256 := limbs_length_le (Nat.lt_of_le_of_lt hsub1 (lt_of_limbs_length HF.out))
          have hvl := val_limbs (digVal (L.take k))
          have HVL := Lib.hid hvl
          have HO := Lib.hid hown
          have HLEN1 := Lib.hid hlen1
          clear hsub hsub1 hvl hown hlies hlen1
          generalize L[k].toNat = c at *
          generalize digVal (L.take k) = n at *
          generalize hXe : limbs n = X at *
          have HXE := Lib.hid hXe
          clear hXe
          obtain ⟨d, hd⟩ : ∃ d, d = c - 48 := ⟨_, rfl⟩
          rw [← hd] at htk HLEN1
          have ed : IntKind.wrap .u8 ((c : Int) - 48) = (d : Int) := by rw [IntKind.wrap_u8]; omega
          have ed2 : ((c : Int) - 48) % 256 = (d : Int) := by omega
          have hd9 : d ≤ 9 := by omega
          clear hd
          go_wp2_with fail
          clear hc hdd ed ed2
          obtain ⟨wo, rfl⟩ : ∃ wo : World, wo = wr := ⟨_, rfl⟩
          go_loopw [9, 39] (fun c i wr => ∃ (j : Nat) (X' : List Nat) (cr : Nat), j ≤ X.length ∧ i = .int .i64 j ∧ c = .int .u64 cr ∧ cr ≤ 9 ∧ X'.length = X.length ∧ val (X'.take j) + cr * B32 ^ j = 10 * val (X.take j) + d ∧ X'.drop j = X.drop j ∧ OwnU wr w2.heap.size (.slice a X.length cap) X' ∧ Below w2.heap.size w2 wr) (fun _ i _ => X.length - (intOf i).toNat)
          case atStart => exact ⟨0, X, d, Nat.zero_le _, rfl, rfl, hd9, rfl, by simp [val], rfl, HO.out, BW.out⟩
          case round =>
            obtain ⟨j, X', cr, hj, rfl, rfl, hcr, hxl, hv, hdr, hown', hbw'⟩ := hrel
            have HV := Lib.hid hv; have HXL := Lib.hid hxl; have HDR := Lib.hid hdr; have HO' := Lib.hid hown'; have BW' := Lib.hid hbw'
            have hBs' := hbw'.size
            clear hv hxl hdr hbw'
            by_cases hjl : j < X.length
            · have hjX : j < X'.length := by rw [HXL.out]; exact hjl
              obtain ⟨gx, rfl, _, hgb, hrow⟩ := hown'.row (by omega)
              have hxj : X'[j] = X[j] := by
                have h1 := List.drop_eq_getElem_cons hjX
                have h2 := List.drop_eq_getElem_cons hjl
                rw [HDR.out, h2] at h1; exact (List.cons.inj h1).1.symm
              have hcx := hrow.cell j hjX
              have hfx := hrow.frozen j
              have hltg := hrow.ltg
              have hxl4 : X'[j] < 4294967296 := hrow.lt _ (List.getElem_mem hjX)
              obtain ⟨y, hy⟩ : ∃ y, y = (cr + X[j] * 10) % B32 := ⟨_, rfl⟩
              obtain ⟨c2, hc2⟩ : ∃ c2, c2 = (cr + X[j] * 10) / B32 := ⟨_, rfl⟩
              have HST := parse_step hjl HXL.out HDR.out HV.out
              rw [← hy, ← hc2] at HST
              have HST := Lib.hid HST
              have hyl : y < B32 := by rw [hy]; exact Nat.mod_lt _ (by decide)
              have ey : ((cr : Int) + X'[j] * 10) % 4294967296 = (y : Int) := by rw [hy, hxj, B32]; omega
              have ec : ((cr : Int) + X'[j] * 10) / 4294967296 = (c2 : Int) := by rw [hc2, hxj, B32]; omega
              have hc29 : c2 ≤ 9 := by rw [hc2, ← hxj, B32]; omega
              have HRS := Lib.hid (hrow.set j y hjX hyl)
              have HDS : Hid ((X'.set j y).drop (j + 1) = X.drop (j + 1)) := by
                show (X'.set j y).drop (j + 1) = X.drop (j + 1)
                rw [List.drop_set_of_lt (by omega)]
                have := congrArg (List.drop 1) HDR.out
                simpa [List.drop_drop] using this
              have HYL := Lib.hid hyl
              clear hy hc2 hxj hyl hrow hown'
              generalize X'[j] = xj at *
              clear hjX
              go_wp2_with fail
              go_roundw
              case rel => exact ⟨j + 1, X'.set j y, c2, by omega, by go_num, rfl, hc29, by simp [HXL.out], HST.out, HDS.out, by have h5 := HRS.out.own hgb; rw [List.length_set, HXL.out] at h5; exact h5, BW'.out.setCell hgb _⟩
              case measure => simp [intOf]; omega
            · obtain rfl : j = X.length := by omega
              have hv' := HV.out
              rw [List.take_length, List.take_of_length_le (by rw [HXL.out]; exact Nat.le_refl _), HVL.out] at hv'
              have hlt' := hown'.lt
              by_cases hc0 : cr = 0
              · subst hc0
                have hX' : X' = limbs (10 * n + d) := parse_done0 hlt' (by rw [HXE.out]; exact HXL.out) (by rw [← hv']; simp) (by omega)
                have hown2 := hown'
                rw [hX', ← htk.out] at hown2
                have HO2 := Lib.hid hown2
                clear hv' hlt' hX' hown' hown2
                go_wp2_with fail
                go_roundw
                case rel => exact ⟨k + 1, by omega, by go_num, HO2.out, BW'.out⟩
                case measure => simp [intOf]; omega
              · have hX' : X' ++ [cr] = limbs (10 * n + d) := parse_done1 hlt' hc0 (by unfold B32; omega) (by rw [HXL.out]; exact hv')
                have hcr0 : 0 < cr := by omega
                have hcr1 : (cr : Int) % 4294967296 = cr := by omega
                have HO' := Lib.hid hown'
                have HX' := Lib.hid hX'
                have hxl : X'.length = X.length := HXL.out
                have hll : X.length + 1 ≤ 256 := by
                  have := congrArg List.length hX'
                  simp at this
                  have := HLEN1.out
                  omega
                clear hv' hlt' hX' hown' hc0
                have hdl2 := HLEN1.out
                rw [← htk.out] at hdl2
                go_wp2_with (
                  at_builtin
                  refine wpList_app1 _ rfl _ _ rfl w2.heap.size _ X' rfl (OwnU.alloc HO'.out _) wr.heap.size cr rfl (by simp [go_sem]) (by unfold B32; omega) (by simp; omega) (by omega) ?_
                  intro v1 w3 hown1 hgr1
                  rw [HX'.out, ← htk.out] at hown1
                  have HO1 := Lib.hid hown1
                  have HB1 := Lib.hid ((BW'.out.alloc hBs' _).grown hgr1 (by simp; omega) (fun x hx => (HO'.out.own.lt x hx).1))
                  obtain ⟨a1, cap1, rfl, hlies1⟩ := hown1.lies
                  clear hown1 hgr1 hlies1
                  generalize hZ : limbs (digVal (L.take (k + 1))) = Z at *
                  have HZ := Lib.hid hZ
                  clear hZ)
                go_roundw
                case rel => exact ⟨k + 1, by omega, by go_num, by rw [HZ.out]; exact HO1.out, HB1.out⟩
                case measure => simp [intOf]; omega
        · obtain rfl : k = L.length := by omega
          rw [List.take_length] at *
          have HL := Lib.hid hlies
          have hle := hlies.le
          clear hlies hown hsub
          go_wp2_with fail
          refine (clip_any _ _ cap _ hle).mono ?_
          rintro e w3 ⟨rfl, rfl⟩
          go_wp2_with fail
          go_ret2
          exact ⟨_, rfl, ⟨_, _, rfl, HL.out.clip⟩, by rw [HG1.out]; exact HB2.out.trans (BW.out.mono (by omega))⟩
end Go.Proofs.YtkaelmbgfcehhaaDoor
end

section
/- Rows of bytes that a call has made itself; Reverse; string(b). -/
namespace Go.Proofs.YtkaelmbgfcehhaaDoor
open Go.RowKit
set_option linter.unusedVariables false

/-- words as cells -/
def cellsB (L : List Nat) : List Value := L.map fun n : Nat => Value.int .u8 (n : Int)

/-- v is a row of the call's own (from block base on) that holds these words -/
structure OwnB (w : World) (base : Nat) (v : Value) (L : List Nat) : Prop where
  lt : ∀ x ∈ L, x < 256
  own : w.ownsRow base 5 1 v L.length (cellsB L)

theorem infoB : (Tryd.prog.info? 5).map (fun i => (i.zero, i.size, i.bytes)) = some (some (.int .u8 0), 1, 1) := by kernel_rfl
theorem undB : Tryd.prog.underlying 44 = some (.slice 5) := by kernel_rfl

theorem cellsB_length (L : List Nat) : (cellsB L).length = L.length := by simp [cellsB]

theorem OwnB.nil (w : World) (base : Nat) : OwnB w base (.slice none 0 0) [] := ⟨by simp, World.ownsRow_nil w base _ _⟩

/-- where it lies -/
theorem OwnB.at_ {w : World} {base : Nat} {v : Value} {L : List Nat} (h : OwnB w base v L) :
    (v = .slice none 0 0 ∧ L = []) ∨ ∃ g cap cur, v = .slice (some ⟨g, 0, none⟩) L.length cap ∧ base ≤ g ∧ w.heap[g]? = some (.cells cur 5 (0, 0)) ∧ L.length ≤ cap ∧ cap ≤ 9223372036854775807 ∧ cur.size = cap ∧ cur.toList.take L.length = cellsB L := by
  obtain ⟨h1, h2⟩ := h
  obtain ⟨h3, h4⟩ := h2
  rcases h4 with ⟨rfl, hn⟩ | ⟨g, cap, cur, rfl, hb, hg, hl, hm, hs, ht⟩
  · exact .inl ⟨rfl, List.eq_nil_of_length_eq_zero hn⟩
  · exact .inr ⟨g, cap, cur, rfl, hb, hg, hl, by simpa [maxLen] using hm, by simpa using hs, by simpa using ht⟩

theorem cur_getB {cur : Array Value} {L : List Nat} (ht : cur.toList.take L.length = cellsB L) (i : Nat) (h : i < L.length) : cur[i]? = some (.int .u8 (L[i] : Nat)) := by
  have e : (cur.toList.take L.length)[i]? = (cellsB L)[i]? := by rw [ht]
  rw [List.getElem?_take_of_lt h] at e
  simpa [cellsB, h] using e

/-- a row that is not nil, as a block -/
structure RowB (w : World) (g cap : Nat) (L : List Nat) : Prop where
  lt : ∀ x ∈ L, x < 256
  le : L.length ≤ cap
  max : cap ≤ 9223372036854775807
  row : ∃ cur, w.heap[g]? = some (.cells cur 5 (0, 0)) ∧ cur.size = cap ∧ cur.toList.take L.length = cellsB L

theorem RowB.ltg {w : World} {g cap : Nat} {L : List Nat} (h : RowB w g cap L) : g < w.heap.size := by
  obtain ⟨cur, hg, hs, ht⟩ := h.row
  exact lt_of_heap hg
theorem RowB.cell {w : World} {g cap : Nat} {L : List Nat} (h : RowB w g cap L) (i : Nat) (hi : i < L.length) : w.cell? ⟨g, i, none⟩ = some (.int .u8 (L[i] : Nat)) := by
  obtain ⟨cur, hg, hs, ht⟩ := h.row
  simp [World.cell?, hg, cur_getB ht i hi]
theorem RowB.frozen {w : World} {g cap : Nat} {L : List Nat} (h : RowB w g cap L) (i : Nat) : w.frozen? ⟨g, i, none⟩ = false := by
  obtain ⟨cur, hg, hs, ht⟩ := h.row
  simp [World.frozen?, hg]
theorem RowB.keep {w w' : World} {g cap : Nat} {L : List Nat} (h : RowB w g cap L) (hk : w'.heap[g]? = w.heap[g]?) : RowB w' g cap L := by
  obtain ⟨cur, hg, hs, ht⟩ := h.row
  exact ⟨h.lt, h.le, h.max, cur, hk.trans hg, hs, ht⟩
theorem RowB.below {w w' : World} {g cap B : Nat} {L : List Nat} (h : RowB w g cap L) (hb : Below B w w') (hB : g < B) : RowB w' g cap L := h.keep (hb.block g hB)
theorem RowB.own {w : World} {g cap base : Nat} {L : List Nat} (h : RowB w g cap L) (hb : base ≤ g) : OwnB w base (.slice (some ⟨g, 0, none⟩) L.length cap) L := by
  obtain ⟨cur, hg, hs, ht⟩ := h.row
  exact ⟨h.lt, by simp [cellsB_length], .inr ⟨g, cap, cur, rfl, hb, hg, h.le, by simpa [maxLen] using h.max, by simpa using hs, by simpa using ht⟩⟩
theorem RowB.take {w : World} {g cap : Nat} {L : List Nat} (h : RowB w g cap L) (k : Nat) : RowB w g cap (L.take k) := by
  obtain ⟨cur, hg, hs, ht⟩ := h.row
  refine ⟨fun x hx => h.lt x (List.mem_of_mem_take hx), by have := h.le; simp; omega, h.max, cur, hg, hs, ?_⟩
  rw [cellsB, List.map_take, ← cellsB, ← ht, List.take_take, List.length_take]
theorem RowB.set {w : World} {g cap : Nat} {L : List Nat} (h : RowB w g cap L) (i y : Nat) (hi : i < L.length) (hy : y < 256) : RowB (w.setCell ⟨g, i, none⟩ (.int .u8 (y : Nat))) g cap (L.set i y) := by
  obtain ⟨cur, hg, hs, ht⟩ := h.row
  refine ⟨fun x hx => ?_, by simpa using h.le, h.max, _, setCell_heap_same hg i _, by simpa using hs, ?_⟩
  · rcases List.mem_or_eq_of_mem_set hx with hx | rfl
    · exact h.lt x hx
    · exact hy
  · rw [Array.toList_setIfInBounds, List.length_set, List.take_set, ht]
    simp [cellsB, List.map_set]

section
variable (w : World) {ops : Array Oper} {rest : List Oper} {o : Oper} {a : Act} {Q : Exit → Act → World → Prop}

/-- append of one word -/
theorem wpList_appB (hg : o.guard = none) (s x : Operand) (ho : o.op = .call { callee := .builtin .append, args := #[s, x], argTypes := #[44, 44] })
    (base : Nat) (v : Value) (L : List Nat) (hs : a.eval s = v) (hown : OwnB w base v L) (p y : Nat) (hx : a.eval x = .slice (some ⟨p, 0, none⟩) 1 1) (hc : w.cell? ⟨p, 0, none⟩ = some (.int .u8 (y : Nat))) (hy : y < 256)
    (hbase : base ≤ w.heap.size) (hlen : L.length ≤ 1000000000)
    (hK : ∀ v' w', OwnB w' base v' (L ++ [y]) → w.grownBy w' v.ownBlock → wpList Tryd.prog ops Q rest (a.put o.dst v') w') : wpList Tryd.prog ops Q (o :: rest) a w := by
  obtain ⟨i0, hi, hz0, hz1, hz2⟩ := info_parts infoB
  refine wpList_append_own w hg s x 44 ho base 5 i0 (.int .u8 0) 1 1 undB hi hz0 hz1 hz2 rfl (by decide) v L.length (cellsB L) hs hown.own ⟨p, 0, none⟩ 1 1 [.int .u8 (y : Nat)] hx rfl ?_ ?_ ?_ ?_ hbase ?_
  · intro j u hj
    cases j with
    | zero => simp at hj; subst hj; simpa [Addr.add] using hc
    | succ j => simp at hj
  · simp [Value.oneCell']
  · simp [maxLen]; omega
  · omega
  · intro v' w' ho hgr _
    refine hK v' w' ⟨?_, ?_⟩ hgr
    · intro z hz
      rcases List.mem_append.1 hz with hz | hz
      · exact hown.lt z hz
      · simp at hz; subst hz; exact hy
    · have e : cellsB (L ++ [y]) = cellsB L ++ [.int .u8 (y : Nat)] := by simp [cellsB]
      rw [e]; simpa using ho

end

theorem OwnB.alloc {w : World} {base : Nat} {v : Value} {L : List Nat} (h : OwnB w base v L) (o : Obj) : OwnB (w.alloc o) base v L := ⟨h.lt, h.own.alloc o⟩
theorem OwnB.row {w : World} {base n cap : Nat} {a : Option Addr} {L : List Nat} (h : OwnB w base (.slice a n cap) L) (hne : 0 < L.length) : ∃ g, a = some ⟨g, 0, none⟩ ∧ n = L.length ∧ base ≤ g ∧ RowB w g cap L := by
  rcases h.at_ with ⟨_, rfl⟩ | ⟨g, cap', cur, e, hb, hg, hl, hm, hs, ht⟩
  · simp at hne
  · cases e
    exact ⟨g, rfl, rfl, hb, h.lt, hl, hm, cur, hg, hs, ht⟩
theorem OwnB.slice {w : World} {base : Nat} {v : Value} {L : List Nat} (h : OwnB w base v L) : (v = .slice none 0 0 ∧ L = []) ∨ ∃ g cap, v = .slice (some ⟨g, 0, none⟩) L.length cap ∧ base ≤ g ∧ RowB w g cap L := by
  rcases h.at_ with ⟨rfl, rfl⟩ | ⟨g, cap, cur, rfl, hb, hg, hl, hm, hs, ht⟩
  · exact .inl ⟨rfl, rfl⟩
  · exact .inr ⟨g, cap, rfl, hb, h.lt, hl, hm, cur, hg, hs, ht⟩
/-- a change of one block of words leaves it -/
theorem OwnB.apart {w w' : World} {base g : Nat} {v : Value} {L : List Nat} (h : OwnB w base v L) (hb : ∀ k, k < w.heap.size → k ≠ g → w'.heap[k]? = w.heap[k]?) {cap : Nat} {X : List Nat} (hg : RowU w g cap X) : OwnB w' base v L := by
  rcases h.slice with ⟨rfl, rfl⟩ | ⟨g', cap', rfl, hbg, hr⟩
  · exact ⟨by simp, World.ownsRow_nil w' base _ _⟩
  · refine (RowB.keep hr (hb g' hr.ltg ?_)).own hbg
    rintro rfl
    obtain ⟨c1, e1, _⟩ := hr.row
    obtain ⟨c2, e2, _⟩ := hg.row
    rw [e1] at e2
    simp at e2
end Go.Proofs.YtkaelmbgfcehhaaDoor
end

section
/- Package lex, plain: the model. A text is the list R of the bytes that are left. -/
namespace Go.Proofs.YtkaelmbgfcehhaaDoor
open Go.RowKit
set_option linter.unusedVariables false

/-- may a name begin, and go on, with it? -/
def firstC (c : UInt8) : Bool := c == 95 || (decide (97 ≤ c.toNat) && decide (c.toNat ≤ 122)) || (decide (65 ≤ c.toNat) && decide (c.toNat ≤ 90))
def letterC (c : UInt8) : Bool := firstC c || (decide (48 ≤ c.toNat) && decide (c.toNat ≤ 57))
def nameN (R : List UInt8) : Nat := (R.takeWhile letterC).length
/-- a name, and perhaps '::' and a name -/
def wordN (R : List UInt8) : Nat := match R.drop (nameN R) with
  | 58 :: 58 :: c :: T => if firstC c then nameN R + 2 + nameN (c :: T) else nameN R
  | _ => nameN R
def wordsL : List (List UInt8) := [[66, 69, 71, 73, 78], [66, 69, 71, 73, 78, 70, 73, 76, 69], [69, 78, 68], [69, 78, 68, 70, 73, 76, 69], [98, 114, 101, 97, 107], [99, 97, 115, 101], [99, 111, 110, 116, 105, 110, 117, 101], [100, 101, 102, 97, 117, 108, 116], [100, 101, 108, 101, 116, 101], [100, 111], [101, 108, 115, 101], [101, 120, 105, 116], [102, 111, 114], [102, 117, 110, 99], [102, 117, 110, 99, 116, 105, 111, 110], [103, 101, 116, 108, 105, 110, 101], [105, 102], [105, 110], [110, 101, 120, 116], [110, 101, 120, 116, 102, 105, 108, 101], [112, 114, 105, 110, 116], [112, 114, 105, 110, 116, 102], [114, 101, 116, 117, 114, 110], [115, 119, 105, 116, 99, 104], [119, 104, 105, 108, 101]]
def builtinsL : List (List UInt8) := [[97, 110, 100], [97, 115, 111, 114, 116], [97, 115, 111, 114, 116, 105], [99, 108, 111, 115, 101], [99, 111, 109, 112, 108], [102, 102, 108, 117, 115, 104], [103, 101, 110, 115, 117, 98], [103, 115, 117, 98], [105, 110, 100, 101, 120], [105, 110, 116], [105, 115, 97, 114, 114, 97, 121], [108, 101, 110, 103, 116, 104], [108, 115, 104, 105, 102, 116], [109, 97, 116, 99, 104], [109, 107, 116, 105, 109, 101], [111, 114], [112, 97, 116, 115, 112, 108, 105, 116], [114, 97, 110, 100], [114, 115, 104, 105, 102, 116], [115, 112, 108, 105, 116], [115, 112, 114, 105, 110, 116, 102], [115, 114, 97, 110, 100], [115, 116, 114, 102, 116, 105, 109, 101], [115, 117, 98], [115, 117, 98, 115, 116, 114], [115, 121, 115, 116, 101, 109], [115, 121, 115, 116, 105, 109, 101], [116, 111, 108, 111, 119, 101, 114], [116, 111, 117, 112, 112, 101, 114], [116, 121, 112, 101, 111, 102], [120, 111, 114]]
def signsL : List (List UInt8) := [[38, 38], [124, 124], [43, 43], [45, 45], [43, 61], [45, 61], [42, 61], [47, 61], [37, 61], [94, 61], [61, 61], [60, 61], [62, 61], [33, 61], [62, 62], [33, 126], [123], [125], [40], [41], [91], [93], [59], [44], [43], [45], [42], [47], [37], [94], [33], [62], [60], [124], [63], [58], [126], [36], [61], [64]]
def isWordL (t : List UInt8) : Bool := builtinsL.contains t || wordsL.contains t
/-- of base sixteen -/
def hexC (c : UInt8) : Option Nat :=
  if 48 ≤ c.toNat ∧ c.toNat ≤ 57 then some (c.toNat - 48) else if 97 ≤ c.toNat ∧ c.toNat ≤ 102 then some (c.toNat - 87) else if 65 ≤ c.toNat ∧ c.toNat ≤ 70 then some (c.toNat - 55) else none
def octs (R : List UInt8) : List UInt8 := (R.take 3).takeWhile fun c => decide (48 ≤ c.toNat) && decide (c.toNat ≤ 55)
def hexs (R : List UInt8) : List Nat := ((R.take 2).map hexC).takeWhile Option.isSome |>.filterMap id
/-- what a backslash and R write: the bytes, how many are taken, how many lines -/
def escR : List UInt8 → List UInt8 × Nat × Nat
  | [] => ([], 0, 0)
  | b :: T =>
    if b = 110 then ([10], 1, 0) else if b = 116 then ([9], 1, 0) else if b = 114 then ([13], 1, 0) else if b = 97 then ([7], 1, 0) else if b = 98 then ([8], 1, 0) else if b = 102 then ([12], 1, 0) else if b = 118 then ([11], 1, 0)
    else if b = 10 then ([], 1, 1)
    else if 48 ≤ b.toNat ∧ b.toNat ≤ 55 then ([UInt8.ofNat ((octs (b :: T)).foldl (fun v c => 8 * v + (c.toNat - 48)) 0)], (octs (b :: T)).length, 0)
    else if b = 120 then (if hexs T = [] then ([120], 1, 0) else ([UInt8.ofNat ((hexs T).foldl (fun v d => 16 * v + d) 0)], 1 + (hexs T).length, 0))
    else ([b], 1, 0)
/-- a string behind its quote: the bytes, how many are taken (its quote too), how many lines -/
def textR : Nat → List UInt8 → Option (List UInt8 × Nat × Nat)
  | 0, _ => none
  | _ + 1, [] => none
  | n + 1, b :: T =>
    if b = 34 then some ([], 1, 0) else if b = 10 then none
    else if b = 92 ∧ T ≠ [] then (textR n (T.drop (escR T).2.1)).map fun q => ((escR T).1 ++ q.1, 1 + (escR T).2.1 + q.2.1, (escR T).2.2 + q.2.2)
    else (textR n T).map fun q => (b :: q.1, 1 + q.2.1, q.2.2)
/-- a regular expression behind its slash: the bytes, how many are taken -/
def slashR : Nat → List UInt8 → Option (List UInt8 × Nat)
  | 0, _ => none
  | _ + 1, [] => none
  | n + 1, b :: T =>
    if b = 47 then some ([], 1) else if b = 10 then none
    else if b = 92 then (match T with
      | [] => none
      | c :: T' => if c = 10 then none else (slashR n T').map fun q => ((if c = 47 then [c] else [b, c]) ++ q.1, 2 + q.2))
    else (slashR n T).map fun q => (b :: q.1, 1 + q.2)
/-- a token: kind, text, number, line -/
abbrev TokT := Nat × List UInt8 × Nat × Nat
/-- does a slash behind this token divide? -/
def dividesT : Option TokT → Bool
  | none => false
  | some (k, t, _, _) => k == 1 || k == 3 || k == 4 || k == 5 || (k == 6 && t == [108, 101, 110, 103, 116, 104]) || (k == 7 && (t == [41] || t == [93] || t == [43, 43] || t == [45, 45]))
/-- what stands at hand: how many bytes are taken, how many lines; perhaps a token (at the line at hand); or an error -/
inductive StepR where
  | go (n l : Nat) (tok : Option (Nat × List UInt8 × Nat))
  | bad (e : Nat)
section
variable (lit : List UInt8 → Nat × Nat)
/-- a token that stands at hand (lit: a numeral's number, and how many bytes it takes) -/
def tokR (R : List UInt8) (last : Option TokT) : StepR :=
  match R with
  | [] => .bad 200
  | b :: T =>
    if firstC b then
      .go (wordN R) 0 (some ((if isWordL (R.take (wordN R)) then 6 else if (R.drop (wordN R)).head? = some 40 then 2 else 1), R.take (wordN R), 0))
    else if (decide (48 ≤ b.toNat) && decide (b.toNat ≤ 57) || b == 46) && decide (0 < (lit R).2) then
      (if FloatKind.f64.format.order (lit R).1 9218868437227405311 == some .gt then .bad 201 else .go (lit R).2 0 (some (3, [], (lit R).1)))
    else if b = 34 then (match textR R.length T with
      | none => .bad 201
      | some (o, n, l) => if 1024 < o.length then .bad 201 else .go (1 + n) l (some (4, o, 0)))
    else if b = 47 ∧ dividesT last = false then (match slashR R.length T with
      | none => .bad 202
      | some (o, n) => if 1024 < o.length then .bad 202 else .go (1 + n) 0 (some (5, o, 0)))
    else match signsL.find? fun p => p.isPrefixOf R with
      | none => .bad 200
      | some p => .go p.length 0 (some (7, p, 0))
/-- what stands at hand: a token, or what stands between two -/
def stepR (R : List UInt8) (last : Option TokT) : StepR :=
  match R with
  | [] => .bad 200
  | b :: T =>
    if b = 32 ∨ b = 9 ∨ b = 13 then .go 1 0 none
    else if b = 10 then .go 1 1 (some (8, [], 0))
    else if b = 35 then .go (R.takeWhile fun c => c != 10).length 0 none
    else if b = 92 ∧ T.head? = some 10 then .go 2 1 none
    else if b = 92 ∧ T.take 2 = [13, 10] then .go 3 1 none
    else tokR lit R last
/-- the tokens of a text from a line on, behind these; or the line and the error -/
def scanR : Nat → List UInt8 → Nat → List TokT → Except (Nat × Nat) (List TokT)
  | 0, _, _, _ => .error (0, 0)
  | n + 1, R, line, toks =>
    if R = [] then .ok (toks ++ [(9, [], 0, line)]) else match stepR lit R toks.getLast? with
      | .bad e => .error (line, e)
      | .go k l tok => scanR n (R.drop k) (line + l) (match tok with
        | none => toks
        | some (kd, t, x) => toks ++ [(kd, t, x, line)])
end
end Go.Proofs.YtkaelmbgfcehhaaDoor
end

section
/- Package lex: tokens in memory; the scanner; add, fail. -/
namespace Go.Proofs.YtkaelmbgfcehhaaDoor
open Go.RowKit
set_option linter.unusedVariables false
set_option linter.unusedSimpArgs false

/-- a text as the program holds it -/
def bs (l : List UInt8) : ByteArray := ⟨l.toArray⟩
/-- a token's cells -/
def tokC (t : TokT) : List Value := [.int .i64 (t.1 : Int), .string (bs t.2.1), .float .f64 t.2.2.1, .int .i64 (t.2.2.2 : Int)]
def tokV (t : TokT) : Value := .agg #[.int .i64 (t.1 : Int), .string (bs t.2.1), .float .f64 t.2.2.1, .int .i64 (t.2.2.2 : Int)]
def cellsK (L : List TokT) : List Value := L.flatMap tokC
theorem cellsK_length : ∀ L : List TokT, (cellsK L).length = L.length * 4
  | [] => rfl
  | t :: L => by
    have := cellsK_length L
    unfold cellsK at this ⊢
    rw [List.flatMap_cons, List.length_append, this, List.length_cons]
    show 4 + _ = _
    omega
theorem cellsK_app (L M : List TokT) : cellsK (L ++ M) = cellsK L ++ cellsK M := List.flatMap_append
theorem cellsK_one (t : TokT) : cellsK [t] = tokC t := by simp [cellsK]
theorem infoK : (Tryd.prog.info? 32).map (fun i => (i.zero, i.size, i.bytes)) = some (some (.agg #[.int .i64 0, .string .empty, .float .f64 0, .int .i64 0]), 4, 40) := by kernel_rfl
theorem undK : Tryd.prog.underlying 26 = some (.slice 32) := by kernel_rfl
/-- v is a row of the call's own (from block base on) that holds these tokens -/
structure OwnK (w : World) (base : Nat) (v : Value) (L : List TokT) : Prop where
  own : w.ownsRow base 32 4 v L.length (cellsK L)
theorem OwnK.nil (w : World) (base : Nat) : OwnK w base (.slice none 0 0) [] := ⟨World.ownsRow_nil w base _ _⟩
theorem OwnK.alloc {w : World} {base : Nat} {v : Value} {L : List TokT} (h : OwnK w base v L) (o : Obj) : OwnK (w.alloc o) base v L := ⟨h.own.alloc o⟩
theorem OwnK.slice {w : World} {base : Nat} {v : Value} {L : List TokT} (h : OwnK w base v L) : ∃ a n c, v = .slice a n c := by
  rcases h.own.2 with ⟨rfl, _⟩ | ⟨g, cap, cur, rfl, _⟩
  · exact ⟨_, _, _, rfl⟩
  · exact ⟨_, _, _, rfl⟩
section
variable (w : World) {ops : Array Oper} {rest : List Oper} {o : Oper} {a : Act} {Q : Exit → Act → World → Prop}
theorem wpList_appK (hg : o.guard = none) (s x : Operand) (ho : o.op = .call { callee := .builtin .append, args := #[s, x], argTypes := #[26, 26] })
    (base : Nat) (v : Value) (L : List TokT) (hs : a.eval s = v) (hown : OwnK w base v L) (p : Nat) (t : TokT) (hx : a.eval x = .slice (some ⟨p, 0, none⟩) 1 1)
    (hc : w.heap[p]? = some (.cells #[.int .i64 (t.1 : Int), .string (bs t.2.1), .float .f64 t.2.2.1, .int .i64 (t.2.2.2 : Int)] 32 (0, 0)))
    (hbase : base ≤ w.heap.size) (hlen : L.length ≤ 1000000000)
    (hK : ∀ b1 n1 m1 w', OwnK w' base (.slice b1 n1 m1) (L ++ [t]) → w.grownBy w' v.ownBlock → wpList Tryd.prog ops Q rest (a.put o.dst (.slice b1 n1 m1)) w') : wpList Tryd.prog ops Q (o :: rest) a w := by
  obtain ⟨i0, hi, hz0, hz1, hz2⟩ := info_parts infoK
  refine wpList_append_own w hg s x 26 ho base 32 i0 (.agg #[.int .i64 0, .string .empty, .float .f64 0, .int .i64 0]) 4 40 undK hi hz0 hz1 hz2 rfl (by decide) v L.length (cellsK L) hs hown.own ⟨p, 0, none⟩ 1 1 (tokC t) hx rfl ?_ ?_ ?_ ?_ hbase ?_
  · intro j u hj
    have e : ((⟨p, 0, none⟩ : Addr).add j) = ⟨p, j, none⟩ := by rw [Addr.add_lit, Nat.zero_add]
    rw [e]
    unfold World.cell?
    rw [hc]
    rcases j with _ | _ | _ | _ | j <;> simp [tokC] at hj ⊢ <;> exact hj
  · simp [tokC, Value.oneCell']
  · simp [maxLen]; omega
  · omega
  · intro v' w' ho hgr _
    have h9 : OwnK w' base v' (L ++ [t]) := ⟨by rw [cellsK_app, cellsK_one, List.length_append]; exact ho⟩
    obtain ⟨b1, n1, m1, rfl⟩ := h9.slice
    exact hK b1 n1 m1 w' h9 hgr
end

theorem own_ne {w : World} {B b k n : Nat} {e t : TypeId} {f : Nat × Nat} {c : Array Value} {v : Value} {xs : List Value} (h : w.ownsRow B e k v n xs) (hb : w.heap[b]? = some (.cells c t f)) (hne : e ≠ t) : v.ownBlock ≠ some b := by
  intro hv
  rcases h.2 with ⟨rfl, _⟩ | ⟨g, cap, cur, rfl, _, hg, _⟩
  · cases hv
  · have e1 : g = b := by injection hv
    subst e1
    rw [hb] at hg
    injection hg with h1
    injection h1 with _ h2
    exact hne h2.symm
/-- the scanner in block b: the text, the place, the line, the tokens (in a row that lies from D on) -/
structure Sc (w : World) (D b : Nat) (s : ByteArray) (p l : Nat) (v : Value) (L : List TokT) : Prop where
  lo : D ≤ b
  heap : w.heap[b]? = some (.cells #[.string s, .int .i64 (p : Int), .int .i64 (l : Int), v] 41 (0, 0))
  own : w.ownsRow D 32 4 v L.length (cellsK L)
theorem own_keepK {w w' : World} {B : Nat} {e : TypeId} {v : Value} {n k : Nat} {xs : List Value} (h : w.ownsRow B e k v n xs) (hk : ∀ g, v.ownBlock = some g → w'.heap[g]? = w.heap[g]?) : w'.ownsRow B e k v n xs := by
  refine ⟨h.1, ?_⟩
  rcases h.2 with hn | ⟨g, cap, cur, rfl, hb, hgg, rest⟩
  · exact .inl hn
  · exact .inr ⟨g, cap, cur, rfl, hb, (hk g rfl).trans hgg, rest⟩
section
variable {w w' : World} {D b : Nat} {s : ByteArray} {p l : Nat} {v : Value} {L : List TokT}
theorem Sc.lt (h : Sc w D b s p l v L) : b < w.heap.size := lt_of_heap h.heap
theorem Sc.ne (h : Sc w D b s p l v L) : v.ownBlock ≠ some b := own_ne h.own h.heap (by decide)
theorem Sc.cell (h : Sc w D b s p l v L) (j : Nat) : w.cell? ⟨b, j, none⟩ = (#[.string s, .int .i64 (p : Int), .int .i64 (l : Int), v] : Array Value)[j]? := Lib.cell_of_heap h.heap j
theorem Sc.c0 (h : Sc w D b s p l v L) : w.cell? ⟨b, 0, none⟩ = some (.string s) := h.cell 0
theorem Sc.c1 (h : Sc w D b s p l v L) : w.cell? ⟨b, 1, none⟩ = some (.int .i64 (p : Int)) := h.cell 1
theorem Sc.c2 (h : Sc w D b s p l v L) : w.cell? ⟨b, 2, none⟩ = some (.int .i64 (l : Int)) := h.cell 2
theorem Sc.c3 (h : Sc w D b s p l v L) : w.cell? ⟨b, 3, none⟩ = some v := h.cell 3
theorem Sc.f (h : Sc w D b s p l v L) (j : Nat) : w.frozen? ⟨b, j, none⟩ = false := Lib.frozen_of_heap h.heap j
theorem Sc.ownK (h : Sc w D b s p l v L) : OwnK w D v L := ⟨h.own⟩
theorem Sc.keep (h : Sc w D b s p l v L) (hb : w'.heap[b]? = w.heap[b]?) (hk : ∀ g, v.ownBlock = some g → w'.heap[g]? = w.heap[g]?) : Sc w' D b s p l v L := ⟨h.lo, hb.trans h.heap, own_keepK h.own hk⟩
theorem Sc.below (h : Sc w D b s p l v L) (hb : Below w.heap.size w w') : Sc w' D b s p l v L := h.keep (hb.block b h.lt) fun g hg => hb.block g (h.own.lt g hg).2
theorem Sc.drew (h : Sc w D b s p l v L) : Sc w.drew D b s p l v L := h.below (Below.refl _ _).drew
theorem Sc.alloc (h : Sc w D b s p l v L) (o : Obj) : Sc (w.alloc o) D b s p l v L := h.below ((Below.refl _ _).alloc (Nat.le_refl _) o)
theorem Sc.setAt (h : Sc w D b s p l v L) (q : Nat) : Sc (w.setCell ⟨b, 1, none⟩ (.int .i64 (q : Int))) D b s q l v L :=
  ⟨h.lo, setCell_heap_same h.heap 1 _, own_keepK h.own fun g hg => Below.heap_setCell _ _ _ _ fun e => h.ne (by rw [hg]; exact congrArg some e)⟩
theorem Sc.setLine (h : Sc w D b s p l v L) (q : Nat) : Sc (w.setCell ⟨b, 2, none⟩ (.int .i64 (q : Int))) D b s p q v L :=
  ⟨h.lo, setCell_heap_same h.heap 2 _, own_keepK h.own fun g hg => Below.heap_setCell _ _ _ _ fun e => h.ne (by rw [hg]; exact congrArg some e)⟩
theorem Sc.gheap (h : Sc w D b s p l v L) {o : Obj} (hg : (w.alloc o).grownBy w' v.ownBlock) : w'.heap[b]? = some (.cells #[.string s, .int .i64 (p : Int), .int .i64 (l : Int), v] 41 (0, 0)) :=
  (hg.block b (h.alloc o).lt (fun e => h.ne e.symm)).trans (h.alloc o).heap
theorem Sc.gc3 (h : Sc w D b s p l v L) {o : Obj} (hg : (w.alloc o).grownBy w' v.ownBlock) : w'.cell? ⟨b, 3, none⟩ = some v := by rw [Lib.cell_of_heap (h.gheap hg)]; rfl
theorem Sc.gf3 (h : Sc w D b s p l v L) {o : Obj} (hg : (w.alloc o).grownBy w' v.ownBlock) : w'.frozen? ⟨b, 3, none⟩ = false := Lib.frozen_of_heap (h.gheap hg) 3
theorem Sc.gbelow (h : Sc w D b s p l v L) {o : Obj} (hg : (w.alloc o).grownBy w' v.ownBlock) (u : Value) : Below D w (w'.setCell ⟨b, 3, none⟩ u) :=
  (((Below.refl D w).alloc (by have := h.lo; have := h.lt; omega) o).grown hg (by have := h.lo; have := h.lt; simp; omega) (fun g hg => (h.own.lt g hg).1)).setCell (p := ⟨b, 3, none⟩) h.lo u
/-- behind an append to the tokens and the store -/
theorem Sc.added (h : Sc w D b s p l v L) {v' : Value} {t : TokT} (ho : OwnK w' D v' (L ++ [t])) (hg : w.grownBy w' v.ownBlock) : Sc (w'.setCell ⟨b, 3, none⟩ v') D b s p l v' (L ++ [t]) := by
  have hb : w'.heap[b]? = some (.cells #[.string s, .int .i64 (p : Int), .int .i64 (l : Int), v] 41 (0, 0)) := (hg.block b h.lt (fun e => h.ne e.symm)).trans h.heap
  have hvb : v'.ownBlock ≠ some b := own_ne ho.own hb (by decide)
  exact ⟨h.lo, setCell_heap_same hb 3 v', own_keepK ho.own fun g hg' => Below.heap_setCell _ _ _ _ fun e => hvb (by rw [hg']; exact congrArg some e)⟩
end

set_option maxHeartbeats 4000000 in
set_option maxRecDepth 100000 in
theorem add_any (D b : Nat) (s : ByteArray) (p l : Nat) (v : Value) (L : List TokT) (kd : Nat) (t : List UInt8) (x ln : Nat) (w : World) (h : Sc w D b s p l v L) (hL : L.length ≤ 1000000000) :
    Calls Tryd.prog 14 #[.pointer (some ⟨b, 0, none⟩), .int .i64 (kd : Int), .string (bs t), .float .f64 x, .int .i64 (ln : Int)] w fun e w' =>
      e = .returned (.tuple #[]) ∧ (∃ v', Sc w' D b s p l v' (L ++ [(kd, t, x, ln)])) ∧ Below D w w' := by
  have HS := Lib.hid h
  have c3 := h.c3
  have f3 := h.f 3
  have hlo := h.lo
  have hlt := h.lt
  clear h
  go_enter Tryd.func14, Tryd.ntmps14
  go_wp2_with (
    at_builtin
    go_loud (refine wpList_appK _ rfl _ _ rfl D _ L rfl (HS.out.alloc _).ownK w.heap.size (kd, t, x, ln) rfl (heap_alloc_at w _) (by simp; omega) (by omega) ?_)
    intro a1 n1 m1 w3 hown1 hgr1
    have k3 := Sc.gc3 HS.out hgr1
    have kf3 := Sc.gf3 HS.out hgr1
    have HO := Lib.hid hown1
    have HG := Lib.hid hgr1
    clear hown1 hgr1)
  go_end0
  exact ⟨rfl, ⟨_, (HS.out.alloc _).added HO.out HG.out⟩, HS.out.gbelow HG.out _⟩
set_option maxHeartbeats 4000000 in
theorem fail_any (p : Value) (l e : Nat) (w : World) :
    Calls Tryd.prog 31 #[p, .int .i64 (l : Int), .int .i64 (e : Int)] w fun r w' => r = .panicked [{ v := .iface 38 (.agg #[.int .i64 (l : Int), .int .i64 (e : Int)]), recovered := false }] ∧ w' = w := by
  go_enter Tryd.func31, Tryd.ntmps31
  go_wp2_with fail
  exact ⟨rfl, rfl, rfl⟩
end Go.Proofs.YtkaelmbgfcehhaaDoor
end

section
/- Package lex, plain: what a step takes, and its lines. -/
namespace Go.Proofs.YtkaelmbgfcehhaaDoor
open Go.RowKit
set_option linter.unusedVariables false

theorem count_take_drop (R : List UInt8) (a b : Nat) : (R.take (a + b)).count 10 = (R.take a).count 10 + ((R.drop a).take b).count 10 := by
  rw [List.take_add, List.count_append]
theorem count_zero {R : List UInt8} (h : (10 : UInt8) ∉ R) : R.count 10 = 0 := List.count_eq_zero.2 h
theorem takeWhile_take {p : UInt8 → Bool} : ∀ R : List UInt8, R.take (R.takeWhile p).length = R.takeWhile p
  | [] => rfl
  | a :: R => by
    rw [List.takeWhile_cons]
    cases h : p a
    · rfl
    · simp only [if_true, List.length_cons, List.take_succ_cons, takeWhile_take R]
theorem takeWhile_no {p : UInt8 → Bool} (hp : p 10 = false) (R : List UInt8) : (R.take (R.takeWhile p).length).count 10 = 0 := by
  rw [takeWhile_take]
  refine count_zero fun hm => ?_
  have := List.all_eq_true.1 (List.all_takeWhile (l := R) (p := p)) 10 hm
  rw [hp] at this
  cases this
theorem takeWhile_le (p : UInt8 → Bool) (R : List UInt8) : (R.takeWhile p).length ≤ R.length := (List.takeWhile_sublist p).length_le
theorem letter_10 : letterC 10 = false := by decide
theorem name_lines (R : List UInt8) : (R.take (nameN R)).count 10 = 0 ∧ nameN R ≤ R.length := ⟨takeWhile_no letter_10 R, takeWhile_le _ R⟩
theorem name_pos {b : UInt8} {T : List UInt8} (h : firstC b = true) : 1 ≤ nameN (b :: T) := by
  unfold nameN
  rw [List.takeWhile_cons, if_pos (by unfold letterC; rw [h]; rfl)]
  simp
theorem word_lines (R : List UInt8) : (R.take (wordN R)).count 10 = 0 ∧ nameN R ≤ wordN R ∧ wordN R ≤ R.length := by
  obtain ⟨h1, h2⟩ := name_lines R
  unfold wordN
  split
  · rename_i c T h
    split
    · obtain ⟨h3, h4⟩ := name_lines (c :: T)
      have h5 : (R.drop (nameN R)).length = 2 + (c :: T).length := by rw [h]; simp; omega
      rw [List.length_drop] at h5
      refine ⟨?_, by omega, by omega⟩
      rw [Nat.add_assoc, count_take_drop, h1, h, show (2 + nameN (c :: T)) = (nameN (c :: T)) + 2 by omega]
      rw [List.take_succ_cons, List.take_succ_cons, List.count_cons_of_ne (by decide), List.count_cons_of_ne (by decide), h3]
    · exact ⟨h1, Nat.le_refl _, h2⟩
  · exact ⟨h1, Nat.le_refl _, h2⟩
theorem octs_lines (R : List UInt8) : (R.take (octs R).length).count 10 = 0 ∧ (octs R).length ≤ R.length := by
  have h1 : (octs R).length ≤ (R.take 3).length := takeWhile_le _ _
  have h2 : (R.take 3).length ≤ R.length := by rw [List.length_take]; omega
  have h3 : (R.take 3).length ≤ 3 := by rw [List.length_take]; omega
  refine ⟨?_, by omega⟩
  have h4 : R.take (octs R).length = (R.take 3).take (octs R).length := by rw [List.take_take, Nat.min_eq_left (by omega)]
  rw [h4]
  exact takeWhile_no (by decide) _
theorem hex_10 : hexC 10 = none := by decide
theorem hexs_len (R : List UInt8) : (hexs R).length ≤ 2 ∧ (hexs R).length ≤ R.length ∧ (10 : UInt8) ∉ R.take (hexs R).length := by
  unfold hexs
  match R with
  | [] => exact ⟨by decide, by decide, by simp⟩
  | [a] =>
    cases h : hexC a with
    | none => simp [h]
    | some v =>
      have : a ≠ 10 := fun e => by rw [e, hex_10] at h; cases h
      simp [h, Ne.symm this]
  | a :: b :: T =>
    cases h : hexC a with
    | none => simp [h]
    | some v =>
      have h1 : a ≠ 10 := fun e => by rw [e, hex_10] at h; cases h
      cases h2 : hexC b with
      | none => simp [h, h2, Ne.symm h1]
      | some v2 =>
        have h3 : b ≠ 10 := fun e => by rw [e, hex_10] at h2; cases h2
        simp [h, h2, Ne.symm h1, Ne.symm h3]
theorem esc_lines : ∀ {R : List UInt8}, R ≠ [] → (escR R).2.2 = (R.take (escR R).2.1).count 10 ∧ 1 ≤ (escR R).2.1 ∧ (escR R).2.1 ≤ R.length
  | [], h => absurd rfl h
  | b :: T, _ => by
    have one : ∀ {c : UInt8}, c ≠ 10 → 0 = ((c :: T).take 1).count 10 := fun hc => by
      rw [List.take_succ_cons, List.take_zero, List.count_cons_of_ne hc]; rfl
    rw [escR]
    by_cases h0 : b = 110
    · rw [if_pos h0]; subst h0; exact ⟨one (by decide), Nat.le_refl _, by simp⟩
    rw [if_neg h0]
    by_cases h1 : b = 116
    · rw [if_pos h1]; subst h1; exact ⟨one (by decide), Nat.le_refl _, by simp⟩
    rw [if_neg h1]
    by_cases h2 : b = 114
    · rw [if_pos h2]; subst h2; exact ⟨one (by decide), Nat.le_refl _, by simp⟩
    rw [if_neg h2]
    by_cases h3 : b = 97
    · rw [if_pos h3]; subst h3; exact ⟨one (by decide), Nat.le_refl _, by simp⟩
    rw [if_neg h3]
    by_cases h4 : b = 98
    · rw [if_pos h4]; subst h4; exact ⟨one (by decide), Nat.le_refl _, by simp⟩
    rw [if_neg h4]
    by_cases h5 : b = 102
    · rw [if_pos h5]; subst h5; exact ⟨one (by decide), Nat.le_refl _, by simp⟩
    rw [if_neg h5]
    by_cases h6 : b = 118
    · rw [if_pos h6]; subst h6; exact ⟨one (by decide), Nat.le_refl _, by simp⟩
    rw [if_neg h6]
    by_cases h10 : b = 10
    · rw [if_pos h10]; subst h10; exact ⟨by simp, Nat.le_refl _, by simp⟩
    rw [if_neg h10]
    by_cases h8 : 48 ≤ b.toNat ∧ b.toNat ≤ 55
    · rw [if_pos h8]
      obtain ⟨h1, h2⟩ := octs_lines (b :: T)
      refine ⟨h1.symm, ?_, h2⟩
      unfold octs
      rw [List.take_succ_cons, List.takeWhile_cons, if_pos (by simp [h8.1, h8.2])]
      simp
    rw [if_neg h8]
    by_cases hx : b = 120
    · rw [if_pos hx]
      subst hx
      by_cases he : hexs T = []
      · rw [if_pos he]; exact ⟨one (by decide), Nat.le_refl _, by simp⟩
      · rw [if_neg he]
        obtain ⟨h1, h2, h3⟩ := hexs_len T
        refine ⟨?_, by simp, by simp; omega⟩
        show 0 = ((120 :: T).take (1 + (hexs T).length)).count 10
        rw [Nat.add_comm, List.take_succ_cons, List.count_cons_of_ne (by decide), count_zero h3]
    · rw [if_neg hx]; exact ⟨one h10, Nat.le_refl _, by simp⟩
theorem text_lines : ∀ {n : Nat} {R o : List UInt8} {k l : Nat}, textR n R = some (o, k, l) → l = (R.take k).count 10 ∧ 1 ≤ k ∧ k ≤ R.length := by
  intro n
  induction n with
  | zero => intro R o k l h; cases h
  | succ n ih =>
    intro R o k l h
    cases R with
    | nil => cases h
    | cons b T =>
      unfold textR at h
      by_cases h34 : b = 34
      · rw [if_pos h34] at h
        injection h with h; injection h with _ h; injection h with h1 h2
        subst h34 h1 h2
        exact ⟨by simp, Nat.le_refl _, by simp⟩
      rw [if_neg h34] at h
      by_cases h10 : b = 10
      · rw [if_pos h10] at h; cases h
      rw [if_neg h10] at h
      by_cases he : b = 92 ∧ T ≠ []
      · rw [if_pos he] at h
        obtain ⟨q, hq, e⟩ := Option.map_eq_some_iff.1 h
        obtain ⟨o2, k2, l2⟩ := q
        injection e with _ e; injection e with e1 e2
        obtain ⟨a1, a2, a3⟩ := ih hq
        obtain ⟨b1, b2, b3⟩ := esc_lines he.2
        rw [List.length_drop] at a3
        subst e1 e2
        refine ⟨?_, by omega, by rw [List.length_cons]; simp only []; omega⟩
        simp only [] at a1 ⊢
        rw [show 1 + (escR T).2.1 + k2 = ((escR T).2.1 + k2) + 1 by omega, List.take_succ_cons, List.count_cons_of_ne h10, count_take_drop, ← b1, ← a1]
      · rw [if_neg he] at h
        obtain ⟨q, hq, e⟩ := Option.map_eq_some_iff.1 h
        obtain ⟨o2, k2, l2⟩ := q
        injection e with _ e; injection e with e1 e2
        obtain ⟨a1, a2, a3⟩ := ih hq
        subst e1 e2
        refine ⟨?_, by omega, by rw [List.length_cons]; simp only []; omega⟩
        simp only [] at a1 ⊢
        rw [show 1 + k2 = k2 + 1 by omega, List.take_succ_cons, List.count_cons_of_ne h10, ← a1]
theorem slash_lines : ∀ {n : Nat} {R o : List UInt8} {k : Nat}, slashR n R = some (o, k) → (R.take k).count 10 = 0 ∧ 1 ≤ k ∧ k ≤ R.length := by
  intro n
  induction n using Nat.strongRecOn with
  | ind n ih =>
    intro R o k h
    cases n with
    | zero => cases h
    | succ n =>
      cases R with
      | nil => cases h
      | cons b T =>
        unfold slashR at h
        by_cases h47 : b = 47
        · rw [if_pos h47] at h
          injection h with h; injection h with _ h
          subst h47 h
          exact ⟨by simp, Nat.le_refl _, by simp⟩
        rw [if_neg h47] at h
        by_cases h10 : b = 10
        · rw [if_pos h10] at h; cases h
        rw [if_neg h10] at h
        by_cases h92 : b = 92
        · rw [if_pos h92] at h
          cases T with
          | nil => cases h
          | cons c T' =>
            simp only [] at h
            by_cases hc : c = 10
            · rw [if_pos hc] at h; cases h
            rw [if_neg hc] at h
            obtain ⟨q, hq, e⟩ := Option.map_eq_some_iff.1 h
            obtain ⟨o2, k2⟩ := q
            injection e with _ e
            obtain ⟨a1, a2, a3⟩ := ih n (by omega) hq
            subst e
            refine ⟨?_, by omega, by simp only [List.length_cons]; omega⟩
            show ((b :: c :: T').take (2 + k2)).count 10 = 0
            rw [show 2 + k2 = (k2 + 1) + 1 by omega, List.take_succ_cons, List.take_succ_cons, List.count_cons_of_ne h10, List.count_cons_of_ne hc, a1]
        · rw [if_neg h92] at h
          obtain ⟨q, hq, e⟩ := Option.map_eq_some_iff.1 h
          obtain ⟨o2, k2⟩ := q
          injection e with _ e
          obtain ⟨a1, a2, a3⟩ := ih n (by omega) hq
          subst e
          refine ⟨?_, by omega, by simp only [List.length_cons]; omega⟩
          show ((b :: T).take (1 + k2)).count 10 = 0
          rw [show 1 + k2 = k2 + 1 by omega, List.take_succ_cons, List.count_cons_of_ne h10, a1]
end Go.Proofs.YtkaelmbgfcehhaaDoor
end

section
/- Digits, lowest first; Reverse of bytes; bytes as a string. -/
namespace Go.Proofs.YtkaelmbgfcehhaaDoor
open Go.RowKit
set_option linter.unusedVariables false

def valD : List Nat → Nat | [] => 0 | c :: l => (c - 48) + 10 * valD l
def DigN (L : List Nat) : Prop := ∀ c ∈ L, 48 ≤ c ∧ c ≤ 57
theorem valD_append : ∀ (l m : List Nat), valD (l ++ m) = valD l + 10 ^ l.length * valD m
  | [], m => by simp [valD]
  | c :: l, m => by
    simp only [List.cons_append, valD, valD_append l m, List.length_cons, Nat.pow_succ]
    rw [Nat.mul_add, ← Nat.mul_assoc, Nat.mul_comm 10 (10 ^ l.length)]; omega
theorem valD_48 : ∀ (l : List Nat), (∀ c ∈ l, c = 48) → valD l = 0
  | [], _ => rfl
  | c :: l, h => by simp [valD, h c (by simp), valD_48 l (fun x hx => h x (by simp [hx]))]
theorem valD_strip {L : List Nat} {k : Nat} (h : ∀ c ∈ L.drop k, c = 48) : valD (L.take k) = valD L := by
  conv => rhs; rw [← List.take_append_drop k L]
  rw [valD_append, valD_48 _ h]; simp
theorem valD_pos {L : List Nat} (hd : DigN L) (h : valD L = 0) : ∀ c ∈ L, c = 48 := by
  induction L with
  | nil => simp
  | cons c l ih =>
    simp only [valD] at h
    have := hd c (by simp)
    intro x hx
    rcases List.mem_cons.1 hx with rfl | hx
    · omega
    · exact ih (fun y hy => hd y (by simp [hy])) (by omega) x hx

/-- the text of a natural: digits, no nought ahead but of 0 itself -/
structure Canon (l : List UInt8) (x : Nat) : Prop where
  ne : l ≠ []
  dig : Digits l
  val : digVal l = x
  top : ∀ c r, l = c :: r → c.toNat = 48 → r = []

/-- the string that a row of digits is, turned round -/
def turned (L : List Nat) : List UInt8 := L.reverse.map UInt8.ofNat
theorem turned_length (L : List Nat) : (turned L).length = L.length := by simp [turned]
theorem toNat_ofNat_dig {c : Nat} (h : c ≤ 57) : (UInt8.ofNat c).toNat = c := by
  rw [UInt8.toNat_ofNat']; exact Nat.mod_eq_of_lt (by omega)
theorem turned_digits {L : List Nat} (hd : DigN L) : Digits (turned L) := by
  intro c hc
  simp only [turned, List.mem_map, List.mem_reverse] at hc
  obtain ⟨n, hn, rfl⟩ := hc
  have := hd n hn
  rw [toNat_ofNat_dig this.2]; exact this
theorem digVal_turned : ∀ (L : List Nat), DigN L → digVal (turned L) = valD L
  | [], _ => rfl
  | c :: l, h => by
    have hc := h c (by simp)
    have ih := digVal_turned l (fun x hx => h x (by simp [hx]))
    have e : turned (c :: l) = turned l ++ [UInt8.ofNat c] := by simp [turned]
    rw [e, digVal_snoc, ih, toNat_ofNat_dig hc.2, valD]; omega
theorem canon_turned {L : List Nat} {k : Nat} (hd : DigN L) (hk : k ≠ 0) (hkl : k ≤ L.length) (hs : ∀ c ∈ L.drop k, c = 48) (ht : ∀ h : k - 1 < L.length, L[k - 1] ≠ 48) : Canon (turned (L.take k)) (valD L) := by
  have hdk : DigN (L.take k) := fun c hc => hd c (List.mem_of_mem_take hc)
  have hsn : L.take k = L.take (k - 1) ++ [L[k - 1]'(by omega)] := by
    rw [← List.take_succ_eq_append_getElem (by omega)]; congr 1; omega
  have e : turned (L.take k) = UInt8.ofNat (L[k - 1]'(by omega)) :: turned (L.take (k - 1)) := by
    rw [hsn]; simp only [turned, List.reverse_append, List.reverse_singleton, List.map_cons, List.singleton_append]
  refine ⟨by rw [e]; simp, turned_digits hdk, by rw [digVal_turned _ hdk, valD_strip hs], ?_⟩
  intro c r h hc
  rw [e] at h
  cases h
  have h1 := hd (L[k - 1]'(by omega)) (List.getElem_mem _)
  rw [toNat_ofNat_dig h1.2] at hc
  exact absurd hc (ht (by omega))
theorem canon_zero : Canon (turned [48]) 0 := by
  refine ⟨by simp [turned], turned_digits (by intro c hc; simp at hc; omega), by decide, ?_⟩
  intro c r h hc
  simp [turned] at h
  exact h.2

theorem add_plain' (b o i : Nat) : (⟨b, o, none⟩ : Addr).add i = ⟨b, o + i, none⟩ := by unfold Addr.add; split <;> simp_all
/-- string(b) -/
theorem wpList_string (w : World) {ops : Array Oper} {rest : List Oper} {o : Oper} {a : Act} {Q : Exit → Act → World → Prop} (hg : o.guard = none) (x : Operand) (ho : o.op = .convert 44 9 x) (g cap : Nat) (l : List UInt8) (hx : a.eval x = .slice (some ⟨g, 0, none⟩) l.length cap)
    (hc : ∀ j (hj : j < l.length), w.cell? ⟨g, j, none⟩ = some (.int .u8 (l[j].toNat : Nat)))
    (hK : wpList Tryd.prog ops Q rest (a.put o.dst (.string ⟨l.toArray⟩)) w) : wpList Tryd.prog ops Q (o :: rest) a w := by
  have hr := run_convert_bytes_back (P := Tryd.prog) w 44 9 5 ⟨g, 0, none⟩ cap l undBytes undByte undStr (fun j hj => by rw [add_plain', Nat.zero_add]; exact hc j hj)
  refine wpList_plain hg fun K' hK' => ?_
  unfold Oper.wp
  simp [execOp, ho, hx, hr, Result.andThen]
  exact hK' _ _ hK
end Go.Proofs.YtkaelmbgfcehhaaDoor
end

section
/- Package nat: Text. -/
namespace Go.Proofs.YtkaelmbgfcehhaaDoor
open Go.RowKit
set_option linter.unusedVariables false

theorem pow_lt_digits {n k m : Nat} (h : 10 ^ k * m ≤ n) (hm : 0 < m) (hn : n < B32 ^ 256) : k < 8192 := by
  rcases Nat.lt_or_ge k 8192 with h1 | h1
  · exact h1
  · exfalso
    have h2 := p2_le (a := 32 * 256) (b := k) (by omega)
    have h3 : 2 ^ k ≤ 10 ^ k := Nat.pow_le_pow_left (by decide) k
    have h4 : 10 ^ k * 1 ≤ 10 ^ k * m := Nat.mul_le_mul_left _ hm
    have h5 := b32_pow 256
    generalize B32 ^ 256 = b at *
    generalize (2 : Nat) ^ (32 * 256) = c at *
    omega

theorem RowB.cell_turned {w : World} {g cap : Nat} {L : List Nat} (h : RowB w g cap L.reverse) (hd : DigN L) (j : Nat) (hj : j < (turned L).length) : w.cell? ⟨g, j, none⟩ = some (.int .u8 ((turned L)[j].toNat : Nat)) := by
  have hj' : j < L.reverse.length := by simpa [turned_length] using hj
  rw [h.cell j hj']
  have h2 := hd _ (List.mem_reverse.1 (List.getElem_mem hj'))
  have h3 : (turned L)[j] = UInt8.ofNat (L.reverse[j]) := by simp [turned]
  rw [h3, toNat_ofNat_dig h2.2]

theorem RowU.grownB {w w3 : World} {g cap base : Nat} {A L : List Nat} {v : Value} {o : Obj} (h : RowU w g cap A) (hb : OwnB w base v L) (hgr : (w.alloc o).grownBy w3 v.ownBlock) : RowU w3 g cap A := by
  have hg := h.ltg
  have h1 : w3.heap[g]? = (w.alloc o).heap[g]? := by
    refine hgr.block g (by simp; omega) ?_
    rcases hb.slice with ⟨rfl, rfl⟩ | ⟨g', cap', rfl, hbg, hr⟩
    · simp [Value.ownBlock]
    · simp only [Value.ownBlock]
      intro he
      cases he
      obtain ⟨c1, e1, _⟩ := hr.row
      obtain ⟨c2, e2, _⟩ := h.row
      rw [e1] at e2
      simp at e2
  exact h.keep (h1.trans (Below.heap_alloc w o g hg))

theorem OwnB.lenV {w : World} {base : Nat} {v : Value} {L : List Nat} (h : OwnB w base v L) : lenV v = L.length := by
  rcases h.slice with ⟨rfl, rfl⟩ | ⟨g, cap, rfl, _, _⟩ <;> simp [Go.Proofs.YtkaelmbgfcehhaaDoor.lenV]

theorem valD_snoc (L : List Nat) (c : Nat) : valD (L ++ [c]) = valD L + 10 ^ L.length * (c - 48) := by rw [valD_append]; simp [valD]
theorem text_step (V l r i : Nat) : V + 10 ^ l * (r % 10) + 10 ^ (l + 1) * (r / 10) = V + 10 ^ l * r := by
  rw [Nat.pow_succ, Nat.mul_assoc, Nat.add_assoc, ← Nat.mul_add]
  congr 2; omega

end Go.Proofs.YtkaelmbgfcehhaaDoor
end

section
/- Package nat: Text of 0; Div as a whole. -/
namespace Go.Proofs.YtkaelmbgfcehhaaDoor
open Go.RowKit
set_option linter.unusedVariables false

theorem rowB_one (w : World) (c : Nat) (hc : c < 256) : RowB (w.alloc (.cells #[.int .u8 (c : Nat)] 5)) w.heap.size 1 [c] :=
  ⟨by intro x hx; simp at hx; omega, by simp, by omega, _, heap_alloc_at w _, rfl, rfl⟩

theorem Div_any (va vb : Value) (x y : Nat) (w : World) (hx : NatV w va x) (hy : NatV w vb y) (hX : (limbs x).length ≤ 256) (hY : (limbs y).length ≤ 256) (hy0 : 0 < y) :
    Calls Tryd.prog 82 #[va, vb] w fun e w' => ∃ q r, e = .returned (.tuple #[q, r, .int .i64 0]) ∧ NatV w' q (x / y) ∧ NatV w' r (x % y) ∧ Below w.heap.size w w' := by
  have h1 : (limbs y).length ≠ 0 := fun h => by
    have := limbs_eq_nil.1 (List.eq_nil_of_length_eq_zero h); omega
  rcases Nat.lt_or_ge 1 (limbs y).length with h | h
  · exact Div_long va vb x y w hx hy hX hY h
  · exact Div_small va vb x y w hx hy hX (by omega)
end Go.Proofs.YtkaelmbgfcehhaaDoor
end

section
/- Package dec: pow10, shifted, word. -/
namespace Go.Proofs.YtkaelmbgfcehhaaDoor
open Go.RowKit
set_option linter.unusedVariables false

theorem limbs_le_of_le {x y k : Nat} (h : x ≤ y) (hy : (limbs y).length ≤ k) : (limbs x).length ≤ k :=
  limbs_length_le (Nat.lt_of_le_of_lt h (lt_of_limbs_length hy))

theorem FromV (n : Nat) (m : Int) (hm : m = (n : Int)) (hn : n < 18446744073709551616) (w : World) :
    Calls Tryd.prog 80 #[.int .u64 m] w fun e w' => ∃ v, e = .returned v ∧ NatV w' v n ∧ Below w.heap.size w w' := by
  subst hm
  refine (From_any n hn w).mono ?_
  rintro e w' ⟨a, cap, rfl, hl, hb⟩
  exact ⟨_, rfl, ⟨a, cap, rfl, hl⟩, hb⟩

theorem pow10_sub {k j : Nat} (h : j ≤ k) (hk : (limbs (10 ^ k)).length ≤ 256) : (limbs (10 ^ j)).length ≤ 256 :=
  limbs_le_of_le (Nat.pow_le_pow_right (by decide) h) hk

set_option maxRecDepth 100000 in
set_option maxHeartbeats 4000000 in
theorem pow10_any (k : Nat) (w : World) (hk : (limbs (10 ^ k)).length ≤ 256) (hk2 : k ≤ 100000) :
    Calls Tryd.prog 67 #[.int .i64 k] w fun e w' => ∃ v, e = .returned v ∧ NatV w' v (10 ^ k) ∧ Below w.heap.size w w' := by
  have HK := Lib.hid hk
  clear hk
  go_enter Tryd.func67, Tryd.ntmps67
  go_wp2_with fail
  refine (FromV 1 1 rfl (by decide) w).mono ?_
  rintro e w1 ⟨v1, rfl, hn1, hb1⟩
  have HN1 := Lib.hid hn1
  have HB1 := Lib.hid hb1
  clear hn1 hb1
  go_wp2_with fail
  go_loopw [0, 3] (fun i v wr => ∃ (r j : Nat), r + j = k ∧ i = .int .i64 r ∧ NatV wr v (10 ^ j) ∧ Below w.heap.size w wr) (fun i _ _ => (intOf i).toNat)
  case atStart => exact ⟨k, 0, rfl, rfl, HN1.out, HB1.out⟩
  case round =>
    obtain ⟨r, j, hrj, rfl, hn, hb⟩ := hrel
    have HN := Lib.hid hn
    have HB := Lib.hid hb
    have hbs := hb.size
    clear hn hb HN1 HB1
    by_cases h9 : 9 ≤ r
    · have e9 : (9 : Int) ≤ (r : Int) := by omega
      go_wp2_with fail
      refine (FromV 1000000000 1000000000 rfl (by decide) wr).mono ?_
      rintro e w1 ⟨v1, rfl, hn1, hb1⟩
      have HN1 := Lib.hid hn1
      have HNj := Lib.hid (HN.out.below hb1)
      have HB1 := Lib.hid (HB.out.trans (hb1.mono hbs))
      have hbs1 := hb1.size
      clear hn1 hb1 HN HB
      go_wp2_with fail
      have e10 : 10 ^ j * 1000000000 = 10 ^ (j + 9) := by rw [Nat.pow_add]
      have HM := Mul_any _ _ _ _ w1 HNj.out HN1.out (pow10_sub (k := k) (by omega) HK.out) (limbs_length_le (by decide)) (by rw [e10]; exact pow10_sub (k := k) (by omega) HK.out)
      rw [e10] at HM
      refine HM.mono ?_
      rintro e w2 ⟨v2, rfl, hn2, hb2⟩
      have HN2 := Lib.hid hn2
      have HB2 := Lib.hid (HB1.out.trans (hb2.mono (by omega)))
      clear hn2 hb2 HM HN1 HNj HB1 e10
      go_wp2_with fail
      go_roundw
      case rel => exact ⟨r - 9, j + 9, by omega, by go_num, HN2.out, HB2.out⟩
      case measure => simp [intOf]; omega
    · have e9 : ¬ (9 : Int) ≤ (r : Int) := by omega
      go_wp2_with fail
      obtain ⟨wo, rfl⟩ : ∃ wo : World, wo = wr := ⟨_, rfl⟩
      go_loopw [0, 3] (fun i v wr => ∃ (r j : Nat), r + j = k ∧ i = .int .i64 r ∧ NatV wr v (10 ^ j) ∧ Below w.heap.size w wr) (fun i _ _ => (intOf i).toNat)
      case atStart => exact ⟨r, j, hrj, rfl, HN.out, HB.out⟩
      case round =>
        obtain ⟨r, j, hrj, rfl, hn, hb⟩ := hrel
        have HN := Lib.hid hn
        have HB := Lib.hid hb
        have hbs := hb.size
        clear hn hb
        by_cases h0 : 0 < r
        · have e9 : (0 : Int) < (r : Int) := by omega
          go_wp2_with fail
          refine (FromV 10 10 rfl (by decide) wr).mono ?_
          rintro e w1 ⟨v1, rfl, hn1, hb1⟩
          have HN1 := Lib.hid hn1
          have HNj := Lib.hid (HN.out.below hb1)
          have HB1 := Lib.hid (HB.out.trans (hb1.mono hbs))
          have hbs1 := hb1.size
          clear hn1 hb1
          go_wp2_with fail
          have e10 : 10 ^ j * 10 = 10 ^ (j + 1) := by rw [Nat.pow_add]
          have HM := Mul_any _ _ _ _ w1 HNj.out HN1.out (pow10_sub (k := k) (by omega) HK.out) (limbs_length_le (by decide)) (by rw [e10]; exact pow10_sub (k := k) (by omega) HK.out)
          rw [e10] at HM
          refine HM.mono ?_
          rintro e w2 ⟨v2, rfl, hn2, hb2⟩
          have HN2 := Lib.hid hn2
          have HB2 := Lib.hid (HB1.out.trans (hb2.mono (by omega)))
          clear hn2 hb2 HM HN1 HNj HB1 e10
          go_wp2_with fail
          go_roundw
          case rel => exact ⟨r - 1, j + 1, by omega, by go_num, HN2.out, HB2.out⟩
          case measure => simp [intOf]; omega
        · obtain rfl : r = 0 := by omega
          obtain rfl : j = k := by omega
          go_wp2_with fail
          go_ret
          exact ⟨_, rfl, HN.out, HB.out⟩

theorem Shl_zero (va : Value) (w : World) (hx : NatV w va 0) (kk : Nat) : Calls Tryd.prog 97 #[va, .int .i64 kk] w fun e w' => e = .returned (.tuple #[.slice none 0 0, .int .i64 0]) ∧ w = w' := by
  obtain ⟨a, ca, rfl, ha⟩ := hx
  have V1 := Lib.hid (valid_any a ca 0 w ha (by rw [limbs_zero]; simp))
  rw [limbs_zero] at *
  clear ha
  go_enter Tryd.func97, Tryd.ntmps97
  go_wp2_with fail
  refine V1.out.mono ?_
  rintro e w1 ⟨rfl, rfl⟩
  clear V1
  go_wp2_with fail
  go_ret2
  exact ⟨rfl, rfl⟩
theorem NatV.zero (w : World) : NatV w (.slice none 0 0) 0 := ⟨none, 0, by rw [limbs_zero]; rfl, by rw [limbs_zero]; exact Lies.nil w none 0 (by decide) (by simp)⟩

theorem shifted_any (va : Value) (x : Nat) (k : Int) (w : World) (hx : NatV w va x) (hk : k ≤ 8192) (hk0 : -100000 ≤ k) (hf : (limbs (x * 2 ^ k.toNat)).length ≤ 256) :
    Calls Tryd.prog 83 #[va, .int .i64 k] w fun e w' => ∃ v, e = .returned v ∧ NatV w' v (x * 2 ^ k.toNat) ∧ Below w.heap.size w w' := by
  have hm : max k 0 = (k.toNat : Int) := by omega
  have hkb : k.toNat ≤ 8192 := by omega
  generalize k.toNat = kk at *
  have HX := Lib.hid hx
  have HF := Lib.hid hf
  clear hx hf
  go_enter Tryd.func83, Tryd.ntmps83
  go_wp2_with fail
  rcases Nat.eq_zero_or_pos x with h0 | h0
  · have HX0 := HX.out
    rw [h0] at HX0
    refine (Shl_zero va w HX0 kk).mono ?_
    rintro e w1 ⟨rfl, rfl⟩
    have hz : x * 2 ^ kk = 0 := by rw [h0]; simp
    clear HX0
    go_wp2_with fail
    go_ret
    exact ⟨_, rfl, by rw [hz]; exact NatV.zero _, Below.refl _ _⟩
  · refine (Shl_any va x kk w HX.out h0 (by omega) HF.out).mono ?_
    rintro e w1 ⟨v1, rfl, hn1, hb1⟩
    have HN1 := Lib.hid hn1
    have HB1 := Lib.hid hb1
    clear hn1 hb1
    go_wp2_with fail
    go_ret
    exact ⟨_, rfl, HN1.out, HB1.out⟩

/-- word: the value modulo 2^64 -/
theorem word_step {X : List Nat} {k : Nat} (hk : k < X.length) (hX : ∀ x ∈ X, x < B32) : val (X.drop k) % 18446744073709551616 = (val (X.drop (k + 1)) % 18446744073709551616 * 4294967296 % 18446744073709551616) ||| X[k] := by
  rw [List.drop_eq_getElem_cons hk, val]
  have h1 := hX _ (List.getElem_mem hk)
  rw [B32] at *
  have h2 : val (X.drop (k + 1)) % 18446744073709551616 * 4294967296 % 18446744073709551616 = 2 ^ 32 * (val (X.drop (k + 1)) % 18446744073709551616 % 4294967296) := by omega
  rw [h2, ← Nat.two_pow_add_eq_or_of_lt (by omega)]
  omega

set_option maxRecDepth 100000 in
set_option maxHeartbeats 4000000 in
theorem word_any (va : Value) (x : Nat) (w : World) (hx : NatV w va x) (hX : (limbs x).length ≤ 256) :
    Calls Tryd.prog 84 #[va] w fun e w' => e = .returned (.int .u64 ((x % 18446744073709551616 : Nat) : Int)) ∧ w = w' := by
  obtain ⟨a, ca, rfl, ha⟩ := hx
  have hle := ha.le
  have HA := Lib.hid ha
  have hv : Hid (val (limbs x) = x) := val_limbs x
  have hlt := Lib.hid (limbs_lt x)
  clear ha
  generalize limbs x = X at *
  go_enter Tryd.func84, Tryd.ntmps84
  go_wp2_with fail
  go_loop [3, 4] (fun n i => ∃ k : Nat, k ≤ X.length ∧ i = .int .i64 ((k : Int) - 1) ∧ n = .int .u64 ((val (X.drop k) % 18446744073709551616 : Nat) : Int)) (fun _ i => (intOf i + 1).toNat)
  case atStart => exact ⟨X.length, Nat.le_refl _, rfl, by simp [val]⟩
  case round =>
    obtain ⟨k, hk, rfl, rfl⟩ := hrel
    cases k with
    | zero =>
      have hxv : Hid (val (X.drop 0) % 18446744073709551616 = x % 18446744073709551616) := by show _ = _; rw [List.drop_zero, hv.out]
      generalize val (X.drop 0) % 18446744073709551616 = y at *
      go_wp2_with fail
      go_ret
      exact ⟨by rw [hxv.out]; simp, rfl⟩
    | succ k =>
      obtain ⟨b, off, rfl, hc⟩ := HA.out.at_ k (by omega)
      have hst := word_step (show k < X.length by omega) hlt.out
      have hxk : X[k] < 4294967296 := hlt.out _ (List.getElem_mem _)
      obtain ⟨n, hn⟩ : ∃ n, n = val (X.drop (k + 1)) % 18446744073709551616 := ⟨_, rfl⟩
      obtain ⟨m, hm⟩ : ∃ m, m = val (X.drop k) % 18446744073709551616 := ⟨_, rfl⟩
      have hn64 : n < 18446744073709551616 := by rw [hn]; exact Nat.mod_lt _ (by decide)
      rw [← hn, ← hm] at hst
      rw [← hn]
      have HM := Lib.hid hm
      clear hn hm
      generalize X[k] = xk at *
      have e1 : bits .or .u64 (IntKind.wrap .u64 ((n : Int) * 4294967296)) (xk : Int) = (m : Int) := by
        have h := u64_or_nat (n * 4294967296 % 18446744073709551616) xk (Nat.mod_lt _ (by decide)) (by omega)
        rw [← hst] at h
        rw [← h, IntKind.wrap_u64]; simp
      clear hst
      go_wp2_with fail
      go_round
      case rel => exact ⟨k, by omega, by go_num, by rw [HM.out]⟩
      case measure => simp [intOf]
end Go.Proofs.YtkaelmbgfcehhaaDoor
end
