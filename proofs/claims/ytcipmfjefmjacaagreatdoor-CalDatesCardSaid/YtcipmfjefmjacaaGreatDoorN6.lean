/- math/bits.Sub32, Div32; package nat: Bits, less, small. -/
import Derived.Test.YtcipmfjefmjacaaGreatDoorN5
import Derived.Laws.BitsAllLaws
namespace Go.Proofs.YtcipmfjefmjacaaGreatDoor
open Go.RowKit
set_option linter.unusedVariables false

theorem shr31_or (a b : Nat) : (a ||| b) / 2147483648 = (a / 2147483648) ||| (b / 2147483648) := by
  have := Nat.shiftRight_or_distrib (a := a) (b := b) (i := 31); simpa [Nat.shiftRight_eq_div_pow] using this
theorem shr31_and (a b : Nat) : (a &&& b) / 2147483648 = (a / 2147483648) &&& (b / 2147483648) := by
  have := Nat.shiftRight_and_distrib (a := a) (b := b) (i := 31); simpa [Nat.shiftRight_eq_div_pow] using this
theorem shr31_xor (a b : Nat) : (a ^^^ b) / 2147483648 = (a / 2147483648) ^^^ (b / 2147483648) := by
  have := Nat.shiftRight_xor_distrib (a := a) (b := b) (i := 31); simpa [Nat.shiftRight_eq_div_pow] using this

/-- what is borrowed -/
def borN (x y b : Nat) : Nat := if x < y + b then 1 else 0

theorem bor_bits (x y b d : Nat) (hx : x < 4294967296) (hy : y < 4294967296) (hb : b ≤ 1) (hd : d = (x + 8589934592 - y - b) % 4294967296) :
    (((4294967295 ^^^ x) &&& y) ||| ((4294967295 ^^^ (x ^^^ y)) &&& d)) / 2147483648 = borN x y b := by
  rw [shr31_or, shr31_and, shr31_and, shr31_xor, shr31_xor, shr31_xor]
  have h1 : x / 2147483648 = 0 ∨ x / 2147483648 = 1 := by omega
  have h2 : y / 2147483648 = 0 ∨ y / 2147483648 = 1 := by omega
  have hdl : d < 4294967296 := by omega
  have h3 : d / 2147483648 = 0 ∨ d / 2147483648 = 1 := by omega
  unfold borN
  rw [show 4294967295 / 2147483648 = 1 from rfl]
  rcases h1 with h1 | h1 <;> rcases h2 with h2 | h2 <;> rcases h3 with h3 | h3 <;> rw [h1, h2, h3] <;> split <;> first | rfl | (exfalso; omega)

theorem sub32_bits (x y b : Nat) (hx : x < 4294967296) (hy : y < 4294967296) (hb : b ≤ 1) :
    (bits .or .u32 (bits .and .u32 (bits .xor .u32 IntKind.u32.max (x : Int)) (y : Int)) (bits .and .u32 (bits .xor .u32 IntKind.u32.max (bits .xor .u32 (x : Int) (y : Int))) (((x : Int) - y - b) % 4294967296))) / 2147483648 = (borN x y b : Int) := by
  obtain ⟨d, hd⟩ : ∃ d, d = (x + 8589934592 - y - b) % 4294967296 := ⟨_, rfl⟩
  have e1 : ((x : Int) - y - b) % 4294967296 = (d : Int) := by omega
  have hdl : d < 4294967296 := by omega
  have hm : IntKind.u32.max = ((4294967295 : Nat) : Int) := by decide
  have l1 : x ^^^ y < 4294967296 := Nat.xor_lt_two_pow (n := 32) hx hy
  have l2 : 4294967295 ^^^ x < 4294967296 := Nat.xor_lt_two_pow (n := 32) (by decide) hx
  have l3 : 4294967295 ^^^ (x ^^^ y) < 4294967296 := Nat.xor_lt_two_pow (n := 32) (by decide) l1
  have l4 : (4294967295 ^^^ x) &&& y < 4294967296 := Nat.lt_of_le_of_lt Nat.and_le_right hy
  have l5 : (4294967295 ^^^ (x ^^^ y)) &&& d < 4294967296 := Nat.lt_of_le_of_lt Nat.and_le_right hdl
  rw [e1, hm, u32_xor_nat _ _ (by decide) hx, u32_and_nat _ _ l2 hy, u32_xor_nat _ _ hx hy, u32_xor_nat _ _ (by decide) l1, u32_and_nat _ _ l3 hdl, u32_or_nat _ _ l4 l5]
  have := bor_bits x y b d hx hy hb hd
  rw [← this]
  simp

theorem Sub32_any (x y b : Nat) (hx : x < 4294967296) (hy : y < 4294967296) (hb : b ≤ 1) (w : World) :
    Calls Tryz.prog 140 #[.int .u32 x, .int .u32 y, .int .u32 b] w fun e w' =>
      e = .returned (.tuple #[.int .u32 ((x + 8589934592 - y - b) % 4294967296 : Nat), .int .u32 (borN x y b : Nat)]) ∧ w = w' := by
  have hbits := Lib.hid (sub32_bits x y b hx hy hb)
  have hd : Hid (((x : Int) - y - b) % 4294967296 = (((x + 8589934592 - y - b) % 4294967296 : Nat) : Int)) := by
    show ((x : Int) - y - b) % 4294967296 = (((x + 8589934592 - y - b) % 4294967296 : Nat) : Int); omega
  go_enter Tryz.func140, Tryz.ntmps140
  go_wp2_with fail
  all_goals
    refine bodyPost_ret (v := .tuple #[.int .u32 ((x + 8589934592 - y - b) % 4294967296 : Nat), .int .u32 (borN x y b : Nat)]) ?_ rfl ⟨rfl, rfl⟩
    rw [← hbits.out, ← hd.out]
    simp [results, Tryz.results140, go_sem]

theorem Div32_any (hi lo y : Nat) (h1 : hi < y) (h2 : lo < 4294967296) (h3 : y < 4294967296) (w : World) :
    Calls Tryz.prog 139 #[.int .u32 hi, .int .u32 lo, .int .u32 y] w fun e w' =>
      e = .returned (.tuple #[.int .u32 ((hi * 4294967296 + lo) / y : Nat), .int .u32 ((hi * 4294967296 + lo) % y : Nat)]) ∧ Below w.heap.size w w' := by
  have e1 : ((y : Int) != 0) = true := by simp; omega
  have e2 : decide (y ≤ hi) = false := by simp; omega
  have e3 : decide ((y : Int) ≤ (hi : Int)) = false := by simp; omega
  obtain ⟨N, hN⟩ : ∃ N, N = hi * 4294967296 + lo := ⟨_, rfl⟩
  rw [← hN]
  have eo : bits .or .u64 ((hi : Int) * 4294967296) (lo : Int) = (N : Int) := by
    have := u64_or_nat (hi * 4294967296) lo (by omega) (by omega)
    rw [nat_join 32 _ _ (by omega) (by omega), ← hN] at this
    rw [← this]; simp
  have hNl : N < y * 4294967296 := by
    have : (hi + 1) * 4294967296 ≤ y * 4294967296 := Nat.mul_le_mul_right _ h1
    omega
  have hql : N / y < 4294967296 := Nat.div_lt_of_lt_mul hNl
  have hrl : N % y < 4294967296 := Nat.lt_trans (Nat.mod_lt _ (by omega)) h3
  obtain ⟨q, hq⟩ : ∃ q, q = N / y := ⟨_, rfl⟩
  obtain ⟨r, hr⟩ : ∃ r, r = N % y := ⟨_, rfl⟩
  rw [← hq, ← hr]
  have eq1 : ((N : Int) / (y : Int)) = (q : Int) := by rw [hq]; simp
  have eq2 : ((N : Int) % (y : Int)) = (r : Int) := by rw [hr]; simp
  have hqi : (q : Int) < 4294967296 := by omega
  have hri : (r : Int) < 4294967296 := by omega
  have hyp : (1 : Int) ≤ (y : Int) := by omega
  clear hN hq hr hNl hql hrl
  go_enter Tryz.func139, Tryz.ntmps139
  go_wp2_with fail
  go_quiet (fail)
  go_wp2_with fail
  go_ret2
  exact ⟨rfl, (Below.refl _ _).drewN _⟩

/-- how many bits a number has -/
def nbits (n : Nat) : Nat := if n = 0 then 0 else n.log2 + 1
theorem nbits_le {n k : Nat} : nbits n ≤ k ↔ n < 2 ^ k := by
  unfold nbits
  split
  · rename_i h; subst h; simp [Nat.pow_pos]
  · rename_i h; rw [← Nat.log2_lt h]; omega
theorem nbits_eq {n k : Nat} (h1 : n < 2 ^ k) (h2 : k = 0 ∨ 2 ^ (k - 1) ≤ n) : nbits n = k := by
  have a := nbits_le.2 h1
  rcases h2 with h2 | h2
  · omega
  · have : ¬ nbits n ≤ k - 1 := fun hh => absurd (nbits_le.1 hh) (by omega)
    omega
theorem bitLenAux_eq : ∀ (f x : Nat), x < 2 ^ f → Lib.bitLenAux f x = nbits x
  | 0, x, h => by have : x = 0 := by simpa using h
                  subst this; rfl
  | f + 1, x, h => by
    unfold Lib.bitLenAux
    split
    · rename_i h0; subst h0; rfl
    · rename_i h0
      rw [bitLenAux_eq f (x / 2) (by rw [Nat.pow_succ] at h; omega)]
      by_cases h1 : x / 2 = 0
      · have : x = 1 := by omega
        subst this; rfl
      · symm
        apply nbits_eq
        · have := (nbits_le (n := x / 2) (k := nbits (x / 2))).1 (Nat.le_refl _)
          rw [Nat.pow_add]; omega
        · right
          have hh : ¬ x / 2 < 2 ^ (nbits (x / 2) - 1) := fun hh => by
            have := nbits_le.2 hh
            have hp : 0 < nbits (x / 2) := by
              rcases Nat.eq_zero_or_pos (nbits (x / 2)) with h | h
              · exact absurd (nbits_le (k := 0)|>.1 (Nat.le_of_eq h)) (by simp; omega)
              · exact h
            omega
          have hp : 0 < nbits (x / 2) := by
            rcases Nat.eq_zero_or_pos (nbits (x / 2)) with h | h
            · exact absurd (nbits_le (k := 0)|>.1 (Nat.le_of_eq h)) (by simp; omega)
            · exact h
          obtain ⟨m, hm⟩ : ∃ m, nbits (x / 2) = m + 1 := ⟨nbits (x / 2) - 1, by omega⟩
          rw [hm] at hh ⊢
          simp only [Nat.add_sub_cancel] at hh
          rw [show 1 + (m + 1) - 1 = m + 1 by omega, Nat.pow_succ]; omega
theorem nbits_top {L : List Nat} {t : Nat} (hL : ∀ x ∈ L, x < B32) (ht : t ≠ 0) : nbits (val (L ++ [t])) = 32 * L.length + nbits t := by
  have hv : val (L ++ [t]) = val L + B32 ^ L.length * t := by rw [val_append]; simp [val]
  have hb := val_lt L hL
  have hB : B32 ^ L.length = 2 ^ (32 * L.length) := by rw [Nat.pow_mul]
  rw [hB] at hb hv
  have h1 := (nbits_le (n := t) (k := nbits t)).1 (Nat.le_refl _)
  have hp : 0 < nbits t := by unfold nbits; rw [if_neg ht]; omega
  have h2 : 2 ^ (nbits t - 1) ≤ t := by
    rcases Nat.lt_or_ge t (2 ^ (nbits t - 1)) with h | h
    · have := nbits_le.2 h; omega
    · exact h
  apply nbits_eq
  · rw [hv, Nat.pow_add]
    have : 2 ^ (32 * L.length) * (t + 1) ≤ 2 ^ (32 * L.length) * 2 ^ nbits t := Nat.mul_le_mul_left _ h1
    rw [Nat.mul_add] at this; omega
  · right
    rw [hv, show 32 * L.length + nbits t - 1 = 32 * L.length + (nbits t - 1) by omega, Nat.pow_add]
    have := Nat.mul_le_mul_left (2 ^ (32 * L.length)) h2
    omega

set_option maxRecDepth 100000 in
theorem Bits_any (a : Option Addr) (cap : Nat) (n : Nat) (w : World) (h : Lies w a cap (limbs n)) (hl : (limbs n).length ≤ 256) :
    Calls Tryz.prog 104 #[.slice a (limbs n).length cap] w fun e w' => e = .returned (.int .i64 (nbits n : Nat)) ∧ w = w' := by
  by_cases hn : n = 0
  · have e : (limbs n).length = 0 := by rw [hn, limbs_zero]; rfl
    rw [e, hn]
    clear e h hl hn
    go_enter Tryz.func104, Tryz.ntmps104
    go_wp2
    go_ret
    exact ⟨rfl, rfl⟩
  · have hne : limbs n ≠ [] := fun e => hn (limbs_eq_nil.1 e)
    have hlast := limbs_last hne
    have hpos : 0 < (limbs n).length := List.length_pos_iff.2 hne
    have hlle := h.le
    obtain ⟨b, off, rfl, hc⟩ := h.at_ ((limbs n).length - 1) (by omega)
    rw [← List.getLast_eq_getElem hne] at hc
    have hlt : (limbs n).getLast hne < 4294967296 := limbs_lt n _ (List.getLast_mem hne)
    have hnb : nbits n = 32 * ((limbs n).length - 1) + nbits ((limbs n).getLast hne) := by
      have e := List.dropLast_concat_getLast hne
      have := nbits_top (L := (limbs n).dropLast) (t := (limbs n).getLast hne) (fun x hx => limbs_lt n x (List.dropLast_subset _ hx)) hlast
      rw [e, val_limbs, List.length_dropLast] at this
      exact this
    have hbl : Lib.bitLen ((limbs n).getLast hne) = nbits ((limbs n).getLast hne) := bitLenAux_eq 64 _ (by omega)
    have hnb32 : nbits ((limbs n).getLast hne) ≤ 32 := nbits_le.2 hlt
    generalize (limbs n).getLast hne = x at *
    generalize (limbs n).length = k at *
    have hk : ((k : Int) == 0) = false := by simp; omega
    obtain ⟨j, rfl⟩ : ∃ j, k = j + 1 := ⟨k - 1, by omega⟩
    have hc' : w.cell? ⟨b, off + j, none⟩ = some (.int .u32 x) := by simpa using hc
    have HNB := Lib.hid hnb
    have HBL := Lib.hid hbl
    clear hc h hlast hnb hbl
    generalize nbits x = nb at *
    go_enter Tryz.func104, Tryz.ntmps104
    go_wp2_with fail
    refine (Tryz.bits_Len32 (x : Int) _ (by omega) (by omega)).mono ?_
    rintro e w1 ⟨rfl, hw1⟩
    subst hw1
    rw [Int.toNat_natCast, HBL.out]
    go_wp2_with fail
    go_ret
    refine ⟨?_, rfl⟩
    rw [HNB.out]
    simp

theorem sub_digit (x y b : Nat) (hx : x < 4294967296) (hy : y < 4294967296) (hb : b ≤ 1) : (x + 8589934592 - y - b) % 4294967296 + y + b = x + borN x y b * 4294967296 := by
  unfold borN; split <;> omega

theorem less_step {A A' Y : List Nat} {k br d y : Nat} (hk : k < A.length) (hl : A'.length = A.length) (hyv : val (Y.take (k + 1)) = val (Y.take k) + y * B32 ^ k) (bo : Nat)
    (hd : d + y + br = A[k] + bo * B32) (hv : val (A'.take k) + val (Y.take k) = val (A.take k) + br * B32 ^ k) :
    val ((A'.set k d).take (k + 1)) + val (Y.take (k + 1)) = val (A.take (k + 1)) + bo * B32 ^ (k + 1) := by
  rw [val_take_snoc (Y := A'.set k d) (by simp; omega), val_take_snoc hk, hyv, List.take_set_of_le (Nat.le_refl k)]
  simp only [List.getElem_set_self, Nat.pow_succ]
  have e : (d + y + br) * B32 ^ k = (A[k] + bo * B32) * B32 ^ k := by rw [hd]
  simp only [Nat.add_mul] at e
  rw [show bo * (B32 ^ k * B32) = bo * B32 * B32 ^ k by ac_rfl]
  omega

set_option maxRecDepth 100000 in
set_option maxHeartbeats 2000000 in
theorem less_any (g cap : Nat) (A : List Nat) (b : Option Addr) (cb : Nat) (Y : List Nat) (w : World) (ha : RowU w g cap A) (hb : Lies w b cb Y) (hne : ∀ x, b = some x → x.block ≠ g)
    (hle : Y.length ≤ A.length) (hvle : val Y ≤ val A) (hsz : A.length ≤ 1000) :
    Calls Tryz.prog 127 #[.slice (some ⟨g, 0, none⟩) A.length cap, .slice b Y.length cb] w fun e w' => e = .returned (.tuple #[]) ∧ (∃ A', A'.length = A.length ∧ val A' = val A - val Y ∧ RowU w' g cap A') ∧ Apart [g] w w' := by
  have h1 := ha.le; have h2 := hb.le
  have HA := Lib.hid ha; have HB := Lib.hid hb; have HNE := Lib.hid hne
  have HVLE := Lib.hid hvle
  clear ha hb hne hvle
  go_enter Tryz.func127, Tryz.ntmps127
  go_wp2_with fail
  go_loopw [4, 9] (fun c i wr => ∃ (k : Nat) (A' : List Nat) (br : Nat), k ≤ A.length ∧ i = .int .i64 k ∧ c = .int .u32 br ∧ br ≤ 1 ∧ A'.length = A.length ∧ val (A'.take k) + val (Y.take k) = val (A.take k) + br * B32 ^ k ∧ A'.drop k = A.drop k ∧ RowU wr g cap A' ∧ Apart [g] w wr) (fun _ i _ => A.length - (intOf i).toNat)
  case atStart => exact ⟨0, A, 0, Nat.zero_le _, rfl, rfl, by omega, rfl, by simp [val], rfl, HA.out, Apart.refl _ _⟩
  case round =>
    obtain ⟨k, A', br, hk, rfl, rfl, hbr, hal, hv, hd, hrow, hap⟩ := hrel
    have HV := Lib.hid hv; have HR := Lib.hid hrow; have AP := Lib.hid hap; have HAL := Lib.hid hal; have HD := Lib.hid hd
    have hgl := hrow.ltg
    clear hv hrow hap hal hd
    by_cases hlt : k < A.length
    · have hkA : k < A'.length := by rw [HAL.out]; exact hlt
      have hca := HR.out.cell k hkA
      have hfa := HR.out.frozen k
      have hxl : A'[k] < 4294967296 := HR.out.lt _ (List.getElem_mem hkA)
      have hAA : A'[k] = A[k] := by
        have h1 := List.drop_eq_getElem_cons hkA
        have h2 := List.drop_eq_getElem_cons hlt
        rw [HD.out, h2] at h1; exact (List.cons.inj h1).1.symm
      by_cases hq : k < Y.length
      · obtain ⟨bb, ob, rfl, hcb⟩ := HB.out.at_ k hq
        have hbg : bb ≠ g := HNE.out _ rfl
        have hcb' : wr.cell? ⟨bb, ob + k, none⟩ = some (.int .u32 (Y[k] : Nat)) := (World.cell?_of_block (AP.out.block bb (World.block_lt_of_cell? w _ hcb) (by simpa using hbg))).trans hcb
        have hyl : Y[k] < 4294967296 := HB.out.lt _ (List.getElem_mem hq)
        clear hcb
        have HS := Lib.hid (less_step (d := (A'[k] + 8589934592 - Y[k] - br) % 4294967296) hlt HAL.out (val_take_snoc hq) (borN A'[k] Y[k] br) (by rw [← hAA]; exact sub_digit _ _ _ hxl hyl hbr) HV.out)
        have hdl : (A'[k] + 8589934592 - Y[k] - br) % 4294967296 < B32 := Nat.mod_lt _ (by decide)
        have hbl : borN A'[k] Y[k] br ≤ 1 := by unfold borN; split <;> omega
        have HSUB := Lib.hid (Sub32_any A'[k] Y[k] br hxl hyl hbr)
        have HR3 := Lib.hid (HR.out.set k _ hkA hdl)
        have HD3 : Hid ((A'.set k ((A'[k] + 8589934592 - Y[k] - br) % 4294967296)).drop (k + 1) = A.drop (k + 1)) := by
          show (A'.set k _).drop (k + 1) = _
          rw [List.drop_set_of_lt (by omega)]
          have := congrArg (List.drop 1) HD.out
          simpa [List.drop_drop] using this
        have HBL := Lib.hid hbl
        clear hdl hAA hbl
        generalize (A'[k] + 8589934592 - Y[k] - br) % 4294967296 = dd at *
        generalize borN A'[k] Y[k] br = bo at *
        generalize A'[k] = xk at *
        generalize Y[k] = yk at *
        go_wp2_with fail
        refine (HSUB.out _).mono ?_
        rintro e w1 ⟨rfl, rfl⟩
        go_wp2_with fail
        go_roundw
        case rel => exact ⟨k + 1, _, bo, by omega, by go_num, rfl, HBL.out, by simp [HAL.out], HS.out, HD3.out, HR3.out, AP.out.setCell _ (by simp) _⟩
        case measure => simp [intOf]; omega
      · have hyv : val (Y.take (k + 1)) = val (Y.take k) + 0 * B32 ^ k := by
          rw [List.take_of_length_le (by omega), List.take_of_length_le (by omega)]; simp
        have HS := Lib.hid (less_step (d := (A'[k] + 8589934592 - 0 - br) % 4294967296) hlt HAL.out hyv (borN A'[k] 0 br) (by rw [← hAA]; exact sub_digit _ _ _ hxl (by decide) hbr) HV.out)
        have hdl : (A'[k] + 8589934592 - 0 - br) % 4294967296 < B32 := Nat.mod_lt _ (by decide)
        have hbl : borN A'[k] 0 br ≤ 1 := by unfold borN; split <;> omega
        have HSUB := Lib.hid (Sub32_any A'[k] 0 br hxl (by decide) hbr)
        have HR3 := Lib.hid (HR.out.set k _ hkA hdl)
        have HD3 : Hid ((A'.set k ((A'[k] + 8589934592 - 0 - br) % 4294967296)).drop (k + 1) = A.drop (k + 1)) := by
          show (A'.set k _).drop (k + 1) = _
          rw [List.drop_set_of_lt (by omega)]
          have := congrArg (List.drop 1) HD.out
          simpa [List.drop_drop] using this
        have HBL := Lib.hid hbl
        clear hdl hAA hbl hyv
        generalize (A'[k] + 8589934592 - 0 - br) % 4294967296 = dd at *
        generalize borN A'[k] 0 br = bo at *
        generalize A'[k] = xk at *
        go_wp2_with fail
        refine (HSUB.out _).mono ?_
        rintro e w1 ⟨rfl, rfl⟩
        go_wp2_with fail
        go_roundw
        case rel => exact ⟨k + 1, _, bo, by omega, by go_num, rfl, HBL.out, by simp [HAL.out], HS.out, HD3.out, HR3.out, AP.out.setCell _ (by simp) _⟩
        case measure => simp [intOf]; omega
    · obtain rfl : k = A.length := by omega
      have hres : val A' = val A - val Y := by
        have h1 := HV.out
        rw [List.take_length, List.take_of_length_le (Nat.le_of_eq HAL.out), List.take_of_length_le hle] at h1
        have h2 := val_lt A' HR.out.lt
        rw [HAL.out] at h2
        have h3 := HVLE.out
        have h4 : br = 0 := by
          rcases Nat.lt_or_ge br 1 with h | h
          · omega
          · have : br = 1 := by omega
            subst this; omega
        subst h4; omega
      have HRES := Lib.hid hres
      clear hres
      go_wp2_with fail
      go_end0
      exact ⟨rfl, ⟨A', HAL.out, HRES.out, HR.out⟩, AP.out⟩
end Go.Proofs.YtcipmfjefmjacaaGreatDoor
