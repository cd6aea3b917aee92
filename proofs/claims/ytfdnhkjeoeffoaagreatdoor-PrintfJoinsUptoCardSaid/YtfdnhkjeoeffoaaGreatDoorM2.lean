/- Several texts in one (N6, N7, N8, N9, N10, N11, N12, P3). -/
import Derived.Test.YtfdnhkjeoeffoaaGreatDoorM1
import Derived.Laws.BitsAllLaws
import Derived.Laws.ShiftsVarLaws
import Derived.BigRegion
import Derived.Lib.ConvBytes
import Derived.Lib.SmallJoins
import Derived.Test.YtfdnhkjeoeffoaaGreatDoorShelf
import Derived.Shelf.Strconv.AtoiErr
section
/- math/bits.Sub32, Div32; package nat: Bits, less, small. -/
namespace Go.Proofs.YtfdnhkjeoeffoaaGreatDoor
open Go.RowKit
set_option linter.unusedVariables false
theorem shr31_or (a b : Nat) : (a ||| b) / 2147483648 = (a / 2147483648) ||| (b / 2147483648) := by
 have := Nat.shiftRight_or_distrib (a := a) (b := b) (i := 31); simpa [Nat.shiftRight_eq_div_pow] using this
theorem shr31_and (a b : Nat) : (a &&& b) / 2147483648 = (a / 2147483648) &&& (b / 2147483648) := by
 have := Nat.shiftRight_and_distrib (a := a) (b := b) (i := 31); simpa [Nat.shiftRight_eq_div_pow] using this
theorem shr31_xor (a b : Nat) : (a ^^^ b) / 2147483648 = (a / 2147483648) ^^^ (b / 2147483648) := by
 have := Nat.shiftRight_xor_distrib (a := a) (b := b) (i := 31); simpa [Nat.shiftRight_eq_div_pow] using this
/-- what is borrowed -/
def borN (x y b : Nat) : Nat := if x < y + b then 1 else 0
theorem bor_bits (x y b d : Nat) (hx : x < 4294967296) (hy : y < 4294967296) (hb : b ≤ 1) (hd : d = (x + 8589934592 - y - b) % 4294967296) :
 (((4294967295 ^^^ x) &&& y) ||| ((4294967295 ^^^ (x ^^^ y)) &&& d)) / 2147483648 = borN x y b := by
 rw [shr31_or, shr31_and, shr31_and, shr31_xor, shr31_xor, shr31_xor]
 have h1 : x / 2147483648 = 0 ∨ x / 2147483648 = 1 := by omega
 have h2 : y / 2147483648 = 0 ∨ y / 2147483648 = 1 := by omega
 have hdl : d < 4294967296 := by omega
 have h3 : d / 2147483648 = 0 ∨ d / 2147483648 = 1 := by omega
 unfold borN
 rw [show 4294967295 / 2147483648 = 1 from rfl]
 rcases h1 with h1 | h1 <;> rcases h2 with h2 | h2 <;> rcases h3 with h3 | h3 <;> rw [h1, h2, h3] <;> split <;> first | rfl | (exfalso; omega)
theorem sub32_bits (x y b : Nat) (hx : x < 4294967296) (hy : y < 4294967296) (hb : b ≤ 1) :
 (bits .or .u32 (bits .and .u32 (bits .xor .u32 IntKind.u32.max (x : Int)) (y : Int)) (bits .and .u32 (bits .xor .u32 IntKind.u32.max (bits .xor .u32 (x : Int) (y : Int))) (((x : Int) - y - b) % 4294967296))) / 2147483648 = (borN x y b : Int) := by
 obtain ⟨d, hd⟩ : ∃ d, d = (x + 8589934592 - y - b) % 4294967296 := ⟨_, rfl⟩
 have e1 : ((x : Int) - y - b) % 4294967296 = (d : Int) := by omega
 have hdl : d < 4294967296 := by omega
 have hm : IntKind.u32.max = ((4294967295 : Nat) : Int) := by decide
 have l1 : x ^^^ y < 4294967296 := Nat.xor_lt_two_pow (n := 32) hx hy
 have l2 : 4294967295 ^^^ x < 4294967296 := Nat.xor_lt_two_pow (n := 32) (by decide) hx
 have l3 : 4294967295 ^^^ (x ^^^ y) < 4294967296 := Nat.xor_lt_two_pow (n := 32) (by decide) l1
 have l4 : (4294967295 ^^^ x) &&& y < 4294967296 := Nat.lt_of_le_of_lt Nat.and_le_right hy
 have l5 : (4294967295 ^^^ (x ^^^ y)) &&& d < 4294967296 := Nat.lt_of_le_of_lt Nat.and_le_right hdl
 rw [e1, hm, u32_xor_nat _ _ (by decide) hx, u32_and_nat _ _ l2 hy, u32_xor_nat _ _ hx hy, u32_xor_nat _ _ (by decide) l1, u32_and_nat _ _ l3 hdl, u32_or_nat _ _ l4 l5]
 have := bor_bits x y b d hx hy hb hd
 rw [← this]
 simp
theorem Sub32_any (x y b : Nat) (hx : x < 4294967296) (hy : y < 4294967296) (hb : b ≤ 1) (w : World) :
 Calls Tryz.prog 277 #[.int .u32 x, .int .u32 y, .int .u32 b] w fun e w' =>
  e = .returned (.tuple #[.int .u32 ((x + 8589934592 - y - b) % 4294967296 : Nat), .int .u32 (borN x y b : Nat)]) ∧ w = w' := by
 have hbits := Lib.hid (sub32_bits x y b hx hy hb)
 have hd : Hid (((x : Int) - y - b) % 4294967296 = (((x + 8589934592 - y - b) % 4294967296 : Nat) : Int)) := by
  show ((x : Int) - y - b) % 4294967296 = (((x + 8589934592 - y - b) % 4294967296 : Nat) : Int); omega
 go_enter Tryz.func277, Tryz.ntmps277
 go_wp2_with fail
 all_goals
  refine bodyPost_ret (v := .tuple #[.int .u32 ((x + 8589934592 - y - b) % 4294967296 : Nat), .int .u32 (borN x y b : Nat)]) ?_ rfl ⟨rfl, rfl⟩
  rw [← hbits.out, ← hd.out]
  simp [results, Tryz.results277, go_sem]
theorem Div32_any (hi lo y : Nat) (h1 : hi < y) (h2 : lo < 4294967296) (h3 : y < 4294967296) (w : World) :
 Calls Tryz.prog 230 #[.int .u32 hi, .int .u32 lo, .int .u32 y] w fun e w' =>
  e = .returned (.tuple #[.int .u32 ((hi * 4294967296 + lo) / y : Nat), .int .u32 ((hi * 4294967296 + lo) % y : Nat)]) ∧ Below w.heap.size w w' := by
 have e1 : ((y : Int) != 0) = true := by simp; omega
 have e2 : decide (y ≤ hi) = false := by simp; omega
 have e3 : decide ((y : Int) ≤ (hi : Int)) = false := by simp; omega
 obtain ⟨N, hN⟩ : ∃ N, N = hi * 4294967296 + lo := ⟨_, rfl⟩
 rw [← hN]
 have eo : bits .or .u64 ((hi : Int) * 4294967296) (lo : Int) = (N : Int) := by
  have := u64_or_nat (hi * 4294967296) lo (by omega) (by omega)
  rw [nat_join 32 _ _ (by omega) (by omega), ← hN] at this
  rw [← this]; simp
 have hNl : N < y * 4294967296 := by
  have : (hi + 1) * 4294967296 ≤ y * 4294967296 := Nat.mul_le_mul_right _ h1
  omega
 have hql : N / y < 4294967296 := Nat.div_lt_of_lt_mul hNl
 have hrl : N % y < 4294967296 := Nat.lt_trans (Nat.mod_lt _ (by omega)) h3
 obtain ⟨q, hq⟩ : ∃ q, q = N / y := ⟨_, rfl⟩
 obtain ⟨r, hr⟩ : ∃ r, r = N % y := ⟨_, rfl⟩
 rw [← hq, ← hr]
 have eq1 : ((N : Int) / (y : Int)) = (q : Int) := by rw [hq]; simp
 have eq2 : ((N : Int) % (y : Int)) = (r : Int) := by rw [hr]; simp
 have hqi : (q : Int) < 4294967296 := by omega
 have hri : (r : Int) < 4294967296 := by omega
 have hyp : (1 : Int) ≤ (y : Int) := by omega
 clear hN hq hr hNl hql hrl
 go_enter Tryz.func230, Tryz.ntmps230
 go_wp2_with fail
 go_quiet (fail)
 go_wp2_with fail
 go_ret2
 exact ⟨rfl, (Below.refl _ _).drewN _⟩
/-- how many bits a number has -/
def nbits (n : Nat) : Nat := if n = 0 then 0 else n.log2 + 1
theorem nbits_le {n k : Nat} : nbits n ≤ k ↔ n < 2 ^ k := by
 unfold nbits
 split
 ·rename_i h; subst h; simp [Nat.pow_pos]
 ·rename_i h; rw [← Nat.log2_lt h]; omega
theorem nbits_eq {n k : Nat} (h1 : n < 2 ^ k) (h2 : k = 0 ∨ 2 ^ (k - 1) ≤ n) : nbits n = k := by
 have a := nbits_le.2 h1
 rcases h2 with h2 | h2
 ·omega
 ·have : ¬ nbits n ≤ k - 1 := fun hh => absurd (nbits_le.1 hh) (by omega)
  omega
theorem bitLenAux_eq : ∀ (f x : Nat), x < 2 ^ f → Lib.bitLenAux f x = nbits x
 | 0, x, h => by have : x = 0 := by simpa using h
                 subst this; rfl
 | f + 1, x, h => by
   unfold Lib.bitLenAux
   split
   ·rename_i h0; subst h0; rfl
   ·rename_i h0
    rw [bitLenAux_eq f (x / 2) (by rw [Nat.pow_succ] at h; omega)]
    by_cases h1 : x / 2 = 0
    ·have : x = 1 := by omega
     subst this; rfl
    ·symm
     apply nbits_eq
     ·have := (nbits_le (n := x / 2) (k := nbits (x / 2))).1 (Nat.le_refl _)
      rw [Nat.pow_add]; omega
     ·right
      have hh : ¬ x / 2 < 2 ^ (nbits (x / 2) - 1) := fun hh => by
       have := nbits_le.2 hh
       have hp : 0 < nbits (x / 2) := by
        rcases Nat.eq_zero_or_pos (nbits (x / 2)) with h | h
        ·exact absurd (nbits_le (k := 0)|>.1 (Nat.le_of_eq h)) (by simp; omega)
        ·exact h
       omega
      have hp : 0 < nbits (x / 2) := by
       rcases Nat.eq_zero_or_pos (nbits (x / 2)) with h | h
       ·exact absurd (nbits_le (k := 0)|>.1 (Nat.le_of_eq h)) (by simp; omega)
       ·exact h
      obtain ⟨m, hm⟩ : ∃ m, nbits (x / 2) = m + 1 := ⟨nbits (x / 2) - 1, by omega⟩
      rw [hm] at hh ⊢
      simp only [Nat.add_sub_cancel] at hh
      rw [show 1 + (m + 1) - 1 = m + 1 by omega, Nat.pow_succ]; omega
theorem nbits_top {L : List Nat} {t : Nat} (hL : ∀ x ∈ L, x < B32) (ht : t ≠ 0) : nbits (val (L ++ [t])) = 32 * L.length + nbits t := by
 have hv : val (L ++ [t]) = val L + B32 ^ L.length * t := by rw [val_append]; simp [val]
 have hb := val_lt L hL
 have hB : B32 ^ L.length = 2 ^ (32 * L.length) := by rw [Nat.pow_mul]
 rw [hB] at hb hv
 have h1 := (nbits_le (n := t) (k := nbits t)).1 (Nat.le_refl _)
 have hp : 0 < nbits t := by unfold nbits; rw [if_neg ht]; omega
 have h2 : 2 ^ (nbits t - 1) ≤ t := by
  rcases Nat.lt_or_ge t (2 ^ (nbits t - 1)) with h | h
  ·have := nbits_le.2 h; omega
  ·exact h
 apply nbits_eq
 ·rw [hv, Nat.pow_add]
  have : 2 ^ (32 * L.length) * (t + 1) ≤ 2 ^ (32 * L.length) * 2 ^ nbits t := Nat.mul_le_mul_left _ h1
  rw [Nat.mul_add] at this; omega
 ·right
  rw [hv, show 32 * L.length + nbits t - 1 = 32 * L.length + (nbits t - 1) by omega, Nat.pow_add]
  have := Nat.mul_le_mul_left (2 ^ (32 * L.length)) h2
  omega
set_option maxRecDepth 100000 in
theorem Bits_any (a : Option Addr) (cap : Nat) (n : Nat) (w : World) (h : Lies w a cap (limbs n)) (hl : (limbs n).length ≤ 256) :
 Calls Tryz.prog 244 #[.slice a (limbs n).length cap] w fun e w' => e = .returned (.int .i64 (nbits n : Nat)) ∧ w = w' := by
 by_cases hn : n = 0
 ·have e : (limbs n).length = 0 := by rw [hn, limbs_zero]; rfl
  rw [e, hn]
  clear e h hl hn
  go_enter Tryz.func244, Tryz.ntmps244
  go_wp2
  go_ret
  exact ⟨rfl, rfl⟩
 ·have hne : limbs n ≠ [] := fun e => hn (limbs_eq_nil.1 e)
  have hlast := limbs_last hne
  have hpos : 0 < (limbs n).length := List.length_pos_iff.2 hne
  have hlle := h.le
  obtain ⟨b, off, rfl, hc⟩ := h.at_ ((limbs n).length - 1) (by omega)
  rw [← List.getLast_eq_getElem hne] at hc
  have hlt : (limbs n).getLast hne < 4294967296 := limbs_lt n _ (List.getLast_mem hne)
  have hnb : nbits n = 32 * ((limbs n).length - 1) + nbits ((limbs n).getLast hne) := by
   have e := List.dropLast_concat_getLast hne
   have := nbits_top (L := (limbs n).dropLast) (t := (limbs n).getLast hne) (fun x hx => limbs_lt n x (List.dropLast_subset _ hx)) hlast
   rw [e, val_limbs, List.length_dropLast] at this
   exact this
  have hbl : Lib.bitLen ((limbs n).getLast hne) = nbits ((limbs n).getLast hne) := bitLenAux_eq 64 _ (by omega)
  have hnb32 : nbits ((limbs n).getLast hne) ≤ 32 := nbits_le.2 hlt
  generalize (limbs n).getLast hne = x at *
  generalize (limbs n).length = k at *
  have hk : ((k : Int) == 0) = false := by simp; omega
  obtain ⟨j, rfl⟩ : ∃ j, k = j + 1 := ⟨k - 1, by omega⟩
  have hc' : w.cell? ⟨b, off + j, none⟩ = some (.int .u32 x) := by simpa using hc
  have HNB := Lib.hid hnb
  have HBL := Lib.hid hbl
  clear hc h hlast hnb hbl
  generalize nbits x = nb at *
  go_enter Tryz.func244, Tryz.ntmps244
  go_wp2_with fail
  refine (Tryz.bits_Len32 (x : Int) _ (by omega) (by omega)).mono ?_
  rintro e w1 ⟨rfl, hw1⟩
  subst hw1
  rw [Int.toNat_natCast, HBL.out]
  go_wp2_with fail
  go_ret
  refine ⟨?_, rfl⟩
  rw [HNB.out]
  simp
theorem sub_digit (x y b : Nat) (hx : x < 4294967296) (hy : y < 4294967296) (hb : b ≤ 1) : (x + 8589934592 - y - b) % 4294967296 + y + b = x + borN x y b * 4294967296 := by
 unfold borN; split <;> omega
theorem less_step {A A' Y : List Nat} {k br d y : Nat} (hk : k < A.length) (hl : A'.length = A.length) (hyv : val (Y.take (k + 1)) = val (Y.take k) + y * B32 ^ k) (bo : Nat)
 (hd : d + y + br = A[k] + bo * B32) (hv : val (A'.take k) + val (Y.take k) = val (A.take k) + br * B32 ^ k) :
 val ((A'.set k d).take (k + 1)) + val (Y.take (k + 1)) = val (A.take (k + 1)) + bo * B32 ^ (k + 1) := by
 rw [val_take_snoc (Y := A'.set k d) (by simp; omega), val_take_snoc hk, hyv, List.take_set_of_le (Nat.le_refl k)]
 simp only [List.getElem_set_self, Nat.pow_succ]
 have e : (d + y + br) * B32 ^ k = (A[k] + bo * B32) * B32 ^ k := by rw [hd]
 simp only [Nat.add_mul] at e
 rw [show bo * (B32 ^ k * B32) = bo * B32 * B32 ^ k by ac_rfl]
 omega
set_option maxRecDepth 100000 in
set_option maxHeartbeats 2000000 in
theorem less_any (g cap : Nat) (A : List Nat) (b : Option Addr) (cb : Nat) (Y : List Nat) (w : World) (ha : RowU w g cap A) (hb : Lies w b cb Y) (hne : ∀ x, b = some x → x.block ≠ g)
 (hle : Y.length ≤ A.length) (hvle : val Y ≤ val A) (hsz : A.length ≤ 1000) :
 Calls Tryz.prog 245 #[.slice (some ⟨g, 0, none⟩) A.length cap, .slice b Y.length cb] w fun e w' => e = .returned (.tuple #[]) ∧ (∃ A', A'.length = A.length ∧ val A' = val A - val Y ∧ RowU w' g cap A') ∧ Apart [g] w w' := by
 have h1 := ha.le; have h2 := hb.le
 have HA := Lib.hid ha; have HB := Lib.hid hb; have HNE := Lib.hid hne
 have HVLE := Lib.hid hvle
 clear ha hb hne hvle
 go_enter Tryz.func245, Tryz.ntmps245
 go_wp2_with fail
 go_loopw [4, 9] (fun c i wr => ∃ (k : Nat) (A' : List Nat) (br : Nat), k ≤ A.length ∧ i = .int .i64 k ∧ c = .int .u32 br ∧ br ≤ 1 ∧ A'.length = A.length ∧ val (A'.take k) + val (Y.take k) = val (A.take k) + br * B32 ^ k ∧ A'.drop k = A.drop k ∧ RowU wr g cap A' ∧ Apart [g] w wr) (fun _ i _ => A.length - (intOf i).toNat)
 case atStart => exact ⟨0, A, 0, Nat.zero_le _, rfl, rfl, by omega, rfl, by simp [val], rfl, HA.out, Apart.refl _ _⟩
 case round =>
  obtain ⟨k, A', br, hk, rfl, rfl, hbr, hal, hv, hd, hrow, hap⟩ := hrel
  have HV := Lib.hid hv; have HR := Lib.hid hrow; have AP := Lib.hid hap; have HAL := Lib.hid hal; have HD := Lib.hid hd
  have hgl := hrow.ltg
  clear hv hrow hap hal hd
  by_cases hlt : k < A.length
  ·have hkA : k < A'.length := by rw [HAL.out]; exact hlt
   have hca := HR.out.cell k hkA
   have hfa := HR.out.frozen k
   have hxl : A'[k] < 4294967296 := HR.out.lt _ (List.getElem_mem hkA)
   have hAA : A'[k] = A[k] := by
    have h1 := List.drop_eq_getElem_cons hkA
    have h2 := List.drop_eq_getElem_cons hlt
    rw [HD.out, h2] at h1; exact (List.cons.inj h1).1.symm
   by_cases hq : k < Y.length
   ·obtain ⟨bb, ob, rfl, hcb⟩ := HB.out.at_ k hq
    have hbg : bb ≠ g := HNE.out _ rfl
    have hcb' : wr.cell? ⟨bb, ob + k, none⟩ = some (.int .u32 (Y[k] : Nat)) := (World.cell?_of_block (AP.out.block bb (World.block_lt_of_cell? w _ hcb) (by simpa using hbg))).trans hcb
    have hyl : Y[k] < 4294967296 := HB.out.lt _ (List.getElem_mem hq)
    clear hcb
    have HS := Lib.hid (less_step (d := (A'[k] + 8589934592 - Y[k] - br) % 4294967296) hlt HAL.out (val_take_snoc hq) (borN A'[k] Y[k] br) (by rw [← hAA]; exact sub_digit _ _ _ hxl hyl hbr) HV.out)
    have hdl : (A'[k] + 8589934592 - Y[k] - br) % 4294967296 < B32 := Nat.mod_lt _ (by decide)
    have hbl : borN A'[k] Y[k] br ≤ 1 := by unfold borN; split <;> omega
    have HSUB := Lib.hid (Sub32_any A'[k] Y[k] br hxl hyl hbr)
    have HR3 := Lib.hid (HR.out.set k _ hkA hdl)
    have HD3 : Hid ((A'.set k ((A'[k] + 8589934592 - Y[k] - br) % 4294967296)).drop (k + 1) = A.drop (k + 1)) := by
     show (A'.set k _).drop (k + 1) = _
     rw [List.drop_set_of_lt (by omega)]
     have := congrArg (List.drop 1) HD.out
     simpa [List.drop_drop] using this
    have HBL := Lib.hid hbl
    clear hdl hAA hbl
    generalize (A'[k] + 8589934592 - Y[k] - br) % 4294967296 = dd at *
    generalize borN A'[k] Y[k] br = bo at *
    generalize A'[k] = xk at *
    generalize Y[k] = yk at *
    go_wp2_with fail
    refine (HSUB.out _).mono ?_
    rintro e w1 ⟨rfl, rfl⟩
    go_wp2_with fail
    go_roundw
    case rel => exact ⟨k + 1, _, bo, by omega, by go_num, rfl, HBL.out, by simp [HAL.out], HS.out, HD3.out, HR3.out, AP.out.setCell _ (by simp) _⟩
    case measure => simp [intOf]; omega
   ·have hyv : val (Y.take (k + 1)) = val (Y.take k) + 0 * B32 ^ k := by
     rw [List.take_of_length_le (by omega), List.take_of_length_le (by omega)]; simp
    have HS := Lib.hid (less_step (d := (A'[k] + 8589934592 - 0 - br) % 4294967296) hlt HAL.out hyv (borN A'[k] 0 br) (by rw [← hAA]; exact sub_digit _ _ _ hxl (by decide) hbr) HV.out)
    have hdl : (A'[k] + 8589934592 - 0 - br) % 4294967296 < B32 := Nat.mod_lt _ (by decide)
    have hbl : borN A'[k] 0 br ≤ 1 := by unfold borN; split <;> omega
    have HSUB := Lib.hid (Sub32_any A'[k] 0 br hxl (by decide) hbr)
    have HR3 := Lib.hid (HR.out.set k _ hkA hdl)
    have HD3 : Hid ((A'.set k ((A'[k] + 8589934592 - 0 - br) % 4294967296)).drop (k + 1) = A.drop (k + 1)) := by
     show (A'.set k _).drop (k + 1) = _
     rw [List.drop_set_of_lt (by omega)]
     have := congrArg (List.drop 1) HD.out
     simpa [List.drop_drop] using this
    have HBL := Lib.hid hbl
    clear hdl hAA hbl hyv
    generalize (A'[k] + 8589934592 - 0 - br) % 4294967296 = dd at *
    generalize borN A'[k] 0 br = bo at *
    generalize A'[k] = xk at *
    go_wp2_with fail
    refine (HSUB.out _).mono ?_
    rintro e w1 ⟨rfl, rfl⟩
    go_wp2_with fail
    go_roundw
    case rel => exact ⟨k + 1, _, bo, by omega, by go_num, rfl, HBL.out, by simp [HAL.out], HS.out, HD3.out, HR3.out, AP.out.setCell _ (by simp) _⟩
    case measure => simp [intOf]; omega
  ·obtain rfl : k = A.length := by omega
   have hres : val A' = val A - val Y := by
    have h1 := HV.out
    rw [List.take_length, List.take_of_length_le (Nat.le_of_eq HAL.out), List.take_of_length_le hle] at h1
    have h2 := val_lt A' HR.out.lt
    rw [HAL.out] at h2
    have h3 := HVLE.out
    have h4 : br = 0 := by
     rcases Nat.lt_or_ge br 1 with h | h
     ·omega
     ·have : br = 1 := by omega
      subst this; omega
    subst h4; omega
   have HRES := Lib.hid hres
   clear hres
   go_wp2_with fail
   go_end0
   exact ⟨rfl, ⟨A', HAL.out, HRES.out, HR.out⟩, AP.out⟩
end Go.Proofs.YtfdnhkjeoeffoaaGreatDoor
end

section
/- Package nat: small (division by one limb). -/
namespace Go.Proofs.YtfdnhkjeoeffoaaGreatDoor
open Go.RowKit
set_option linter.unusedVariables false
theorem small_digit (a H d : Nat) (hd : 0 < d) : (a + B32 * H) / d = (H % d * B32 + a) / d + B32 * (H / d) ∧ (a + B32 * H) % d = (H % d * B32 + a) % d := by
 have e : a + B32 * H = (H % d * B32 + a) + d * (B32 * (H / d)) := by
  conv => lhs; rw [← Nat.div_add_mod H d]
  rw [Nat.mul_add]
  rw [show B32 * (d * (H / d)) = d * (B32 * (H / d)) by ac_rfl, Nat.mul_comm B32 (H % d)]
  omega
 rw [e, Nat.add_mul_div_left _ _ hd, Nat.add_mul_mod_self_left]
 exact ⟨rfl, rfl⟩
theorem drop_set_head {A : List Nat} {k y : Nat} (h : k < A.length) : (A.set k y).drop k = y :: A.drop (k + 1) := by
 rw [List.drop_eq_getElem_cons (by simpa using h)]
 simp [List.drop_set_of_lt]
set_option maxRecDepth 100000 in
set_option maxHeartbeats 2000000 in
theorem small_any (g cap : Nat) (A : List Nat) (d : Nat) (w : World) (ha : RowU w g cap A) (hd : 0 < d) (hdl : d < 4294967296) (hsz : A.length ≤ 1000000) :
 Calls Tryz.prog 177 #[.slice (some ⟨g, 0, none⟩) A.length cap, .int .u32 d] w fun e w' => e = .returned (.int .u32 (val A % d : Nat)) ∧ (∃ A', A'.length = A.length ∧ val A' = val A / d ∧ RowU w' g cap A') ∧ Apart [g] w w' := by
 have h1 := ha.le
 have HA := Lib.hid ha
 clear ha
 go_enter Tryz.func177, Tryz.ntmps177
 go_wp2_with fail
 go_loopw [5, 6] (fun l i wr => ∃ (k : Nat) (A' : List Nat) (lf : Nat), k ≤ A.length ∧ i = .int .i64 ((k : Int) - 1) ∧ l = .int .u32 lf ∧ lf = val (A.drop k) % d ∧ A'.length = A.length ∧ val (A'.drop k) = val (A.drop k) / d ∧ A'.take k = A.take k ∧ RowU wr g cap A' ∧ Apart [g] w wr) (fun _ i _ => (intOf i + 1).toNat)
 case atStart => exact ⟨A.length, A, 0, Nat.le_refl _, rfl, rfl, by simp [val], rfl, by simp [val], rfl, HA.out, Apart.refl _ _⟩
 case round =>
  obtain ⟨k, A', lf, hk, rfl, rfl, hlf, hal, hv, ht, hrow, hap⟩ := hrel
  have HV := Lib.hid hv; have HR := Lib.hid hrow; have AP := Lib.hid hap; have HAL := Lib.hid hal; have HT := Lib.hid ht; have HLF := Lib.hid hlf
  have hgl := hrow.ltg
  have hlfd : lf < d := by rw [hlf]; exact Nat.mod_lt _ hd
  clear hv hrow hap hal ht hlf
  cases k with
  | zero =>
    go_wp2_with fail
    go_ret
    exact ⟨by rw [show val A % d = lf by rw [HLF.out]; rfl]; rfl, ⟨A', HAL.out, by simpa using HV.out, HR.out⟩, AP.out⟩
  | succ k =>
    have hkA : k < A'.length := by rw [HAL.out]; omega
    have hkA2 : k < A.length := by omega
    have hca := HR.out.cell k hkA
    have hAA : A'[k] = A[k] := by
     have h1 : (A'.take (k + 1))[k]? = (A.take (k + 1))[k]? := by rw [HT.out]
     simpa [hkA, hkA2] using h1
    have hxl : A'[k] < 4294967296 := HR.out.lt _ (List.getElem_mem hkA)
    have hdg := small_digit A[k] (val (A.drop (k + 1))) d hd
    rw [← HLF.out, ← hAA] at hdg
    have hvd : val (A.drop k) = A'[k] + B32 * val (A.drop (k + 1)) := by rw [List.drop_eq_getElem_cons hkA2, val, hAA]
    obtain ⟨q, hq⟩ : ∃ q, q = (lf * 4294967296 + A'[k]) / d := ⟨_, rfl⟩
    obtain ⟨r, hr⟩ : ∃ r, r = (lf * 4294967296 + A'[k]) % d := ⟨_, rfl⟩
    have hql : q < B32 := by
     rw [hq]; apply Nat.div_lt_of_lt_mul
     have : (lf + 1) * 4294967296 ≤ d * 4294967296 := Nat.mul_le_mul_right _ hlfd
     show lf * 4294967296 + A'[k] < d * 4294967296
     omega
    have HDIV := Lib.hid (Div32_any lf A'[k] d hlfd hxl hdl)
    rw [← hq, ← hr] at HDIV
    have HR3 := fun (w' : World) (hw : w'.heap[g]? = wr.heap[g]?) => (HR.out.keep hw).set k q hkA hql
    have HR3' := Lib.hid HR3
    have HV3 : Hid (val ((A'.set k q).drop k) = val (A.drop k) / d) := by
     show val ((A'.set k q).drop k) = val (A.drop k) / d
     rw [drop_set_head hkA, val, HV.out, hvd, hdg.1, hq]
    have HL3 : Hid (r = val (A.drop k) % d) := by show r = _; rw [hvd, hdg.2, hr]
    have HT3 : Hid ((A'.set k q).take k = A.take k) := by
     show (A'.set k q).take k = A.take k
     rw [List.take_set_of_le (Nat.le_refl k)]
     have := congrArg (List.take k) HT.out
     simpa [List.take_take] using this
    clear hAA hdg hvd hq hr hql HR3
    generalize A'[k] = xk at *
    go_wp2_with fail
    refine (HDIV.out _).mono ?_
    rintro e w1 ⟨rfl, hb⟩
    have hcw : w1.cell? ⟨g, k, none⟩ = some (.int .u32 xk) := (hb.cell hgl).trans hca
    have hfw : w1.frozen? ⟨g, k, none⟩ = false := (hb.frozen hgl).trans (HR.out.frozen k)
    have hgl1 : g < w1.heap.size := Nat.lt_of_lt_of_le hgl hb.size
    have HRW := Lib.hid (HR3'.out w1 (hb.block g hgl))
    have AP1 := Lib.hid (AP.out.trans (Apart.of_below hb [g]) (by intro x hx; exact .inl hx))
    clear hb hca
    go_wp2_with fail
    go_roundw
    case rel => exact ⟨k, _, r, by omega, rfl, rfl, HL3.out, by simp [HAL.out], HV3.out, HT3.out, HRW.out, AP1.out.setCell _ (by simp) _⟩
    case measure => simp [intOf]
theorem small_nil (d : Nat) (w : World) : Calls Tryz.prog 177 #[.slice none 0 0, .int .u32 d] w fun e w' => e = .returned (.int .u32 0) ∧ w = w' := by
 go_enter Tryz.func177, Tryz.ntmps177
 go_wp2_with fail
 refine wp_loop_rounds 1 ?_
 rw [rounds_succ]
 go_wp2_with fail
 go_ret
 exact ⟨rfl, rfl⟩
end Go.Proofs.YtfdnhkjeoeffoaaGreatDoor
end

section
/- Package nat: Div. -/
namespace Go.Proofs.YtfdnhkjeoeffoaaGreatDoor
open Go.RowKit
set_option linter.unusedVariables false
theorem NatV.of_trim {w : World} {a : Option Addr} {cap n : Nat} {L : List Nat} (h : Lies w a cap L) (hv : val L = n) : NatV w (.slice a (trimL L).length (trimL L).length) n ∧ trimL L = limbs n := by
 have e : trimL L = limbs n := by rw [trimL_limbs _ h.lt, hv]
 refine ⟨?_, e⟩
 have h1 := h.take (trimL L).length
 rw [← trimL_prefix, e] at h1
 rw [e]
 exact ⟨a, _, rfl, h1.clip⟩
set_option maxRecDepth 100000 in
set_option maxHeartbeats 2000000 in
theorem Div_small (va vb : Value) (x y : Nat) (w : World) (hx : NatV w va x) (hy : NatV w vb y) (hX : (limbs x).length ≤ 256) (hY : (limbs y).length = 1) :
 Calls Tryz.prog 192 #[va, vb] w fun e w' => ∃ q r, e = .returned (.tuple #[q, r, .int .i64 0]) ∧ NatV w' q (x / y) ∧ NatV w' r (x % y) ∧ Below w.heap.size w w' := by
 obtain ⟨a, ca, rfl, ha⟩ := hx
 obtain ⟨b, cb, rfl, hb⟩ := hy
 have V1 := Lib.hid (valid_any a ca x w ha hX)
 have V2 := Lib.hid (valid_any b cb y w hb (by omega))
 obtain ⟨d, hd⟩ : ∃ d, limbs y = [d] := by
  rcases h : limbs y with _ | ⟨d, l⟩
  ·rw [h] at hY; simp at hY
  ·rw [h] at hY
   simp at hY
   exact ⟨d, by rw [hY]⟩
 have hyd : y = d := by have := val_limbs y; rw [hd] at this; simp [val] at this; exact this.symm
 have hd0 : d ≠ 0 := by
  intro h0; have := limbs_zero; rw [← h0, ← hyd, hd] at this; simp at this
 have hdl : d < 4294967296 := limbs_lt y d (by rw [hd]; simp)
 rw [hd] at hb V2 ⊢
 obtain ⟨bb, ob, rfl, hcb⟩ := hb.at_ 0 (by simp)
 have hcb' : w.cell? ⟨bb, ob, none⟩ = some (.int .u32 d) := by simpa using hcb
 have vx : Hid (val (limbs x) = x) := val_limbs x
 have h1 := ha.le
 have hcb1 : 1 ≤ cb := by have := hb.le; simpa using this
 have HA := Lib.hid ha
 clear ha hb hcb hd hY
 subst hyd
 generalize limbs x = X at *
 simp only [List.length_cons, List.length_nil] at V2 ⊢
 have hbw : bb < w.heap.size := World.block_lt_of_cell? w _ hcb'
 go_enter Tryz.func192, Tryz.ntmps192
 go_wp2_with fail
 refine V1.out.mono ?_
 rintro e w1 ⟨rfl, rfl⟩
 go_wp2_with fail
 refine V2.out.mono ?_
 rintro e w1 ⟨rfl, rfl⟩
 clear V1 V2
 go_wp2_with fail
 refine (Clone_any a ca X w HA.out (by omega)).mono ?_
 rintro e w1 ⟨v, rfl, hown, hb1⟩
 have hcb2 := (hb1.cell (p := ⟨bb, ob, none⟩) hbw).trans hcb'
 have hbw1 : bb < w1.heap.size := Nat.lt_of_lt_of_le hbw hb1.size
 have HB1 := Lib.hid hb1
 clear hb1 hcb'
 rcases hown.at_ with ⟨rfl, rfl⟩ | ⟨g, cap, cur, rfl, hbg, hg, hl, hm, hs, ht⟩
 ·have hx0 : x = 0 := by rw [← vx.out]; rfl
  subst hx0
  clear hown
  go_wp2_with fail
  refine (small_nil y w1).mono ?_
  rintro e w2 ⟨rfl, rfl⟩
  go_wp2_with fail
  refine (trim_any none 0 [] w1 (Lies.nil _ _ _ (by omega) (by simp))).mono ?_
  rintro e w3 ⟨rfl, rfl⟩
  go_wp2_with fail
  refine (clip_any none 0 0 _ (by omega)).mono ?_
  rintro e w3 ⟨rfl, rfl⟩
  go_wp2_with fail
  refine (From_any 0 (by omega) _).mono ?_
  rintro e w4 ⟨a4, c4, rfl, hl4, hb4⟩
  have HB4 := Lib.hid (HB1.out.trans (hb4.mono HB1.out.size))
  have HR4 : Hid (NatV w4 (.slice a4 (limbs 0).length c4) 0) := ⟨a4, c4, rfl, hl4⟩
  have HQ4 : Hid (NatV w4 (.slice none 0 0) 0) := ⟨none, 0, by rw [limbs_zero]; rfl, by rw [limbs_zero]; exact Lies.nil _ _ _ (by omega) (by simp)⟩
  clear hl4 hb4
  go_wp2_with fail
  go_ret3
  exact ⟨_, _, rfl, by rw [Nat.zero_div]; exact HQ4.out, by rw [Nat.zero_mod]; exact HR4.out, HB4.out⟩
 ·have hrow : RowU w1 g cap X := ⟨hown.lt, hl, hm, cur, hg, hs, ht⟩
  have HR := Lib.hid hrow
  clear hown hg hs ht hrow
  go_wp2_with fail
  have hsm := small_any g cap X y w1 HR.out (by omega) hdl (by omega)
  have hml : val X % y < 4294967296 := Nat.lt_trans (Nat.mod_lt _ (by omega)) hdl
  rw [vx.out] at hml
  obtain ⟨m, hm'⟩ : ∃ m, m = x % y := ⟨_, rfl⟩
  rw [vx.out, ← hm'] at hsm
  rw [← hm'] at hml
  have HM := Lib.hid hm'
  clear hm'
  refine hsm.mono ?_
  rintro e w2 ⟨rfl, ⟨A', hal, hav, hr2⟩, hap⟩
  have HB2 := Lib.hid (HB1.out.trans (hap.below HB1.out.size (by simpa using hbg)))
  have HT := Lib.hid (trim_any (some ⟨g, 0, none⟩) cap A' w2 hr2.lies)
  have HQ := Lib.hid (NatV.of_trim hr2.lies (show val A' = x / y by rw [hav])).1
  have htl := trimL_length_le A'
  rw [hal] at HT htl
  clear hav hr2 hap HB1
  go_wp2_with fail
  refine HT.out.mono ?_
  rintro e w3 ⟨rfl, rfl⟩
  go_wp2_with fail
  refine (clip_any _ _ cap _ (by omega)).mono ?_
  rintro e w3 ⟨rfl, rfl⟩
  go_wp2_with fail
  refine (From_any m (by omega) _).mono ?_
  rintro e w4 ⟨a4, c4, rfl, hl4, hb4⟩
  have HB4 := Lib.hid (HB2.out.trans (hb4.mono HB2.out.size))
  have HQ4 := Lib.hid (HQ.out.below hb4)
  have HR4 : Hid (NatV w4 (.slice a4 (limbs m).length c4) m) := ⟨a4, c4, rfl, hl4⟩
  clear hl4 hb4
  go_wp2_with fail
  go_ret3
  exact ⟨_, _, rfl, HQ4.out, by rw [← HM.out]; exact HR4.out, HB4.out⟩
end Go.Proofs.YtfdnhkjeoeffoaaGreatDoor
end

section
/- Package nat: Div, bit by bit. -/
namespace Go.Proofs.YtfdnhkjeoeffoaaGreatDoor
open Go.RowKit
set_option linter.unusedVariables false
/-- one limb of a number -/
theorem limb_get {L : List Nat} (hL : ∀ x ∈ L, x < B32) {t : Nat} (h : t < L.length) : L[t] = val L / B32 ^ t % B32 := by
 have e : L = L.take t ++ (L[t] :: L.drop (t + 1)) := by rw [← List.drop_eq_getElem_cons h, List.take_append_drop]
 have hb := val_lt (L.take t) (fun x hx => hL x (List.mem_of_mem_take hx))
 have hl : (L.take t).length = t := by simp; omega
 rw [hl] at hb
 have hx := hL _ (List.getElem_mem h)
 have hv : val L = val (L.take t) + B32 ^ t * (L[t] + B32 * val (L.drop (t + 1))) := by
  conv => lhs; rw [e]
  rw [val_append, hl, val]
 rw [hv, Nat.add_mul_div_left _ _ (Nat.pow_pos (by decide)), Nat.div_eq_of_lt hb, Nat.zero_add, Nat.add_mul_mod_self_left, Nat.mod_eq_of_lt hx]
theorem bit_of {L : List Nat} (hL : ∀ x ∈ L, x < B32) {i : Nat} (h : i / 32 < L.length) : L[i / 32] / 2 ^ (i % 32) % 2 = val L / 2 ^ i % 2 := by
 rw [limb_get hL h]
 have hs : i % 32 < 32 := Nat.mod_lt _ (by decide)
 have hB : B32 = 2 ^ (i % 32) * 2 ^ (32 - i % 32) := by rw [← Nat.pow_add, show i % 32 + (32 - i % 32) = 32 by omega]
 have hi : i = 32 * (i / 32) + i % 32 := (Nat.div_add_mod i 32).symm
 have e1 : val L / 2 ^ i = val L / B32 ^ (i / 32) / 2 ^ (i % 32) := by
  rw [Nat.div_div_eq_div_mul, show B32 ^ (i / 32) * 2 ^ (i % 32) = 2 ^ i by rw [show B32 = 2 ^ 32 from rfl, ← Nat.pow_mul, ← Nat.pow_add, ← hi]]
 rw [e1, hB, Nat.mod_mul_right_div_self]
 obtain ⟨m, hm⟩ : ∃ m, 32 - i % 32 = m + 1 := ⟨31 - i % 32, by omega⟩
 rw [hm, Nat.pow_succ, Nat.mod_mul_left_mod]
theorem set_bit {L : List Nat} (hL : ∀ x ∈ L, x < B32) {i c : Nat} (h : i / 32 < L.length) (hv : val L = c * 2 ^ (i + 1)) :
 L[i / 32] ||| 2 ^ (i % 32) = L[i / 32] + 2 ^ (i % 32) ∧ L[i / 32] + 2 ^ (i % 32) < B32 ∧ val (L.set (i / 32) (L[i / 32] + 2 ^ (i % 32))) = val L + 2 ^ i := by
 have hs : i % 32 < 32 := Nat.mod_lt _ (by decide)
 have hi : i = 32 * (i / 32) + i % 32 := (Nat.div_add_mod i 32).symm
 have hx := hL _ (List.getElem_mem h)
 have hg := limb_get hL h
 have hB : B32 = 2 ^ (i % 32 + 1) * 2 ^ (31 - i % 32) := by rw [← Nat.pow_add, show i % 32 + 1 + (31 - i % 32) = 32 by omega]
 have e1 : val L / B32 ^ (i / 32) = c * 2 ^ (i % 32 + 1) := by
  rw [hv, show (2 : Nat) ^ (i + 1) = B32 ^ (i / 32) * 2 ^ (i % 32 + 1) by rw [show B32 = 2 ^ 32 from rfl, ← Nat.pow_mul, ← Nat.pow_add]; congr 1; omega]
  rw [show c * (B32 ^ (i / 32) * 2 ^ (i % 32 + 1)) = B32 ^ (i / 32) * (c * 2 ^ (i % 32 + 1)) by ac_rfl, Nat.mul_div_cancel_left _ (Nat.pow_pos (by decide))]
 have hmod : L[i / 32] % 2 ^ (i % 32 + 1) = 0 := by
  rw [hg, e1]
  conv => lhs; arg 1; arg 2; rw [hB]
  rw [Nat.mod_mul_right_mod, Nat.mul_mod_left]
 have hor : L[i / 32] ||| 2 ^ (i % 32) = L[i / 32] + 2 ^ (i % 32) := nat_join (i % 32 + 1) _ _ hmod (Nat.pow_lt_pow_right (by decide) (by omega))
 refine ⟨hor, ?_, ?_⟩
 ·obtain ⟨m, hm⟩ : ∃ m, L[i / 32] = 2 ^ (i % 32 + 1) * m := ⟨L[i / 32] / 2 ^ (i % 32 + 1), by rw [Nat.mul_div_cancel' (Nat.dvd_of_mod_eq_zero hmod)]⟩
  rw [hm] at hx ⊢
  have hlt : m < 2 ^ (31 - i % 32) := by
   rw [hB] at hx; exact Nat.lt_of_mul_lt_mul_left hx
  have h2 : 2 ^ (i % 32 + 1) * (m + 1) ≤ 2 ^ (i % 32 + 1) * 2 ^ (31 - i % 32) := Nat.mul_le_mul_left _ hlt
  rw [← hB, Nat.mul_add] at h2
  have h3 : 2 ^ (i % 32) < 2 ^ (i % 32 + 1) := Nat.pow_lt_pow_right (by decide) (by omega)
  omega
 ·have hvs := val_set L (i / 32) (L[i / 32] + 2 ^ (i % 32)) h
  have e2 : (2 : Nat) ^ i = 2 ^ (i % 32) * B32 ^ (i / 32) := by rw [show B32 = 2 ^ 32 from rfl, ← Nat.pow_mul, ← Nat.pow_add]; congr 1; omega
  rw [Nat.add_mul, ← e2] at hvs
  omega
theorem double_step {R R' : List Nat} {j bt b0 : Nat} (hj : j < R.length) (hl : R'.length = R.length) (hv : val (R'.take j) + bt * B32 ^ j = 2 * val (R.take j) + b0) :
 val ((R'.set j ((R[j] * 2) % 4294967296 + bt)).take (j + 1)) + R[j] / 2147483648 * B32 ^ (j + 1) = 2 * val (R.take (j + 1)) + b0 := by
 rw [val_take_snoc (Y := R'.set j _) (by simp; omega), val_take_snoc hj, List.take_set_of_le (Nat.le_refl j)]
 simp only [List.getElem_set_self, Nat.pow_succ]
 have e : (R[j] * 2) % 4294967296 + R[j] / 2147483648 * B32 = R[j] * 2 := by rw [B32]; omega
 have e2 : ((R[j] * 2) % 4294967296 + R[j] / 2147483648 * B32) * B32 ^ j = R[j] * 2 * B32 ^ j := by rw [e]
 simp only [Nat.add_mul, Nat.mul_add] at e2 ⊢
 rw [show R[j] / 2147483648 * (B32 ^ j * B32) = R[j] / 2147483648 * B32 * B32 ^ j by ac_rfl]
 rw [show 2 * (R[j] * B32 ^ j) = R[j] * 2 * B32 ^ j by ac_rfl]
 omega
theorem div_bit (x y k : Nat) (hy : 0 < y) : x / 2 ^ k / y = 2 * (x / 2 ^ (k + 1) / y) + (2 * (x / 2 ^ (k + 1) % y) + x / 2 ^ k % 2) / y ∧ x / 2 ^ k % y = (2 * (x / 2 ^ (k + 1) % y) + x / 2 ^ k % 2) % y := by
 have e : x / 2 ^ k = 2 * (x / 2 ^ (k + 1)) + x / 2 ^ k % 2 := by
  rw [Nat.pow_succ, ← Nat.div_div_eq_div_mul]; omega
 have e2 : x / 2 ^ k = (2 * (x / 2 ^ (k + 1) % y) + x / 2 ^ k % 2) + y * (2 * (x / 2 ^ (k + 1) / y)) := by
  have h := Nat.div_add_mod (x / 2 ^ (k + 1)) y
  rw [show y * (2 * (x / 2 ^ (k + 1) / y)) = 2 * (y * (x / 2 ^ (k + 1) / y)) by ac_rfl]
  omega
 constructor
 ·conv => lhs; rw [e2]
  rw [Nat.add_mul_div_left _ _ hy]; omega
 ·conv => lhs; rw [e2]
  rw [Nat.add_mul_mod_self_left]
end Go.Proofs.YtfdnhkjeoeffoaaGreatDoor
end

section
/- Package nat: Div, bit by bit: the walk. -/
namespace Go.Proofs.YtfdnhkjeoeffoaaGreatDoor
open Go.RowKit
set_option linter.unusedVariables false
set_option maxRecDepth 100000 in
set_option maxHeartbeats 4000000 in
theorem Div_long (va vb : Value) (x y : Nat) (w : World) (hx : NatV w va x) (hy : NatV w vb y) (hX : (limbs x).length ≤ 256) (hY : (limbs y).length ≤ 256) (hY2 : 2 ≤ (limbs y).length) :
 Calls Tryz.prog 192 #[va, vb] w fun e w' => ∃ q r, e = .returned (.tuple #[q, r, .int .i64 0]) ∧ NatV w' q (x / y) ∧ NatV w' r (x % y) ∧ Below w.heap.size w w' := by
 obtain ⟨a, ca, rfl, ha⟩ := hx
 obtain ⟨b, cb, rfl, hb⟩ := hy
 have V1 := Lib.hid (valid_any a ca x w ha hX)
 have V2 := Lib.hid (valid_any b cb y w hb hY)
 have VB := Lib.hid (fun (w' : World) (h : Lies w' a ca (limbs x)) => Bits_any a ca x w' h hX)
 have hy0 : 0 < y := by
  rcases Nat.eq_zero_or_pos y with h | h
  ·rw [h, limbs_zero] at hY2; simp at hY2
  ·exact h
 have hylt : y < B32 ^ (limbs y).length := lt_of_limbs_length (Nat.le_refl _)
 have hnb : nbits x ≤ 32 * (limbs x).length := nbits_le.2 (by rw [Nat.pow_mul]; exact lt_of_limbs_length (Nat.le_refl _))
 have hxn : x < 2 ^ nbits x := nbits_le.1 (Nat.le_refl _)
 have vx : Hid (val (limbs x) = x) := val_limbs x
 have hXl := Lib.hid (limbs_lt x)
 have hXn : Hid (limbs y ≠ []) := by intro h; rw [h] at hY2; simp at hY2
 have h1 := ha.le; have h2 := hb.le
 have HA := Lib.hid ha; have HB := Lib.hid hb
 have HCMP := Lib.hid (fun (w' : World) (p : Option Addr) (cp : Nat) (n : Nat) (h : Lies w' p cp (limbs n)) (h' : Lies w' b cb (limbs y)) => Cmp_any p cp n b cb y w' h h')
 have HYV : Hid (val (limbs y) = y) := val_limbs y
 have hHY := Lib.hid hylt
 have HXN := Lib.hid hxn
 clear ha hb hylt hxn
 generalize limbs x = X at *
 generalize limbs y = Y at *
 have hY0 : ((Y.length : Int) == 0) = false := beq_eq_false_iff_ne.2 (by omega)
 have hY1 : ((Y.length : Int) == 1) = false := beq_eq_false_iff_ne.2 (by omega)
 have hbw : Hid (∀ p, b = some p → p.block < w.heap.size) := by
  intro p hp
  obtain ⟨bb, ob, e, hc⟩ := HB.out.at_ 0 (by omega)
  rw [hp] at e; cases e
  exact World.block_lt_of_cell? w _ hc
 go_enter Tryz.func192, Tryz.ntmps192
 go_wp2_with fail
 refine V1.out.mono ?_
 rintro e w1 ⟨rfl, rfl⟩
 go_wp2_with fail
 refine V2.out.mono ?_
 rintro e w1 ⟨rfl, rfl⟩
 clear V1 V2
 go_wp2_with (first
  | (at_make; refine wpList_make1 _ rfl _ _ rfl X.length X.length _ _ rfl rfl rfl rfl (Nat.le_refl _) (by omega) ?_; intro w1 hrow hb0
     have HQ0 := Lib.hid hrow
     have hgq := hrow.ltg
     have hb0s := hb0.size
     have HB0 := Lib.hid hb0
     clear hrow hb0)
  | (at_make; refine wpList_make1 _ rfl _ _ rfl (Y.length + 1) (Y.length + 1) _ _ rfl rfl (by simp) (by simp) (Nat.le_refl _) (by omega) ?_; intro w2 hrow hb1
     have HQ1 := Lib.hid (HQ0.out.below hb1 hgq)
     have HL1 := Lib.hid hrow
     have HB1 := Lib.hid (HB0.out.trans (hb1.mono hb0s))
     have hbs := hb1.size
     clear hrow hb1 HQ0 HB0))
 generalize hgl : w1.heap.size = gl at *
 clear hgl
 generalize hgqe : w.heap.size = gq at *
 have HGQ := Lib.hid hgqe
 clear hgqe
 go_wp2_with fail
 refine (VB.out _ (HA.out.below (by rw [HGQ.out]; exact HB1.out))).mono ?_
 rintro e w3 ⟨rfl, rfl⟩
 go_wp2_with fail
 go_loopw [11] (fun i wr => ∃ (k : Nat) (Q R : List Nat), k ≤ nbits x ∧ i = .int .i64 ((k : Int) - 1) ∧ Q.length = X.length ∧ R.length = Y.length + 1 ∧ val R = x / 2 ^ k % y ∧ val Q = x / 2 ^ k / y * 2 ^ k ∧ RowU wr gq X.length Q ∧ RowU wr gl (Y.length + 1) R ∧ Below gq w wr) (fun i _ => (intOf i + 1).toNat)
 case atStart => exact ⟨nbits x, _, _, Nat.le_refl _, rfl, by simp, by simp, by rw [val_zeros, Nat.div_eq_of_lt HXN.out]; simp, by rw [val_zeros, Nat.div_eq_of_lt HXN.out]; simp, HQ1.out, HL1.out, HB1.out⟩
 case round =>
  obtain ⟨k, Q, R, hk, rfl, hql, hrl, hrv, hqv, hqr, hrr, hbr⟩ := hrel
  have HQL := Lib.hid hql; have HRL := Lib.hid hrl; have HRV := Lib.hid hrv; have HQV := Lib.hid hqv; have HQR := Lib.hid hqr; have HRR := Lib.hid hrr; have BR := Lib.hid hbr
  have hgqr := hqr.ltg; have hglr := hrr.ltg
  clear hql hrl hrv hqv hqr hrr hbr HQ1 HL1 HB1
  cases k with
  | zero =>
    have hq0 : val Q = x / y := by rw [HQV.out]; simp
    have hr0 : val R = x % y := by rw [HRV.out]; simp
    have TQ := Lib.hid (trim_any (some ⟨gq, 0, none⟩) X.length Q wr HQR.out.lies)
    have TR := Lib.hid (trim_any (some ⟨gl, 0, none⟩) (Y.length + 1) R wr HRR.out.lies)
    have NQ := Lib.hid (NatV.of_trim HQR.out.lies hq0).1
    have NR := Lib.hid (NatV.of_trim HRR.out.lies hr0).1
    have lq := trimL_length_le Q
    have lr := trimL_length_le R
    rw [HQL.out] at TQ lq
    rw [HRL.out] at TR lr
    clear hq0 hr0
    go_wp2_with fail
    refine TQ.out.mono ?_
    rintro e w3 ⟨rfl, rfl⟩
    go_wp2_with fail
    refine (clip_any _ _ X.length _ lq).mono ?_
    rintro e w3 ⟨rfl, rfl⟩
    go_wp2_with fail
    refine TR.out.mono ?_
    rintro e w3 ⟨rfl, rfl⟩
    go_wp2_with fail
    refine (clip_any _ _ (Y.length + 1) _ lr).mono ?_
    rintro e w3 ⟨rfl, rfl⟩
    go_wp2_with fail
    go_ret3
    exact ⟨_, _, rfl, NQ.out, NR.out, by rw [HGQ.out]; exact BR.out⟩
  | succ k =>
    have hkX : k / 32 < X.length := by omega
    obtain ⟨ba, oa, rfl, hca⟩ := HA.out.at_ (k / 32) hkX
    have hca' : wr.cell? ⟨ba, oa + k / 32, none⟩ = some (.int .u32 (X[k / 32] : Nat)) := (BR.out.cell (by rw [← HGQ.out]; exact World.block_lt_of_cell? w _ hca)).trans hca
    have hbar : ba < wr.heap.size := World.block_lt_of_cell? wr _ hca'
    have i1 : (k : Int) / 32 < (X.length : Int) := by omega
    obtain ⟨b0, hb0⟩ : ∃ b0, b0 = x / 2 ^ k % 2 := ⟨_, rfl⟩
    have eb : bits .and .u32 ((X[k / 32] : Int) / 2 ^ (k % 32)) 1 = (b0 : Int) := by
     have h1 : (X[k / 32] : Int) / 2 ^ (k % 32) = ((X[k / 32] / 2 ^ (k % 32) : Nat) : Int) := by simp
     have h2 : X[k / 32] / 2 ^ (k % 32) < 4294967296 := Nat.lt_of_le_of_lt (Nat.div_le_self _ _) (hXl.out _ (List.getElem_mem hkX))
     have h3 := u32_and_nat (X[k / 32] / 2 ^ (k % 32)) 1 h2 (by decide)
     rw [h1]
     rw [nat_mask1, bit_of hXl.out hkX, vx.out, ← hb0] at h3
     exact h3
    have hb01 : b0 ≤ 1 := by omega
    have HB0 := Lib.hid hb0
    have HDB := Lib.hid (div_bit x y k hy0)
    clear hca hb0
    generalize X[k / 32] = xk at *
    go_wp2_with fail
    obtain ⟨wo, rfl⟩ : ∃ wo : World, wo = wr := ⟨_, rfl⟩
    go_loopw [12, 69] (fun c i wr => ∃ (j : Nat) (R' : List Nat) (bt : Nat), j ≤ Y.length + 1 ∧ i = .int .i64 j ∧ c = .int .u32 bt ∧ bt ≤ 1 ∧ R'.length = Y.length + 1 ∧ val (R'.take j) + bt * B32 ^ j = 2 * val (R.take j) + b0 ∧ R'.drop j = R.drop j ∧ RowU wr gq X.length Q ∧ RowU wr gl (Y.length + 1) R' ∧ Below gq w wr) (fun _ i _ => Y.length + 1 - (intOf i).toNat)
    case atStart => exact ⟨0, R, b0, Nat.zero_le _, rfl, rfl, hb01, HRL.out, by simp [val], rfl, HQR.out, HRR.out, BR.out⟩
    case round =>
     obtain ⟨j, R', bt, hj, rfl, rfl, hbt, hrl', hv', hd', hqr', hrr', hbr'⟩ := hrel
     have HRL' := Lib.hid hrl'; have HV' := Lib.hid hv'; have HD' := Lib.hid hd'; have HQR' := Lib.hid hqr'; have HRR' := Lib.hid hrr'; have BR' := Lib.hid hbr'
     have hgqr' := hqr'.ltg; have hglr' := hrr'.ltg
     clear hrl' hv' hd' hqr' hrr' hbr' hca' hbar
     by_cases hjl : j < Y.length + 1
     ·have hjR : j < R'.length := by rw [HRL'.out]; exact hjl
      have hjR0 : j < R.length := by rw [HRL.out]; exact hjl
      have hcr := HRR'.out.cell j hjR
      have hfr := HRR'.out.frozen j
      have hRR : R'[j] = R[j] := by
       have h1 := List.drop_eq_getElem_cons hjR
       have h2 := List.drop_eq_getElem_cons hjR0
       rw [HD'.out, h2] at h1; exact (List.cons.inj h1).1.symm
      have hrl4 : R'[j] < 4294967296 := HRR'.out.lt _ (List.getElem_mem hjR)
      obtain ⟨nv, hnv⟩ : ∃ nv, nv = R'[j] * 2 % 4294967296 + bt := ⟨_, rfl⟩
      have eo : bits .or .u32 ((R'[j] : Int) * 2 % 4294967296) (bt : Int) = (nv : Int) := by
       have h3 := u32_or_nat (R'[j] * 2 % 4294967296) bt (Nat.mod_lt _ (by decide)) (by omega)
       rw [nat_join 1 _ _ (by omega) (by omega), ← hnv] at h3
       rw [← h3]; simp
      have hnvl : nv < B32 := by rw [hnv, B32]; omega
      obtain ⟨b2, hb2⟩ : ∃ b2, b2 = R'[j] / 2147483648 := ⟨_, rfl⟩
      have eb2 : (R'[j] : Int) / 2147483648 = (b2 : Int) := by omega
      have hb21 : b2 ≤ 1 := by omega
      have hst := double_step hjR0 (by rw [HRL'.out, HRL.out]) HV'.out
      rw [← hRR, ← hnv, ← hb2] at hst
      have HST := Lib.hid hst
      have HR3 := Lib.hid (HRR'.out.set j nv hjR hnvl)
      have HD3 : Hid ((R'.set j nv).drop (j + 1) = R.drop (j + 1)) := by
       show (R'.set j nv).drop (j + 1) = R.drop (j + 1)
       rw [List.drop_set_of_lt (by omega)]
       have := congrArg (List.drop 1) HD'.out
       simpa [List.drop_drop] using this
      have ij : (j : Int) < (Y.length : Int) + 1 := by omega
      have ij0 : (0 : Int) ≤ (j : Int) := Int.natCast_nonneg _
      clear hst hnv hb2 hRR
      generalize R'[j] = rj at *
      clear hjR hjR0
      go_wp2_with fail
      go_region
      go_wp2_with fail
      go_roundw
      case rel => exact ⟨j + 1, _, b2, by omega, by go_num, rfl, hb21, by simp [HRL'.out], HST.out, HD3.out, HQR'.out.keep (by show (wr.setCell _ _).heap[gq]? = _; exact Below.heap_setCell _ _ _ _ (by simp; omega)), HR3.out.keep (by rfl), (BR'.out.setCell (by simp; omega) _).drew⟩
      case measure => simp [intOf]; omega
     ·obtain rfl : j = Y.length + 1 := by omega
      have hrm := HRV.out
      have hrlt : val R < y := by rw [hrm]; exact Nat.mod_lt _ hy0
      have hv2 : val R' = 2 * val R + b0 := by
       have h1 := HV'.out
       rw [List.take_of_length_le (by rw [HRL'.out]; omega), List.take_of_length_le (by rw [HRL.out]; omega)] at h1
       have h2 : B32 ^ Y.length * B32 = B32 ^ (Y.length + 1) := (Nat.pow_succ _ _).symm
       have h3 := hHY.out
       have h4 : 2 * B32 ^ Y.length ≤ B32 ^ Y.length * B32 := by rw [Nat.mul_comm]; exact Nat.mul_le_mul_left _ (by decide)
       have h5 : bt = 0 := by
        rcases Nat.eq_zero_or_pos bt with h | h
        ·exact h
        ·have h6 : 1 * B32 ^ (Y.length + 1) ≤ bt * B32 ^ (Y.length + 1) := Nat.mul_le_mul_right _ h
         omega
       rw [h5] at h1; omega
      have hvb : val R' = 2 * (x / 2 ^ (k + 1) % y) + x / 2 ^ k % 2 := by rw [hv2, hrm, HB0.out]
      have hv2y : val R' < 2 * y := by omega
      have TR := trim_any (some ⟨gl, 0, none⟩) (Y.length + 1) R' wr HRR'.out.lies
      rw [HRL'.out] at TR
      have TR' := Lib.hid TR
      have NR := NatV.of_trim HRR'.out.lies (rfl : val R' = val R')
      have HC := Lib.hid (HCMP.out wr (some ⟨gl, 0, none⟩) (Y.length + 1) (val R') (by rw [← NR.2]; have := HRR'.out.lies.take (trimL R').length; rw [← trimL_prefix] at this; exact this) (HB.out.below (by rw [HGQ.out]; exact BR'.out)))
      have htl : Hid ((trimL R').length = (limbs (val R')).length) := by show (trimL R').length = _; rw [NR.2]
      have HVB := Lib.hid hvb
      clear TR NR hvb hv2 hrm hrlt
      go_wp2_with fail
      refine TR'.out.mono ?_
      rintro e w3 ⟨rfl, rfl⟩
      rw [htl.out]
      go_wp2_with fail
      refine HC.out.mono ?_
      rintro e w3 ⟨rfl, hb3⟩
      have HQ3 := Lib.hid (HQR'.out.below hb3 hgqr')
      have HR3 := Lib.hid (HRR'.out.below hb3 hglr')
      have HB3 := Lib.hid (BR'.out.trans (hb3.mono (by omega)))
      have hs3 := hb3.size
      clear hb3 TR' HC
      by_cases hge : y ≤ val R'
      ·have hcm : (0 : Int) ≤ cmpN (val R') y := by
        simp only [cmpN]; rw [if_neg (by omega)]; split <;> omega
       have hq' : val Q = x / 2 ^ (k + 1) / y * 2 ^ (k + 1) := HQV.out
       have hkQ : k / 32 < Q.length := by rw [HQL.out]; exact hkX
       obtain ⟨s1, s2, s3⟩ := set_bit HQR.out.lt hkQ hq'
       have hdv : val R' / y = 1 := by
        rw [Nat.div_eq_iff hy0]; omega
       have hQn : Hid (val (Q.set (k / 32) (Q[k / 32] + 2 ^ (k % 32))) = x / 2 ^ k / y * 2 ^ k) := by
        show val (Q.set (k / 32) (Q[k / 32] + 2 ^ (k % 32))) = x / 2 ^ k / y * 2 ^ k
        rw [s3, hq', HDB.out.1, ← HVB.out, hdv, Nat.add_mul, Nat.pow_succ]
        rw [Nat.one_mul]; congr 1; ac_rfl
       have hRn : Hid (val R' - y = x / 2 ^ k % y) := by
        show val R' - y = x / 2 ^ k % y
        rw [HDB.out.2, ← HVB.out, Nat.mod_eq_sub_mod hge, Nat.mod_eq_of_lt (by omega)]
       generalize cmpN (val R') y = cm at *
       go_wp2_with fail
       have hne : ∀ p, b = some p → p.block ≠ gl := by
        intro p hp; have := hbw.out p hp; omega
       have HLS := less_any gl (Y.length + 1) R' b cb Y w3 HR3.out (HB.out.below (by rw [HGQ.out]; exact HB3.out)) hne (by rw [HRL'.out]; omega) (by rw [HYV.out]; exact hge) (by rw [HRL'.out]; omega)
       rw [HRL'.out] at HLS
       refine HLS.mono ?_
       rintro e w4 ⟨rfl, ⟨A', hal, hav, hra⟩, hap⟩
       rw [HYV.out, hRn.out] at hav
       have HQ4 := Lib.hid (HQ3.out.keep (hap.block gq (by omega) (by simp; omega)))
       have HAV := Lib.hid hav
       have HRA := Lib.hid hra
       have HAL := Lib.hid hal
       have HB4 := Lib.hid (HB3.out.trans (hap.below (by omega) (by simp; omega)))
       have hs4 := hap.size
       have hcq := HQ4.out.cell (k / 32) hkQ
       have hfq := HQ4.out.frozen (k / 32)
       have HQset := Lib.hid (HQ4.out.set (k / 32) _ hkQ s2)
       have hkb : (2 : Nat) ^ (k % 32) < 4294967296 := Nat.pow_lt_pow_right (a := 2) (n := 32) (by decide) (Nat.mod_lt _ (by decide))
       have hql4 : Q[k / 32] < 4294967296 := HQR.out.lt _ (List.getElem_mem hkQ)
       have hor := u32_or_nat (Q[k / 32]) (2 ^ (k % 32)) hql4 hkb
       rw [s1] at hor
       obtain ⟨nq, hnq⟩ : ∃ nq, nq = Q[k / 32] + 2 ^ (k % 32) := ⟨_, rfl⟩
       rw [← hnq] at HQset hQn s2
       have eor : bits .or .u32 (Q[k / 32] : Int) (2 ^ (k % 32) % 4294967296) = (nq : Int) := by
        have h1 : (2 : Int) ^ (k % 32) % 4294967296 = ((2 ^ (k % 32) : Nat) : Int) := by
         have e1 : (2 : Int) ^ (k % 32) = ((2 ^ (k % 32) : Nat) : Int) := by simp
         rw [e1]
         exact Int.emod_eq_of_lt (Int.natCast_nonneg _) (Int.ofNat_lt.2 hkb)
        rw [h1, hnq]; exact hor
       clear hal hav hra hap HLS hor s1 s2 s3 hq' hdv hge hnq
       generalize Q[k / 32] = qk at *
       clear hkQ
       go_wp2_with fail
       go_region
       go_wp2_with fail
       go_roundw
       case rel => exact ⟨k, Q.set (k / 32) nq, A', by omega, rfl, by simp [HQL.out], by rw [HAL.out], HAV.out, hQn.out, HQset.out.keep (by rfl), HRA.out.keep (by show (w4.setCell _ _).heap[gl]? = _; exact Below.heap_setCell _ _ _ _ (by simp; omega)), (HB4.out.setCell (by simp) _).drew⟩
       case measure => simp [intOf]
      ·have hcm : Hid (cmpN (val R') y = -1) := by show cmpN (val R') y = -1; simp only [cmpN]; rw [if_pos (by omega)]
       rw [hcm.out]
       have hq' : val Q = x / 2 ^ k / y * 2 ^ k := by
        rw [HQV.out, HDB.out.1, ← HVB.out, Nat.div_eq_of_lt (show val R' < y by omega), Nat.pow_succ]
        rw [Nat.add_zero]; ac_rfl
       have hr' : val R' = x / 2 ^ k % y := by
        rw [HDB.out.2, ← HVB.out, Nat.mod_eq_of_lt (show val R' < y by omega)]
       have HQ' := Lib.hid hq'; have HR' := Lib.hid hr'
       clear hq' hr' hge
       go_wp2_with fail
       go_roundw
       case rel => exact ⟨k, Q, R', by omega, rfl, HQL.out, HRL'.out, HR'.out, HQ'.out, HQ3.out, HR3.out, HB3.out⟩
       case measure => simp [intOf]
end Go.Proofs.YtfdnhkjeoeffoaaGreatDoor
end

section
/- Package nat: Shl. -/
namespace Go.Proofs.YtfdnhkjeoeffoaaGreatDoor
open Go.RowKit
set_option linter.unusedVariables false
theorem shl_join (m s c : Nat) (hs : s ≤ 32) (hc : c < 2 ^ s) : m * 2 ^ s % 4294967296 ||| c = m * 2 ^ s % 4294967296 + c := by
 have h : (4294967296 : Nat) = 2 ^ s * 2 ^ (32 - s) := by rw [← Nat.pow_add, show s + (32 - s) = 32 by omega]
 rw [h, Nat.mul_comm m, Nat.mul_mod_mul_left]
 exact (Nat.two_pow_add_eq_or_of_lt hc _).symm
theorem shl_low (m s c : Nat) (hs : s ≤ 32) (hc : c < 2 ^ s) : m * 2 ^ s % 4294967296 + c < 4294967296 := by
 have h : (4294967296 : Nat) = 2 ^ s * 2 ^ (32 - s) := by rw [← Nat.pow_add, show s + (32 - s) = 32 by omega]
 have h1 : m * 2 ^ s % 4294967296 = 2 ^ s * (m % 2 ^ (32 - s)) := by rw [h, Nat.mul_comm m, Nat.mul_mod_mul_left]
 have h2 : m % 2 ^ (32 - s) + 1 ≤ 2 ^ (32 - s) := Nat.mod_lt _ (Nat.pow_pos (by decide))
 have h3 := Nat.mul_le_mul_left (2 ^ s) h2
 rw [← h, Nat.mul_add] at h3
 omega
theorem shl_step {X out : List Nat} {i cr kk : Nat} (h1 : i < X.length) (ho : out.length = kk / 32 + i) (hv : val out + cr * B32 ^ (kk / 32 + i) = val (X.take i) * 2 ^ kk) :
 val (out ++ [X[i] * 2 ^ (kk % 32) % 4294967296 + cr]) + X[i] * 2 ^ (kk % 32) / 4294967296 * B32 ^ (kk / 32 + (i + 1)) = val (X.take (i + 1)) * 2 ^ kk := by
 rw [List.take_succ_eq_append_getElem h1, val_append, val_append, ho]
 simp only [val, List.length_take, Nat.min_eq_left (Nat.le_of_lt h1), Nat.mul_zero, Nat.add_zero]
 rw [Nat.add_mul, ← hv]
 have e := Nat.div_add_mod (X[i] * 2 ^ (kk % 32)) B32
 have hk : B32 ^ (kk / 32) * 2 ^ (kk % 32) = 2 ^ kk := by
  rw [show B32 = 2 ^ 32 by decide, ← Nat.pow_mul, ← Nat.pow_add, Nat.div_add_mod]
 have e3 : B32 ^ i * X[i] * 2 ^ kk = B32 ^ (kk / 32 + i) * (X[i] * 2 ^ (kk % 32)) := by
  rw [← hk, Nat.pow_add]; ac_rfl
 rw [e3]
 change val out + B32 ^ (kk / 32 + i) * (X[i] * 2 ^ (kk % 32) % B32 + cr) + X[i] * 2 ^ (kk % 32) / B32 * B32 ^ (kk / 32 + (i + 1)) = _
 generalize X[i] * 2 ^ (kk % 32) = m at *
 generalize m / B32 = q at *
 generalize m % B32 = r at *
 rw [← Nat.add_assoc, Nat.pow_succ]
 generalize B32 ^ (kk / 32 + i) = P
 have e2 : P * (B32 * q) + P * r = P * m := by rw [← e, Nat.mul_add]
 simp only [Nat.mul_add]
 rw [show q * (P * B32) = P * (B32 * q) by ac_rfl, Nat.mul_comm cr]
 omega
set_option maxHeartbeats 4000000 in
theorem Shl_any (va : Value) (x kk : Nat) (w : World) (hx : NatV w va x) (h0 : 0 < x) (hk : kk ≤ 8192) (hf : (limbs (x * 2 ^ kk)).length ≤ 256) :
 Calls Tryz.prog 234 #[va, .int .i64 kk] w fun e w' => ∃ v, e = .returned (.tuple #[v, .int .i64 0]) ∧ NatV w' v (x * 2 ^ kk) ∧ Below w.heap.size w w' := by
 obtain ⟨a, ca, rfl, ha⟩ := hx
 have hxy : x < B32 ^ 256 := by
  refine Nat.lt_of_le_of_lt ?_ (lt_of_limbs_length hf)
  exact Nat.le_mul_of_pos_right _ (Nat.pow_pos (by decide))
 have hX : (limbs x).length ≤ 256 := limbs_length_le hxy
 have V1 := Lib.hid (valid_any a ca x w ha hX)
 have hXn : 0 < (limbs x).length := by
  rcases Nat.eq_zero_or_pos (limbs x).length with h | h
  ·have := limbs_eq_nil.1 (List.eq_nil_of_length_eq_zero h); omega
  ·exact h
 have h1 := ha.le
 have HA := Lib.hid ha
 have HF := Lib.hid hf
 have vx := Lib.hid (val_limbs x)
 clear ha hf hxy
 generalize limbs x = X at *
 have hX0 : ((X.length : Int) == 0) = false := beq_eq_false_iff_ne.2 (by omega)
 go_enter Tryz.func234, Tryz.ntmps234
 go_wp2_with fail
 refine V1.out.mono ?_
 rintro e w1 ⟨rfl, rfl⟩
 clear V1
 go_wp2_with (at_make; refine wpList_make1 _ rfl _ _ rfl (kk / 32) (kk / 32 + X.length + 1) _ _ rfl rfl (by simp) (by simp) (by omega) (by omega) ?_; intro w1 hrow hb0)
 have hown0 := hrow.own (Nat.le_refl _)
 rw [List.length_replicate] at hown0
 have HO0 := Lib.hid hown0
 have HB0 := Lib.hid hb0
 clear hrow hb0 hown0
 go_wp2_with fail
 go_loopw [6, 7, 36] (fun o c i wr => ∃ (k : Nat) (out : List Nat) (cr : Nat), k ≤ X.length ∧ i = .int .i64 k ∧ c = .int .u32 cr ∧ out.length = kk / 32 + k ∧ cr < 2 ^ (kk % 32) ∧ val out + cr * B32 ^ (kk / 32 + k) = val (X.take k) * 2 ^ kk ∧ OwnU wr w.heap.size o out ∧ Below w.heap.size w wr) (fun _ _ i _ => X.length - (intOf i).toNat)
 case atStart => exact ⟨0, _, 0, Nat.zero_le _, rfl, rfl, by simp, Nat.pow_pos (by decide), by simp [val, val_zeros], HO0.out, HB0.out⟩
 case round =>
  obtain ⟨k, out, cr, hk', rfl, rfl, hol, hcr, hv, hown, hbw⟩ := hrel
  have HV := Lib.hid hv; have HO := Lib.hid hown; have BW := Lib.hid hbw; have HOL := Lib.hid hol
  have hBs := hbw.size
  clear hv hown hbw hol HO0 HB0
  have hcr32 : cr < 2147483648 := Nat.lt_of_lt_of_le hcr (Nat.pow_le_pow_right (n := 2) (j := 31) (by decide) (by omega))
  by_cases hlt : k < X.length
  ·obtain ⟨bp, op, rfl, hcp⟩ := HA.out.at_ k hlt
   have hcp' := (BW.out.cell (World.block_lt_of_cell? w _ hcp)).trans hcp
   have hxk : X[k] < 4294967296 := HA.out.lt _ (List.getElem_mem hlt)
   clear hcp
   have hp : 2 ^ (kk % 32) ≤ 2147483648 := (Nat.pow_le_pow_right (n := 2) (j := 31) (by decide) (by omega))
   have hml : X[k] * 2 ^ (kk % 32) < 18446744073709551616 :=
    Nat.lt_of_le_of_lt (Nat.mul_le_mul (Nat.le_of_lt hxk) hp) (by decide)
   have hc2l : X[k] * 2 ^ (kk % 32) / 4294967296 < 2 ^ (kk % 32) := by
    rw [Nat.div_lt_iff_lt_mul (by decide), Nat.mul_comm]
    exact (Nat.mul_lt_mul_left (Nat.pow_pos (by decide))).2 hxk
   obtain ⟨y, hy⟩ : ∃ y : Nat, y = X[k] * 2 ^ (kk % 32) % 4294967296 + cr := ⟨_, rfl⟩
   obtain ⟨c2, hc2⟩ : ∃ c2 : Nat, c2 = X[k] * 2 ^ (kk % 32) / 4294967296 := ⟨_, rfl⟩
   obtain ⟨m, hm⟩ : ∃ m : Nat, m = X[k] * 2 ^ (kk % 32) := ⟨_, rfl⟩
   have HS := shl_step hlt HOL.out HV.out
   rw [← hy, ← hc2] at HS
   have HS := Lib.hid HS
   have hyl : y < B32 := by rw [hy]; exact shl_low _ _ _ (by omega) hcr
   have em : IntKind.wrap .u64 (((X[k] : Nat) : Int) * 2 ^ (kk % 32)) = (m : Int) := by
    have e1 : ((X[k] : Nat) : Int) * 2 ^ (kk % 32) = (m : Int) := by rw [hm]; simp
    rw [← hm] at hml
    rw [e1, IntKind.wrap_u64]; omega
   have eo : bits .or .u32 ((m : Int) % 4294967296) (cr : Int) = (y : Int) := by
    have h3 := u32_or_nat (m % 4294967296) cr (Nat.mod_lt _ (by decide)) (by omega)
    rw [hm, shl_join _ _ _ (by omega) hcr, ← hy, ← hm] at h3
    rw [← h3]; simp
   have ec : (m : Int) / 4294967296 = (c2 : Int) := by rw [hc2, hm]; simp
   rw [← hc2] at hc2l
   have hc2s : c2 < 4294967296 := by omega
   have Hyl := Lib.hid hyl; have Hc2l := Lib.hid hc2l
   clear hy hc2 hm hyl hc2l hml hp
   generalize X[k] = xk at *
   go_wp2_with (at_builtin; refine wpList_app1 _ rfl _ _ rfl w.heap.size _ out rfl (OwnU.alloc HO.out _) wr.heap.size y rfl (by simp [go_sem]) Hyl.out (by simp; omega) (by rw [HOL.out]; omega) ?_; intro v1 w1 hown1 hgr1)
   have HO1 := Lib.hid hown1
   have HB1 := Lib.hid ((BW.out.alloc hBs _).grown hgr1 (by simp; omega) (fun x hx => (HO.out.own.lt x hx).1))
   clear hown1 hgr1
   go_wp2_with fail
   go_roundw
   case rel => exact ⟨k + 1, out ++ [y], c2, by omega, by go_num, rfl, by simp [HOL.out]; omega, Hc2l.out, HS.out, HO1.out, HB1.out⟩
   case measure => simp [intOf]; omega
  ·obtain rfl : k = X.length := by omega
   go_wp2_with (at_builtin; refine wpList_app1 _ rfl _ _ rfl w.heap.size _ out rfl (OwnU.alloc HO.out _) wr.heap.size cr rfl (by simp [go_sem]) (by unfold B32; omega) (by simp; omega) (by rw [HOL.out]; omega) ?_; intro v1 w1 hown1 hgr1)
   have hvs : val (out ++ [cr]) = x * 2 ^ kk := by
    rw [val_append, HOL.out]
    have := HV.out
    rw [List.take_length] at this
    simp only [val, Nat.mul_zero, Nat.add_zero]
    rw [← vx.out, ← this]; rw [Nat.mul_comm (B32 ^ _)]
   have htr : trimL (out ++ [cr]) = limbs (x * 2 ^ kk) := by rw [trimL_limbs _ hown1.lt, hvs]
   have HB1 := Lib.hid ((BW.out.alloc hBs _).grown hgr1 (by simp; omega) (fun x hx => (HO.out.own.lt x hx).1))
   obtain ⟨a1, cap1, rfl, hlies⟩ := hown1.lies
   have HT := Lib.hid (told_any a1 cap1 _ w1 hlies (by rw [htr]; exact HF.out))
   have HLf : Hid (Lies w1 a1 (limbs (x * 2 ^ kk)).length (limbs (x * 2 ^ kk))) := by
    have h1 := (hlies.take (trimL (out ++ [cr])).length)
    rw [← trimL_prefix] at h1
    rw [← htr]; exact h1.clip
   have HTR := Lib.hid htr
   clear hown1 hgr1 hvs hlies htr
   go_wp2_with fail
   refine HT.out.mono ?_
   rintro e w2 ⟨rfl, rfl⟩
   rw [HTR.out]
   go_wp2_with fail
   go_ret2
   exact ⟨_, rfl, ⟨_, _, rfl, HLf.out⟩, HB1.out⟩
end Go.Proofs.YtfdnhkjeoeffoaaGreatDoor
end

section
/- Package nat: Parse. -/
namespace Go.Proofs.YtfdnhkjeoeffoaaGreatDoor
open Go.RowKit
set_option linter.unusedVariables false
/-- what digits write -/
def digVal (l : List UInt8) : Nat := l.foldl (fun n c => 10 * n + (c.toNat - 48)) 0
def Digits (l : List UInt8) : Prop := ∀ c ∈ l, 48 ≤ c.toNat ∧ c.toNat ≤ 57
theorem digVal_snoc (l : List UInt8) (c : UInt8) : digVal (l ++ [c]) = 10 * digVal l + (c.toNat - 48) := by simp [digVal]
theorem digVal_append (l m : List UInt8) : digVal l ≤ digVal (l ++ m) := by
 induction m generalizing l with
 | nil => simp
 | cons c m ih =>
   have := ih (l ++ [c])
   rw [digVal_snoc] at this
   rw [show l ++ c :: m = l ++ [c] ++ m by simp]
   omega
theorem digVal_take (l : List UInt8) (k : Nat) : digVal (l.take k) ≤ digVal l := by
 have := digVal_append (l.take k) (l.drop k)
 rwa [List.take_append_drop] at this
/-- bytes that lie in a row -/
def LiesB (w : World) (g off : Nat) (L : List UInt8) : Prop := ∀ i (h : i < L.length), w.cell? ⟨g, off + i, none⟩ = some (.int .u8 (L[i].toNat : Nat))
theorem LiesB.below {w w' : World} {g off B : Nat} {L : List UInt8} (h : LiesB w g off L) (hb : Below B w w') (hg : g < B) : LiesB w' g off L := fun i hi => by
 have e := h i hi
 unfold World.cell? at e ⊢
 rw [hb.block g hg]; exact e
theorem undStr : Tryz.prog.underlying 9 = some .string := by kernel_rfl
theorem undBytes : Tryz.prog.underlying 64 = some (.slice 5) := by kernel_rfl
theorem undByte : Tryz.prog.underlying 5 = some (.int .u8) := by kernel_rfl
/-- a string as bytes -/
theorem wpList_bytes (w : World) {ops : Array Oper} {rest : List Oper} {o : Oper} {a : Act} {Q : Exit → Act → World → Prop} (hg : o.guard = none) (x : Operand) (ho : o.op = .convert 9 64 x) (s : ByteArray) (hx : a.eval x = .string s)
 (hK : ∀ cap w', LiesB w' w.heap.size 0 s.data.toList → Below w.heap.size w w' → w'.heap.size = w.heap.size + 1 → wpList Tryz.prog ops Q rest (a.put o.dst (.slice (some ⟨w.heap.size, 0, none⟩) s.size cap)) w') : wpList Tryz.prog ops Q (o :: rest) a w := by
 have hr := Lib.run_convert_string_bytes (P := Tryz.prog) w 9 64 5 s undStr undBytes undByte
 refine wpList_plain hg fun K' hK' => ?_
 unfold Oper.wp
 simp [execOp, ho, hx, hr, Result.andThen]
 refine hK' _ _ (hK _ _ ?_ (Go.Joins.below_bytesWorld _ _ _ _ (Nat.le_refl _)) (Lib.bytesWorld_size _ _ _))
 intro i hi
 have := Lib.bytesWorld_cell w 5 s i (by simpa using hi)
 rw [Nat.zero_add, this]
 have h2 : i < s.data.size := by simpa using hi
 simp [List.getD, Array.getElem?_eq_getElem h2]
theorem OwnU.row {w : World} {base n cap : Nat} {a : Option Addr} {L : List Nat} (h : OwnU w base (.slice a n cap) L) (hne : 0 < L.length) : ∃ g, a = some ⟨g, 0, none⟩ ∧ n = L.length ∧ base ≤ g ∧ RowU w g cap L := by
 rcases h.at_ with ⟨_, rfl⟩ | ⟨g, cap', cur, e, hb, hg, hl, hm, hs, ht⟩
 ·simp at hne
 ·cases e
  exact ⟨g, rfl, rfl, hb, h.lt, hl, hm, cur, hg, hs, ht⟩
theorem OwnU.keep {w w' : World} {base B : Nat} {v : Value} {L : List Nat} (h : OwnU w base v L) (hb : Below B w w') (hB : w.heap.size ≤ B) : OwnU w' base v L := by
 rcases h.at_ with ⟨rfl, rfl⟩ | ⟨g, cap, cur, rfl, hbg, hg, hl, hm, hs, ht⟩
 ·exact OwnU.nil _ _
 ·exact (RowU.keep ⟨h.lt, hl, hm, cur, hg, hs, ht⟩ (hb.block g (Nat.lt_of_lt_of_le (lt_of_heap hg) hB))).own hbg
theorem parse_step {X X' : List Nat} {j cr : Nat} (hj : j < X.length) (hl : X'.length = X.length) (hd : X'.drop j = X.drop j) {d : Nat} (hv : val (X'.take j) + cr * B32 ^ j = 10 * val (X.take j) + d) :
 val ((X'.set j ((cr + X[j] * 10) % B32)).take (j + 1)) + (cr + X[j] * 10) / B32 * B32 ^ (j + 1) = 10 * val (X.take (j + 1)) + d := by
 have hj' : j < X'.length := by omega
 have e1 : (X'.set j ((cr + X[j] * 10) % B32)).take (j + 1) = X'.take j ++ [(cr + X[j] * 10) % B32] := by
  rw [List.take_succ_eq_append_getElem (by simpa using hj')]
  simp [List.take_set_of_le]
 rw [e1, List.take_succ_eq_append_getElem hj, val_append, val_append]
 simp only [val, List.length_take, Nat.min_eq_left (Nat.le_of_lt hj), Nat.min_eq_left (Nat.le_of_lt hj'), Nat.mul_zero, Nat.add_zero]
 have e := Nat.div_add_mod (cr + X[j] * 10) B32
 generalize (cr + X[j] * 10) / B32 = q at *
 generalize (cr + X[j] * 10) % B32 = r at *
 rw [Nat.pow_succ]
 generalize B32 ^ j = P at *
 have e2 : P * (B32 * q) + P * r = P * cr + 10 * (P * X[j]) := by
  rw [← Nat.mul_add, e, Nat.mul_add]; congr 1; ac_rfl
 rw [show q * (P * B32) = P * (B32 * q) by ac_rfl]
 rw [Nat.mul_comm cr] at hv
 omega
theorem parse_done0 {n n' : Nat} {X' : List Nat} (hX : ∀ x ∈ X', x < B32) (hl : X'.length = (limbs n).length) (hv : val X' = n') (hn : n ≤ n') : X' = limbs n' := by
 have h1 := trimL_limbs X' hX
 rw [hv] at h1
 have h2 : (limbs n).length ≤ (limbs n').length := by
  rcases Nat.lt_or_ge (limbs n').length (limbs n).length with h | h
  ·have := limbs_len_lt h; omega
  ·exact h
 have h3 := trimL_prefix X'
 rw [h1] at h3
 rw [h3, List.take_of_length_le (by omega)]
theorem parse_done1 {n' cr : Nat} {X' : List Nat} (hX : ∀ x ∈ X', x < B32) (hc : cr ≠ 0) (hcl : cr < B32) (hv : val X' + cr * B32 ^ X'.length = n') : X' ++ [cr] = limbs n' := by
 have h1 := trimL_snoc_pos cr hc X'
 rw [← h1, trimL_limbs _ (by intro x hx; rcases List.mem_append.1 hx with h | h; exact hX x h; simp at h; omega), val_append]
 congr 1
 simp only [val, Nat.mul_zero, Nat.add_zero]
 rw [← hv, Nat.mul_comm cr]
set_option maxRecDepth 100000 in
set_option maxHeartbeats 4000000 in
theorem Parse_any (s : ByteArray) (w : World) (hn : s.data.toList ≠ []) (hd : Digits s.data.toList) (hf : (limbs (digVal s.data.toList)).length ≤ 256) (hl : s.data.toList.length ≤ 1000000) :
 Calls Tryz.prog 191 #[.string s] w fun e w' => ∃ v, e = .returned (.tuple #[v, .int .i64 0]) ∧ NatV w' v (digVal s.data.toList) ∧ Below w.heap.size w w' := by
 have hne : s.toList.isEmpty = false := by
  rw [ByteArray.toList_eq]
  simpa using hn
 have hsz : s.size = s.data.toList.length := by simp
 generalize hLe : s.data.toList = L at *
 have HLe := Lib.hid hLe
 have HD := Lib.hid hd
 have HF := Lib.hid hf
 clear hd hf hn hLe
 go_enter Tryz.func191, Tryz.ntmps191
 go_wp2_with (refine wpList_bytes _ rfl _ rfl s rfl ?_; rw [HLe.out, hsz]; intro cap1 w1 hl1 hb1 hs1)
 generalize hg1 : w.heap.size = g1 at *
 have HG1 := Lib.hid hg1
 have HL1 := Lib.hid hl1
 have HB1 := Lib.hid hb1
 clear hg1 hl1 hb1
 go_wp2_with fail
 go_loop [16] (fun i => ∃ k : Nat, k ≤ L.length ∧ i = .int .i64 k) (fun i => L.length - (intOf i).toNat)
 case atStart => exact ⟨0, Nat.zero_le _, rfl⟩
 case round =>
  obtain ⟨k, hk, rfl⟩ := hrel
  by_cases hlt : k < L.length
  ·have hc := HL1.out k hlt
   rw [Nat.zero_add] at hc
   have hdd := HD.out _ (List.getElem_mem hlt)
   generalize L[k].toNat = c at *
   go_wp2_with fail
   go_round
   case rel => exact ⟨k + 1, by omega, by go_num⟩
   case measure => simp [intOf]; omega
  ·obtain rfl : k = L.length := by omega
   go_wp2_with (refine wpList_bytes _ rfl _ rfl s rfl ?_; rw [HLe.out, hsz]; intro cap2 w2 hl2 hb2 hs2)
   have HB2 := Lib.hid (HB1.out.trans (hb2.mono (by omega)))
   rw [hs1] at hl2 hs2
   have HL2 := Lib.hid hl2
   have hg2 : g1 + 1 < w2.heap.size := by omega
   clear hl2 hb2 HL1 HB1
   go_wp2_with fail
   go_loopw [4, 30] (fun o i wr => ∃ k : Nat, k ≤ L.length ∧ i = .int .i64 k ∧ OwnU wr w2.heap.size o (limbs (digVal (L.take k))) ∧ Below w2.heap.size w2 wr) (fun _ i _ => L.length - (intOf i).toNat)
   case atStart => exact ⟨0, Nat.zero_le _, rfl, by rw [show limbs (digVal (L.take 0)) = [] by simp [digVal, limbs_zero]]; exact OwnU.nil _ _, Below.refl _ _⟩
   case round =>
    obtain ⟨k, hk, rfl, hown, hbw⟩ := hrel
    have BW := Lib.hid hbw
    have hBs := hbw.size
    clear hbw
    have hsub := digVal_take L k
    have hlen0 : (limbs (digVal (L.take k))).length ≤ 256 := limbs_length_le (Nat.lt_of_le_of_lt hsub (lt_of_limbs_length HF.out))
    obtain ⟨a, cap, rfl, hlies⟩ := hown.lies
    by_cases hlt : k < L.length
    ·have hc := (HL2.out.below BW.out hg2) k hlt
     rw [Nat.zero_add] at hc
     have hdd := HD.out _ (List.getElem_mem hlt)
     have hsub1 := digVal_take L (k + 1)
     rw [List.take_succ_eq_append_getElem hlt, digVal_snoc] at hsub1
     have htk : Hid (digVal (L.take (k + 1)) = 10 * digVal (L.take k) + (L[k].toNat - 48)) := by
      show digVal (L.take (k + 1)) = _
      rw [List.take_succ_eq_append_getElem hlt, digVal_snoc]
     have hlen1 : (limbs (10 * digVal (L.take k) + (L[k].toNat - 48))).length ≤ 256 := limbs_length_le (Nat.lt_of_le_of_lt hsub1 (lt_of_limbs_length HF.out))
     have hvl := val_limbs (digVal (L.take k))
     have HVL := Lib.hid hvl
     have HO := Lib.hid hown
     have HLEN1 := Lib.hid hlen1
     clear hsub hsub1 hvl hown hlies hlen1
     generalize L[k].toNat = c at *
     generalize digVal (L.take k) = n at *
     generalize hXe : limbs n = X at *
     have HXE := Lib.hid hXe
     clear hXe
     obtain ⟨d, hd⟩ : ∃ d, d = c - 48 := ⟨_, rfl⟩
     rw [← hd] at htk HLEN1
     have ed : IntKind.wrap .u8 ((c : Int) - 48) = (d : Int) := by rw [IntKind.wrap_u8]; omega
     have ed2 : ((c : Int) - 48) % 256 = (d : Int) := by omega
     have hd9 : d ≤ 9 := by omega
     clear hd
     go_wp2_with fail
     clear hc hdd ed ed2
     obtain ⟨wo, rfl⟩ : ∃ wo : World, wo = wr := ⟨_, rfl⟩
     go_loopw [9, 39] (fun c i wr => ∃ (j : Nat) (X' : List Nat) (cr : Nat), j ≤ X.length ∧ i = .int .i64 j ∧ c = .int .u64 cr ∧ cr ≤ 9 ∧ X'.length = X.length ∧ val (X'.take j) + cr * B32 ^ j = 10 * val (X.take j) + d ∧ X'.drop j = X.drop j ∧ OwnU wr w2.heap.size (.slice a X.length cap) X' ∧ Below w2.heap.size w2 wr) (fun _ i _ => X.length - (intOf i).toNat)
     case atStart => exact ⟨0, X, d, Nat.zero_le _, rfl, rfl, hd9, rfl, by simp [val], rfl, HO.out, BW.out⟩
     case round =>
      obtain ⟨j, X', cr, hj, rfl, rfl, hcr, hxl, hv, hdr, hown', hbw'⟩ := hrel
      have HV := Lib.hid hv; have HXL := Lib.hid hxl; have HDR := Lib.hid hdr; have HO' := Lib.hid hown'; have BW' := Lib.hid hbw'
      have hBs' := hbw'.size
      clear hv hxl hdr hbw'
      by_cases hjl : j < X.length
      ·have hjX : j < X'.length := by rw [HXL.out]; exact hjl
       obtain ⟨gx, rfl, _, hgb, hrow⟩ := hown'.row (by omega)
       have hxj : X'[j] = X[j] := by
        have h1 := List.drop_eq_getElem_cons hjX
        have h2 := List.drop_eq_getElem_cons hjl
        rw [HDR.out, h2] at h1; exact (List.cons.inj h1).1.symm
       have hcx := hrow.cell j hjX
       have hfx := hrow.frozen j
       have hltg := hrow.ltg
       have hxl4 : X'[j] < 4294967296 := hrow.lt _ (List.getElem_mem hjX)
       obtain ⟨y, hy⟩ : ∃ y, y = (cr + X[j] * 10) % B32 := ⟨_, rfl⟩
       obtain ⟨c2, hc2⟩ : ∃ c2, c2 = (cr + X[j] * 10) / B32 := ⟨_, rfl⟩
       have HST := parse_step hjl HXL.out HDR.out HV.out
       rw [← hy, ← hc2] at HST
       have HST := Lib.hid HST
       have hyl : y < B32 := by rw [hy]; exact Nat.mod_lt _ (by decide)
       have ey : ((cr : Int) + X'[j] * 10) % 4294967296 = (y : Int) := by rw [hy, hxj, B32]; omega
       have ec : ((cr : Int) + X'[j] * 10) / 4294967296 = (c2 : Int) := by rw [hc2, hxj, B32]; omega
       have hc29 : c2 ≤ 9 := by rw [hc2, ← hxj, B32]; omega
       have HRS := Lib.hid (hrow.set j y hjX hyl)
       have HDS : Hid ((X'.set j y).drop (j + 1) = X.drop (j + 1)) := by
        show (X'.set j y).drop (j + 1) = X.drop (j + 1)
        rw [List.drop_set_of_lt (by omega)]
        have := congrArg (List.drop 1) HDR.out
        simpa [List.drop_drop] using this
       have HYL := Lib.hid hyl
       clear hy hc2 hxj hyl hrow hown'
       generalize X'[j] = xj at *
       clear hjX
       go_wp2_with fail
       go_roundw
       case rel => exact ⟨j + 1, X'.set j y, c2, by omega, by go_num, rfl, hc29, by simp [HXL.out], HST.out, HDS.out, by have h5 := HRS.out.own hgb; rw [List.length_set, HXL.out] at h5; exact h5, BW'.out.setCell hgb _⟩
       case measure => simp [intOf]; omega
      ·obtain rfl : j = X.length := by omega
       have hv' := HV.out
       rw [List.take_length, List.take_of_length_le (by rw [HXL.out]; exact Nat.le_refl _), HVL.out] at hv'
       have hlt' := hown'.lt
       by_cases hc0 : cr = 0
       ·subst hc0
        have hX' : X' = limbs (10 * n + d) := parse_done0 hlt' (by rw [HXE.out]; exact HXL.out) (by rw [← hv']; simp) (by omega)
        have hown2 := hown'
        rw [hX', ← htk.out] at hown2
        have HO2 := Lib.hid hown2
        clear hv' hlt' hX' hown' hown2
        go_wp2_with fail
        go_roundw
        case rel => exact ⟨k + 1, by omega, by go_num, HO2.out, BW'.out⟩
        case measure => simp [intOf]; omega
       ·have hX' : X' ++ [cr] = limbs (10 * n + d) := parse_done1 hlt' hc0 (by unfold B32; omega) (by rw [HXL.out]; exact hv')
        have hcr0 : 0 < cr := by omega
        have hcr1 : (cr : Int) % 4294967296 = cr := by omega
        have HO' := Lib.hid hown'
        have HX' := Lib.hid hX'
        have hxl : X'.length = X.length := HXL.out
        have hll : X.length + 1 ≤ 256 := by
         have := congrArg List.length hX'
         simp at this
         have := HLEN1.out
         omega
        clear hv' hlt' hX' hown' hc0
        have hdl2 := HLEN1.out
        rw [← htk.out] at hdl2
        go_wp2_with (
         at_builtin
         refine wpList_app1 _ rfl _ _ rfl w2.heap.size _ X' rfl (OwnU.alloc HO'.out _) wr.heap.size cr rfl (by simp [go_sem]) (by unfold B32; omega) (by simp; omega) (by omega) ?_
         intro v1 w3 hown1 hgr1
         rw [HX'.out, ← htk.out] at hown1
         have HO1 := Lib.hid hown1
         have HB1 := Lib.hid ((BW'.out.alloc hBs' _).grown hgr1 (by simp; omega) (fun x hx => (HO'.out.own.lt x hx).1))
         obtain ⟨a1, cap1, rfl, hlies1⟩ := hown1.lies
         clear hown1 hgr1 hlies1
         generalize hZ : limbs (digVal (L.take (k + 1))) = Z at *
         have HZ := Lib.hid hZ
         clear hZ)
        go_roundw
        case rel => exact ⟨k + 1, by omega, by go_num, by rw [HZ.out]; exact HO1.out, HB1.out⟩
        case measure => simp [intOf]; omega
    ·obtain rfl : k = L.length := by omega
     rw [List.take_length] at *
     have HL := Lib.hid hlies
     have hle := hlies.le
     clear hlies hown hsub
     go_wp2_with fail
     refine (clip_any _ _ cap _ hle).mono ?_
     rintro e w3 ⟨rfl, rfl⟩
     go_wp2_with fail
     go_ret2
     exact ⟨_, rfl, ⟨_, _, rfl, HL.out.clip⟩, by rw [HG1.out]; exact HB2.out.trans (BW.out.mono (by omega))⟩
end Go.Proofs.YtfdnhkjeoeffoaaGreatDoor
end

section
/- Package format: the reader: number. -/
namespace Go.Proofs.YtfdnhkjeoeffoaaGreatDoor
open Go.RowKit
set_option linter.unusedVariables false
def isDig (c : UInt8) : Bool := decide (48 ≤ c.toNat) && decide (c.toNat ≤ 57)
/-- how many digits stand there -/
def digN (s : ByteArray) (i : Nat) : Nat := ((s.data.toList.drop i).takeWhile isDig).length
/-- a star, or up to five digits: the number, whether it is a star, whether it may be, how many bytes -/
def figV (s : ByteArray) (i : Nat) : Int × Bool × Bool × Nat :=
 if ch s i = 42 then (0, true, true, 1)
 else if 5 < digN s i then (0, false, false, digN s i)
 else ((digVal ((s.data.toList.drop i).take (digN s i)) : Nat), false, true, digN s i)
theorem digN_le (s : ByteArray) (i : Nat) : digN s i ≤ s.size - i := by
 unfold digN
 refine Nat.le_trans (List.takeWhile_sublist _).length_le ?_
 rw [List.length_drop, sz_list]
 exact Nat.le_refl _
theorem dig_at {s : ByteArray} {i k : Nat} (h : k < digN s i) : 48 ≤ ch s (i + k) ∧ ch s (i + k) ≤ 57 := by
 obtain ⟨x, h1, h2⟩ := takeWhile_at isDig _ k h
 rw [ch_get h1]
 unfold isDig at h2
 simpa using h2
theorem dig_stop (s : ByteArray) (i : Nat) : ch s (i + digN s i) < 48 ∨ 57 < ch s (i + digN s i) := by
 cases h : (s.data.toList.drop i)[digN s i]? with
 | none => rw [ch_none h]; exact .inl (by decide)
 | some x =>
   have := takeWhile_stop isDig _ x h
   rw [ch_get h]
   unfold isDig at this
   simp only [Bool.and_eq_false_iff, decide_eq_false_iff_not] at this
   omega
theorem take_digits (s : ByteArray) (i : Nat) : Digits ((s.data.toList.drop i).take (digN s i)) := by
 intro c hc
 obtain ⟨k, hk, rfl⟩ := List.mem_iff_getElem.1 hc
 rw [List.length_take] at hk
 obtain ⟨x, h1, h2⟩ := takeWhile_at isDig (s.data.toList.drop i) k (by unfold digN at hk; omega)
 rw [List.getElem_take]
 rw [List.getElem?_eq_some_iff] at h1
 obtain ⟨h3, rfl⟩ := h1
 unfold isDig at h2
 simpa using h2
theorem decFrom_digits : ∀ (l : List UInt8) (a : Nat), Digits l → Lib.decFrom a l = some (l.foldl (fun n c => 10 * n + (c.toNat - 48)) a)
 | [], a, _ => rfl
 | c :: l, a, h => by
   have hc := h c (List.mem_cons_self ..)
   have hd : Lib.digitVal c = some (c.toNat - 48) := by unfold Lib.digitVal; rw [if_pos hc]
   unfold Lib.decFrom
   rw [hd]
   show Lib.decFrom (a * 10 + (c.toNat - 48)) l = _
   rw [decFrom_digits l _ (fun x hx => h x (List.mem_cons_of_mem _ hx)), List.foldl_cons, Nat.mul_comm]
theorem atoi_digits {l : List UInt8} (h : Digits l) (h0 : l ≠ []) : Lib.atoi l = some ((digVal l : Nat) : Int) := by
 cases l with
 | nil => exact absurd rfl h0
 | cons c r =>
   have hc := h c (List.mem_cons_self ..)
   have h45 : (c == 45) = false := by
    rw [beq_eq_false_iff_ne]; rintro rfl; have := hc.1; revert this; decide
   have h43 : (c == 43) = false := by
    rw [beq_eq_false_iff_ne]; rintro rfl; have := hc.1; revert this; decide
   show (if (c == 45) = true then (Lib.decNat r).map (fun (m : Nat) => -(m : Int)) else if (c == 43) = true then (Lib.decNat r).map (fun (m : Nat) => (m : Int)) else (Lib.decNat (c :: r)).map fun (m : Nat) => (m : Int)) = _
   rw [h45, h43]
   simp only [Bool.false_eq_true, if_false]
   unfold Lib.decNat
   simp only [List.isEmpty_cons, Bool.false_eq_true, if_false]
   rw [decFrom_digits _ _ h]
   rfl
/-- the variable of the syntax error holds an error -/
def ErrOk (w : World) : Prop := ∃ ev, w.cell? ⟨6, 0, none⟩ = some ev ∧ (ev = .nilIface ∨ ∃ te pe, ev = .iface te pe)
theorem ErrOk.lt {w : World} (h : ErrOk w) : 6 < w.heap.size := by
 obtain ⟨ev, h1, _⟩ := h
 rcases Nat.lt_or_ge 6 w.heap.size with h' | h'
 ·exact h'
 ·exfalso
  unfold World.cell? at h1
  rw [Array.getElem?_eq_none h'] at h1
  cases h1
theorem ErrOk.below {w w' : World} (h : ErrOk w) (hb : Below w.heap.size w w') : ErrOk w' := by
 have hl := h.lt
 obtain ⟨ev, h1, h2⟩ := h
 exact ⟨ev, (hb.cell (p := ⟨6, 0, none⟩) hl).trans h1, h2⟩
theorem ErrOk.apart {w w' : World} {S : List Nat} (h : ErrOk w) (ha : Apart S w w') (hS : 6 ∉ S) : ErrOk w' := by
 have hl := h.lt
 obtain ⟨ev, h1, h2⟩ := h
 refine ⟨ev, ?_, h2⟩
 rw [← h1]
 unfold World.cell?
 rw [ha.block _ hl hS]
theorem Atoi_figs (s : ByteArray) (w : World) (hd : Digits s.data.toList) (hs : s.size ≤ 5) (hE : ErrOk w) :
 Calls Tryz.prog 188 #[.string s] w fun e w' => (∃ v, e = .returned (.tuple #[.int .i64 (digVal s.data.toList : Nat), v])) ∧ Below w.heap.size w w' := by
 by_cases h0 : s.data.toList = []
 ·obtain ⟨ev, h1, h2⟩ := hE
  refine (Tryz.strconv_Atoi_err s (by omega) (by rw [h0]; rfl) ev w h1 h2).mono ?_
  rintro e w' ⟨N, rfl, _, _, hb⟩
  rw [h0]
  exact ⟨⟨_, rfl⟩, hb⟩
 ·refine (Tryz.strconv_Atoi s _ (by omega) (atoi_digits hd h0) w).mono ?_
  rintro e w' ⟨rfl, t, rfl⟩
  exact ⟨⟨_, rfl⟩, Lib.bytesWorld_below _ _ _⟩
set_option maxHeartbeats 4000000 in
set_option maxRecDepth 100000 in
/-- a star, or up to five digits, from a place on -/
theorem number_any (s : ByteArray) (i r : Nat) (w : World) (hr : RdAt w r s i) (hi : i ≤ s.size) (hs : s.size ≤ 200000000000000) (hE : ErrOk w) (hre : 6 ≠ r) :
 Calls Tryz.prog 123 #[.pointer (some ⟨r, 0, none⟩)] w fun e w' => e = .returned (.tuple #[.int .i64 (figV s i).1, .bool (figV s i).2.1, .bool (figV s i).2.2.1]) ∧
  RdAt w' r s ((i + (figV s i).2.2.2 : Nat) : Int) ∧ Apart [r] w w' := by
 have HR := Lib.hid hr
 have HE := Lib.hid hE
 have HX := Lib.hid (next_any s i r w hr)
 rw [chr_nat] at HX
 have hdn := digN_le s i
 obtain ⟨n, hn⟩ : ∃ n, n = digN s i := ⟨_, rfl⟩
 obtain ⟨F, hF⟩ : ∃ F, F = figV s i := ⟨_, rfl⟩
 rw [← hF]
 have HF := Lib.hid hF
 have HN := Lib.hid hn
 unfold figV at HF
 rw [← hn] at hdn HF
 have hrl := hr.lt
 clear hr hE hF hn
 by_cases h42 : ch s i = 42
 ·rw [h42] at HX HF
  rw [if_pos rfl] at HF
  go_enter Tryz.func123, Tryz.ntmps123
  go_wp2_with fail
  refine HX.out.mono ?_
  rintro e w1 ⟨rfl, hb⟩
  have HR2 := Lib.hid (HR.out.below hb)
  have HA2 := Lib.hid (Apart.of_below hb [r])
  have c1 := HR2.out.c1
  have f1 := HR2.out.f1
  clear hb
  go_wp2_with fail
  go_ret3
  rw [HF.out]
  refine ⟨rfl, ?_, HA2.out.setCell _ (by simp) _⟩
  exact HR2.out.step _
 ·have h42' : ((ch s i : Int) == 42) = false := by simp; omega
  rw [if_neg h42] at HF
  have HX2 := HX
  generalize hc : ch s i = c at *
  have HC := Lib.hid hc
  clear hc h42
  go_enter Tryz.func123, Tryz.ntmps123
  go_wp2_with fail
  refine HX.out.mono ?_
  rintro e w1 ⟨rfl, hb⟩
  have HR2 := Lib.hid (HR.out.below hb)
  have HA2 := Lib.hid (Apart.of_below hb [r])
  have c1 := HR2.out.c1
  have HX3 := Lib.hid (next_any s i r w1 HR2.out)
  rw [chr_nat, HC.out] at HX3
  clear hb
  go_wp2_with fail
  refine HX3.out.mono ?_
  rintro e w2 ⟨rfl, hb⟩
  have HR3 := Lib.hid (HR2.out.below hb)
  have HA3 := Lib.hid (HA2.out.trans (Apart.of_below hb []) (by simp))
  clear hb
  go_wp2_with fail
  go_loopw [6] (fun cv wr => ∃ k : Nat, k ≤ n ∧ cv = .int .u8 (ch s (i + k) : Nat) ∧ Hid (RdAt wr r s ((i + k : Nat) : Int)) ∧ Hid (Apart [r] w wr))
   (fun _ wr => i + n - (match wr.cell? ⟨r, 1, none⟩ with | some v => (intOf v).toNat | none => 0))
  case atStart =>
   refine ⟨0, Nat.zero_le _, ?_, HR3, HA3⟩
   rw [Nat.add_zero, HC.out]
  case round =>
   obtain ⟨k, hk, rfl, HR4, HA4⟩ := hrel
   have c4 := HR4.out.c1
   have f4 := HR4.out.f1
   rcases Nat.lt_or_ge k n with hlt | hge
   ·obtain ⟨d1, d2⟩ : 48 ≤ ch s (i + k) ∧ ch s (i + k) ≤ 57 := dig_at (by rw [← HN.out]; exact hlt)
    generalize hx : ch s (i + k) = x at *
    have D1 : (48 : Int) ≤ (x : Int) := by omega
    have D2 : (x : Int) ≤ 57 := by omega
    have H5 := HR4.out.step (((i : Int) + (k : Int)) + 1)
    have A5 : Apart [r] w (wr.setCell ⟨r, 1, none⟩ (.int .i64 (((i : Int) + (k : Int)) + 1))) := HA4.out.setCell _ (by simp) _
    rw [show ((i : Int) + (k : Int)) + 1 = ((i + (k + 1) : Nat) : Int) by omega] at H5 A5
    have HX5 := Lib.hid (next_any s ((i + (k + 1) : Nat) : Int) r _ H5)
    rw [chr_nat] at HX5
    have HR5 := Lib.hid H5
    have HA5 := Lib.hid A5
    clear hx H5 A5 d1 d2
    rw [show ((i + (k + 1) : Nat) : Int) = (i : Int) + (k : Int) + 1 by omega] at HX5
    go_wp2_with fail
    refine HX5.out.mono ?_
    rintro e w5 ⟨rfl, hb⟩
    have HR6 := Lib.hid (HR5.out.below (by rw [show ((i + (k + 1) : Nat) : Int) = (i : Int) + (k : Int) + 1 by omega]; exact hb))
    have HA6 := Lib.hid (HA5.out.trans (Apart.of_below (by rw [show ((i + (k + 1) : Nat) : Int) = (i : Int) + (k : Int) + 1 by omega]; exact hb) []) (by simp))
    clear hb
    go_wp2_with fail
    refine ⟨⟨k + 1, hlt, rfl, HR6, HA6⟩, ?_⟩
    rw [HR6.out.c1, HR4.out.c1]
    simp only [intOf]
    omega
   ·obtain rfl : k = n := by omega
    have hst := dig_stop s i
    rw [← HN.out] at hst
    generalize hx : ch s (i + k) = x at *
    clear hx
    have HD := Lib.hid (take_digits s i)
    rw [← HN.out] at HD
    rcases hst with hst | hst
    ·have D1 : (x : Int) < 48 := by omega
     clear hst
     rcases Nat.lt_or_ge 5 k with h5 | h5
     ·have H5 : (5 : Int) < (k : Int) := by omega
      rw [if_pos h5] at HF
      go_wp2_with fail
      go_ret3
      rw [HF.out]
      exact ⟨rfl, HR4.out, HA4.out⟩
     ·have H5 : (k : Int) ≤ 5 := by omega
      rw [if_neg (by omega)] at HF
      have c40 := HR4.out.c0
      have hb1 : (i : Int) ≤ (i : Int) + (k : Int) := by omega
      have hb2 : (i : Int) + (k : Int) ≤ (s.size : Int) := by omega
      have hext : (s.extract i (i + k)).data.toList = (s.data.toList.drop i).take k := by
       simp [ByteArray.data_extract, List.extract_eq_take_drop]
      have HAT := Lib.hid (Atoi_figs (s.extract i (i + k)) wr.drew (by rw [hext]; exact HD.out) (by rw [sz_list, hext, List.length_take]; omega) ((HE.out.apart HA4.out (by simp; exact hre)).below (Below.refl _ _).drew))
      rw [hext] at HAT
      have HNat : Hid (((i : Int) + (k : Int)).toNat = i + k) := by show _ = _; omega
      clear hext
      go_wp2_with fail
      go_region_held3 (fun w' => w'.cell? ⟨r, 0, none⟩ = some (.string s) ∧ w'.cell? ⟨r, 1, none⟩ = some (.int .i64 ((i + k : Nat) : Int))) (first | exact ⟨c40, c4⟩ | exact ⟨HR6.out.c0, HR6.out.c1⟩)
       (first | (go_at_call 188; rw [HNat.out]; refine HAT.out.mono ?_; rintro e w6 ⟨⟨v, rfl⟩, hb6⟩; have HR6 := Lib.hid (HR4.out.below ((Below.refl _ _).drew.trans hb6)); have HA6 := Lib.hid (HA4.out.trans (Apart.of_below ((Below.refl _ _).drew.trans hb6) []) (by simp))))
      go_wp2_with fail
      go_ret3
      rw [HF.out]
      exact ⟨rfl, HR6.out, HA6.out⟩
    ·have D1 : (57 : Int) < (x : Int) := by omega
     have D2 : (48 : Int) ≤ (x : Int) := by omega
     clear hst
     rcases Nat.lt_or_ge 5 k with h5 | h5
     ·have H5 : (5 : Int) < (k : Int) := by omega
      rw [if_pos h5] at HF
      go_wp2_with fail
      go_ret3
      rw [HF.out]
      exact ⟨rfl, HR4.out, HA4.out⟩
     ·have H5 : (k : Int) ≤ 5 := by omega
      rw [if_neg (by omega)] at HF
      have c40 := HR4.out.c0
      have hb1 : (i : Int) ≤ (i : Int) + (k : Int) := by omega
      have hb2 : (i : Int) + (k : Int) ≤ (s.size : Int) := by omega
      have hext : (s.extract i (i + k)).data.toList = (s.data.toList.drop i).take k := by
       simp [ByteArray.data_extract, List.extract_eq_take_drop]
      have HAT := Lib.hid (Atoi_figs (s.extract i (i + k)) wr.drew (by rw [hext]; exact HD.out) (by rw [sz_list, hext, List.length_take]; omega) ((HE.out.apart HA4.out (by simp; exact hre)).below (Below.refl _ _).drew))
      rw [hext] at HAT
      have HNat : Hid (((i : Int) + (k : Int)).toNat = i + k) := by show _ = _; omega
      clear hext
      go_wp2_with fail
      go_region_held3 (fun w' => w'.cell? ⟨r, 0, none⟩ = some (.string s) ∧ w'.cell? ⟨r, 1, none⟩ = some (.int .i64 ((i + k : Nat) : Int))) (first | exact ⟨c40, c4⟩ | exact ⟨HR6.out.c0, HR6.out.c1⟩)
       (first | (go_at_call 188; rw [HNat.out]; refine HAT.out.mono ?_; rintro e w6 ⟨⟨v, rfl⟩, hb6⟩; have HR6 := Lib.hid (HR4.out.below ((Below.refl _ _).drew.trans hb6)); have HA6 := Lib.hid (HA4.out.trans (Apart.of_below ((Below.refl _ _).drew.trans hb6) []) (by simp))))
      go_wp2_with fail
      go_ret3
      rw [HF.out]
      exact ⟨rfl, HR6.out, HA6.out⟩
end Go.Proofs.YtfdnhkjeoeffoaaGreatDoor
end
