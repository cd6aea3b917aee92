/- thresherlaw03: text, same. -/
import Derived.Test.YtkpikkeblogdcaaDoorD9
namespace Go.Proofs.YtkpikkeblogdcaaDoor
open Go.RowKit
set_option linter.unusedVariables false

theorem same_any (x y : Nat) (w : World) : Calls Tryd.prog 16 #[.float .f64 x, .float .f64 y] w fun e w' => e = .returned (.bool (x == y)) ∧ w' = w := by
  go_enter Tryd.func16, Tryd.ntmps16
  go_wp2_with fail
  go_ret
  refine ⟨?_, rfl⟩
  rw [show ((x : Int) == (y : Int)) = (x == y) by rw [Bool.eq_iff_iff, beq_iff_eq, beq_iff_eq]; omega]
  rfl

/-- the sign of a digit -/
def dig (r : Nat) : UInt8 := UInt8.ofNat (48 + r)
theorem dig_nat (r : Nat) (h : r < 10) : (dig r).toNat = 48 + r := by
  unfold dig; rw [UInt8.toNat_ofNat', Nat.mod_eq_of_lt (by omega)]
theorem cell_one (w : World) (t : TypeId) (n : Nat) (v : Int) (hv : v = (48 + n % 10 : Nat)) : ∀ j (hj : j < [dig (n % 10)].length), (w.alloc (.cells #[.int .u8 v] t)).cell? ⟨w.heap.size, j, none⟩ = some (.int .u8 ([dig (n % 10)][j].toNat : Nat)) := by
  intro j hj
  have h1 : j < 1 := hj
  obtain rfl : j = 0 := by omega
  simp only [List.getElem_cons_zero]
  rw [dig_nat _ (by omega), World.cell?_alloc_new, hv]
  rfl

/-- the digits of n so far: the least of them are r, m is what is left -/
structure Left (n m : Nat) (l r : List UInt8) : Prop where
  eq : l = dig (m % 10) :: r
  val : n = m * 10 ^ r.length + digVal r
  dig : Digits r
  pos : r = [] ∨ 0 < m
theorem Left.start (n : Nat) : Left n n [Go.Proofs.YtkpikkeblogdcaaDoor.dig (n % 10)] [] := ⟨rfl, by simp [digVal], by intro c hc; simp at hc, .inl rfl⟩
theorem Left.digits {n m : Nat} {l r : List UInt8} (h : Left n m l r) : Digits l := by
  rw [h.eq]
  intro c hc
  rcases List.mem_cons.1 hc with rfl | h2
  · rw [dig_nat _ (by omega)]; omega
  · exact h.dig c h2
theorem Left.digVal {n m : Nat} {l r : List UInt8} (h : Left n m l r) : digVal l = (m % 10) * 10 ^ r.length + Go.Proofs.YtkpikkeblogdcaaDoor.digVal r := by
  rw [h.eq, digVal_cons, dig_nat _ (by omega)]
  congr 2
  omega
theorem Left.step {n m : Nat} {l r : List UInt8} (h : Left n m l r) (hm : 10 ≤ m) : Left n (m / 10) (Go.Proofs.YtkpikkeblogdcaaDoor.dig (m / 10 % 10) :: l) l := by
  refine ⟨rfl, ?_, h.digits, .inr (by omega)⟩
  rw [h.digVal]
  have h1 := h.val
  have e : l.length = r.length + 1 := by rw [h.eq]; rfl
  rw [e, Nat.pow_succ]
  generalize 10 ^ r.length = P at *
  have e2 : m = 10 * (m / 10) + m % 10 := by omega
  rw [h1]
  generalize m / 10 = a at *
  generalize m % 10 = b at *
  subst e2
  have e3 : (10 * a + b) * P = a * (P * 10) + b * P := by rw [Nat.add_mul, Nat.mul_comm 10 a, Nat.mul_assoc, Nat.mul_comm 10 P]
  omega
theorem Left.canon {n m : Nat} {l r : List UInt8} (h : Left n m l r) (hm : m < 10) : Canon l n := by
  refine ⟨by rw [h.eq]; simp, h.digits, ?_, ?_⟩
  · rw [h.digVal, h.val, Nat.mod_eq_of_lt hm]
  · intro c t hl hc
    rw [h.eq] at hl
    injection hl with h1 h2
    subst h2
    rw [← h1, dig_nat _ (by omega)] at hc
    rcases h.pos with h3 | h3
    · exact h3
    · omega
theorem Left.short {n m : Nat} {l r : List UInt8} (h : Left n m l r) (hn : n < 18446744073709551616) : l.length ≤ 20 := by
  have e : l.length = r.length + 1 := by rw [h.eq]; rfl
  rcases h.pos with h1 | h1
  · rw [e, h1]; decide
  · have h2 : 10 ^ r.length ≤ n := by
      rw [h.val]
      have : 1 * 10 ^ r.length ≤ m * 10 ^ r.length := Nat.mul_le_mul_right _ h1
      omega
    have h3 : r.length < 20 := (Nat.pow_lt_pow_iff_right (a := 10) (by decide)).1 (Nat.lt_of_le_of_lt h2 (Nat.lt_of_lt_of_le hn (by decide)))
    omega

set_option maxRecDepth 100000 in
set_option maxHeartbeats 2000000 in
theorem text_any (n : Nat) (w : World) (hn : n < 18446744073709551616) :
    Calls Tryd.prog 24 #[.int .u64 n] w fun e w' => ∃ s : ByteArray, e = .returned (.string s) ∧ Canon s.data.toList n ∧ s.data.toList.length ≤ 20 ∧ Below w.heap.size w w' := by
  go_enter Tryd.func24, Tryd.ntmps24
  go_wp2_with
    (refine wpList_string _ rfl _ rfl w.heap.size 1 [dig (n % 10)] rfl (cell_one w _ n _ (by omega)) ?_)
  go_loopw [0, 3] (fun mv sv wr => ∃ (m : Nat) (s : ByteArray) (r : List UInt8), mv = .int .u64 m ∧ m ≤ n ∧ sv = .string s ∧ Left n m s.data.toList r ∧ Below w.heap.size w wr ∧ w.heap.size ≤ wr.heap.size) (fun mv _ _ => (intOf mv).toNat)
  case atStart => exact ⟨n, _, [], rfl, Nat.le_refl _, rfl, Left.start n, (Below.refl _ _).alloc (Nat.le_refl _) _, by simp⟩
  case round =>
    obtain ⟨m, s, r, rfl, hmn, rfl, hl, hb, hs⟩ := hrel
    have HL := Lib.hid hl
    have HB := Lib.hid hb
    have hsl : s.size ≤ 20 := by
      have hsz : s.size = s.data.toList.length := by simp
      have := hl.short hn
      omega
    clear hl hb
    have hm64 : m < 18446744073709551616 := by omega
    by_cases h10 : 10 ≤ m
    · obtain ⟨k, hk⟩ : ∃ k, k = m / 10 := ⟨_, rfl⟩
      have ek : (m : Int) / 10 = (k : Int) := by omega
      have ek2 : (m : Int).tdiv 10 = (k : Int) := by rw [Int.tdiv_eq_ediv_of_nonneg (by omega)]; omega
      obtain ⟨k, hk⟩ : ∃ k, k = m / 10 := ⟨_, rfl⟩
      have hk64 : k < 18446744073709551616 := by omega
      have hkm : k < m := by omega
      have hl2 := HL.out.step h10
      rw [← hk] at hl2
      have HL2 := Lib.hid hl2
      have hkn : k ≤ n := by omega
      have hm10 : (k : Int) = (m : Int) / 10 := by omega
      clear hl2 hk HL
      obtain ⟨M, hM⟩ : ∃ M : Int, M = (m : Int) := ⟨_, rfl⟩
      rw [← hM] at hm10 ⊢
      have hM1 : 10 ≤ M := by omega
      have hM2 : M < 18446744073709551616 := by omega
      have HM := Lib.hid hM
      have ek : M / 10 = (k : Int) := hm10.symm
      clear hM hm10 h10 hm64 hmn
      go_wp2_with
        (refine wpList_string _ rfl _ rfl wr.heap.size 1 [dig (k % 10)] rfl (cell_one wr _ k _ (by omega)) ?_)
      go_roundw
      case rel =>
        refine ⟨k, _, s.data.toList, rfl, hkn, rfl, ?_, HB.out.alloc hs _, by simp; omega⟩
        rw [ByteArray.data_append, Array.toList_append]
        exact HL2.out
      case measure =>
        rw [HM.out]
        show k < m
        exact hkm
    · go_wp2_with fail
      go_ret
      exact ⟨s, rfl, HL.out.canon (by omega), HL.out.short hn, HB.out⟩
end Go.Proofs.YtkpikkeblogdcaaDoor
