/- Package dec: Fixed. -/
import Derived.Test.YtkpikkeblogdcaaDoorD4
namespace Go.Proofs.YtkpikkeblogdcaaDoor
open Go.RowKit
set_option linter.unusedVariables false

set_option maxRecDepth 100000 in
set_option maxHeartbeats 2000000 in
theorem Fixed_bad (b : Nat) (p : Int) (w : World) (hb : b < 18446744073709551616) (h : fin b = false ∨ p < 0 ∨ 200 < p) :
    Calls Tryd.prog 18 #[.float .f64 b, .int .i64 p] w fun e w' => e = .returned (.tuple #[.string ⟨#[]⟩, .int .i64 1]) ∧ w = w' := by
  have HP := Lib.hid (Parts_any b w hb)
  generalize mant b = m at *
  generalize expo b = x at *
  clear hb
  go_enter Tryd.func18, Tryd.ntmps18
  go_wp2_with fail
  refine HP.out.mono ?_
  rintro e w1 ⟨rfl, rfl⟩
  clear HP
  by_cases hf : fin b = false
  · rw [hf]
    clear h
    go_wp2_with fail
    go_ret2
    exact ⟨rfl, rfl⟩
  · have hf' : fin b = true := by simpa using hf
    rw [hf']
    by_cases h0 : p < 0
    · clear h
      go_wp2_with fail
      go_ret2
      exact ⟨rfl, rfl⟩
    · have h2 : 200 < p := by
        rcases h with h | h | h
        · exact absurd h hf
        · exact absurd h h0
        · exact h
      clear h hf
      go_wp2_with fail
      go_ret2
      exact ⟨rfl, rfl⟩

def fixedL (l : List UInt8) (p : Nat) : List UInt8 :=
  let q := if l.length ≤ p then List.replicate (p + 1 - l.length) 48 ++ l else l
  if 0 < p then q.take (q.length - p) ++ 46 :: q.drop (q.length - p) else q
/-- the natural that Fixed writes -/
def scaledN (b : Nat) (k : Int) : Nat := rnd (mant b * 10 ^ k.toNat * 2 ^ (expo b).toNat) (10 ^ (-k).toNat * 2 ^ (-(expo b)).toNat)

theorem digVal_from (l : List UInt8) (n : Nat) : l.foldl (fun n c => 10 * n + (c.toNat - 48)) n = n * 10 ^ l.length + digVal l := by
  induction l generalizing n with
  | nil => simp [digVal]
  | cons c l ih =>
    have h1 := ih (10 * n + (c.toNat - 48))
    have h2 := ih (10 * 0 + (c.toNat - 48))
    simp only [digVal, List.foldl_cons, List.length_cons, Nat.pow_succ] at *
    rw [h1, h2, Nat.add_mul]
    simp only [Nat.mul_zero, Nat.zero_add]
    rw [← Nat.add_assoc]; congr 2; ac_rfl
theorem digVal_cons (c : UInt8) (l : List UInt8) : digVal (c :: l) = (c.toNat - 48) * 10 ^ l.length + digVal l := by
  have := digVal_from l (10 * 0 + (c.toNat - 48))
  simpa [digVal] using this
theorem digVal_lt {l : List UInt8} (h : Digits l) : digVal l < 10 ^ l.length := by
  induction l with
  | nil => simp [digVal]
  | cons c l ih =>
    have h1 := h c (by simp)
    have h2 := ih (fun x hx => h x (by simp [hx]))
    rw [digVal_cons, List.length_cons, Nat.pow_succ]
    have h3 : (c.toNat - 48) * 10 ^ l.length ≤ 9 * 10 ^ l.length := Nat.mul_le_mul_right _ (by omega)
    omega
theorem canon_len {l : List UInt8} {x k : Nat} (h : Canon l x) (hx : x < 10 ^ k) (hk : 0 < k) : l.length ≤ k := by
  rcases l with _ | ⟨c, r⟩
  · simp
  · rcases Nat.eq_zero_or_pos r.length with h0 | h0
    · simp; omega
    · have h1 := h.dig c (by simp)
      have h2 : c.toNat ≠ 48 := fun e => by
        have := h.top c r rfl e
        rw [this] at h0; simp at h0
      have h3 := h.val
      rw [digVal_cons] at h3
      have h4 : 1 * 10 ^ r.length ≤ (c.toNat - 48) * 10 ^ r.length := Nat.mul_le_mul_right _ (by omega)
      rcases Nat.lt_or_ge r.length k with h5 | h5
      · exact h5
      · have := Nat.pow_le_pow_right (n := 10) (by decide) h5
        omega
theorem mant_lt (b : Nat) : mant b < 9007199254740992 := by
  unfold mant; split
  · omega
  · split <;> omega
theorem expo_bounds {b : Nat} : -1074 ≤ expo b ∧ expo b ≤ 971 := by
  unfold expo; split
  · omega
  · split <;> omega

theorem scaledN_lt {b : Nat} {k : Int} (h1 : -600 ≤ k) (h2 : k ≤ 600) : nbits (scaledN b k) ≤ 4001 := by
  have hm := mant_lt b
  have he := expo_bounds (b := b)
  have hmb : nbits (mant b) ≤ 53 := nbits_le.2 (by rw [show (2 : Nat) ^ 53 = 9007199254740992 by decide]; exact hm)
  have hn : nbits (mant b * 10 ^ k.toNat) ≤ 2064 := nbits_mul hmb (pow10_bits (by omega)) (by omega)
  have hX : nbits (mant b * 10 ^ k.toNat * 2 ^ (expo b).toNat) ≤ 4000 := nbits_shift (by omega)
  exact nbits_add (k := 4000) hX (Nat.le_trans (rnd_le _ _) (Nat.succ_le_succ (Nat.div_le_self _ _)))
theorem scaled_b (b : Nat) (k : Int) (w : World) (h1 : -600 ≤ k) (h2 : k ≤ 600) :
    Calls Tryd.prog 46 #[.int .u64 (mant b : Nat), .int .i64 (expo b), .int .i64 k] w fun r w' => ∃ v, r = .returned v ∧ NatV w' v (scaledN b k) ∧ Below w.heap.size w w' := by
  have hm := mant_lt b
  have he := expo_bounds (b := b)
  exact scaled_any (mant b) (expo b) k w (by omega) (by omega) (by omega) h1 h2
theorem text_b {b : Nat} {k : Int} {v : Value} {w : World} (h1 : -600 ≤ k) (h2 : k ≤ 600) (h : NatV w v (scaledN b k)) :
    Calls Tryd.prog 45 #[v] w fun e w' => ∃ s : ByteArray, e = .returned (.tuple #[.string s, .int .i64 0]) ∧ Canon s.data.toList (scaledN b k) ∧ s.data.toList.length ≤ 4001 ∧ Below w.heap.size w w' := by
  refine (Text_all v _ w h (limbs_of_bits (Nat.le_trans (scaledN_lt h1 h2) (by decide)))).mono ?_
  rintro e w' ⟨s, rfl, hc, hb⟩
  refine ⟨s, rfl, hc, canon_len (k := 4001) hc (Nat.lt_of_lt_of_le (nbits_le.1 (scaledN_lt h1 h2)) (two_ten 4001)) (by decide), hb⟩
end Go.Proofs.YtkpikkeblogdcaaDoor
