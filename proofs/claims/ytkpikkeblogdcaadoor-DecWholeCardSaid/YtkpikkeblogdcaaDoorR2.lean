/- Plain: the rounds of Sci. -/
import Derived.Test.YtkpikkeblogdcaaDoorR1
import Derived.Test.YtkpikkeblogdcaaDoorD5
namespace Go.Proofs.YtkpikkeblogdcaaDoor

theorem canon_len_gt {l : List UInt8} {x k : Nat} (h : Canon l x) (hx : 10 ^ k ≤ x) : k < l.length := by
  have h1 := digVal_lt h.dig
  rw [h.val] at h1
  exact (Nat.pow_lt_pow_iff_right (by decide)).1 (Nat.lt_of_le_of_lt hx h1)
theorem scaledN_rat (b : Nat) (k : Int) : scaledN b k = ratN (mant b * 2 ^ (expo b).toNat) (2 ^ (-(expo b)).toNat) k := by
  unfold scaledN ratN
  congr 1
  ac_rfl
/-- a round of Sci that does not go up has all its digits -/
theorem sci_down {A B p : Nat} {k : Int} (hB : 0 < B) (h : GeT A B k (10 ^ p) ∨ 10 ^ (p + 1) ≤ ratN A B (k + 1)) : 10 ^ p ≤ ratN A B k := by
  rcases h with h | h
  · exact ratN_ge hB h
  · rw [Nat.pow_succ, Nat.mul_comm] at h
    by_cases hg : GeT A B (k + 1) (10 * 10 ^ p)
    · exact ratN_ge hB ((GeT_step A B k _).1 hg)
    · have h1 := ratN_le hB hg
      exact Nat.le_of_eq (ratN_carry hB hg (by omega)).symm
end Go.Proofs.YtkpikkeblogdcaaDoor
