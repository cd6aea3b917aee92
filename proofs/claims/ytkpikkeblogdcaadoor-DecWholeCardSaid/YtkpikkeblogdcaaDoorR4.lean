/- Plain: GeT along powers; where Sci starts. -/
import Derived.Test.YtkpikkeblogdcaaDoorR3
namespace Go.Proofs.YtkpikkeblogdcaaDoor
theorem GeT_up (A B : Nat) (k : Int) : ∀ p : Nat, GeT A B k 1 → GeT A B (k + p) (10 ^ p)
  | 0, h => by simpa using h
  | p + 1, h => by
    have h1 := GeT_up A B k p h
    have h2 := (GeT_step A B (k + p) (10 ^ p)).2 h1
    rw [show k + ((p + 1 : Nat) : Int) = k + p + 1 by omega, Nat.pow_succ, Nat.mul_comm]; exact h2

theorem sci_start {m j : Nat} {e : Int} (hm : 2 ^ j ≤ m) (h1 : -1074 ≤ (j : Int) + e) (h2 : (j : Int) + e ≤ 1023) (p : Nat) : GeT (m * 2 ^ e.toNat) (2 ^ (-e).toNat) ((p : Int) - exp0 (j + e)) (10 ^ p) := by
  have h := low_ok h1 h2
  generalize exp0 ((j : Int) + e) = x at *
  have hg : GeT (m * 2 ^ e.toNat) (2 ^ (-e).toNat) (-x) 1 := by
    unfold GeT
    rw [Int.neg_neg, Nat.one_mul]
    refine Nat.le_trans ?_ (Nat.mul_le_mul_right _ (Nat.mul_le_mul_right _ hm))
    have hk : (-e).toNat + ((j : Int) + e).toNat = j + e.toNat + (-((j : Int) + e)).toNat := by omega
    have hp : 2 ^ (-e).toNat * 2 ^ ((j : Int) + e).toNat = 2 ^ j * 2 ^ e.toNat * 2 ^ (-((j : Int) + e)).toNat := by
      rw [← Nat.pow_add, ← Nat.pow_add, ← Nat.pow_add, hk]
    have h3 := Nat.mul_le_mul_right (2 ^ (-e).toNat) h
    have hpos : 0 < 2 ^ (-((j : Int) + e)).toNat := Nat.pow_pos (by decide)
    refine Nat.le_of_mul_le_mul_right ?_ hpos
    calc 10 ^ x.toNat * 2 ^ (-e).toNat * 2 ^ (-((j : Int) + e)).toNat = 10 ^ x.toNat * 2 ^ (-((j : Int) + e)).toNat * 2 ^ (-e).toNat := by ac_rfl
      _ ≤ 2 ^ ((j : Int) + e).toNat * 10 ^ (-x).toNat * 2 ^ (-e).toNat := h3
      _ = (2 ^ (-e).toNat * 2 ^ ((j : Int) + e).toNat) * 10 ^ (-x).toNat := by ac_rfl
      _ = 2 ^ j * 2 ^ e.toNat * 10 ^ (-x).toNat * 2 ^ (-((j : Int) + e)).toNat := by rw [hp]; ac_rfl
  have h4 := GeT_up _ _ (-x) p hg
  rw [show -x + (p : Int) = (p : Int) - x by omega] at h4
  exact h4
end Go.Proofs.YtkpikkeblogdcaaDoor
