/- The document's answer of package format: Parse: the flags (under way). -/
import Derived.Test.YtjldeckcfdeklaaGreatDoorP23
namespace Go.Proofs.YtjldeckcfdeklaaGreatDoor
open Go.RowKit
set_option linter.unusedVariables false

theorem flags_in (x : UInt8) : inL x.toNat ⟨#[45, 43, 32, 35, 48]⟩ = isFlag x := by
  revert x
  have h : (List.range 256).all (fun n => inL n ⟨#[45, 43, 32, 35, 48]⟩ == isFlag (UInt8.ofNat n)) = true := by kernel_rfl
  intro x
  have h1 := List.all_eq_true.1 h x.toNat (List.mem_range.2 x.toNat_lt)
  rw [UInt8.ofNat_toNat] at h1
  exact eq_of_beq h1
theorem flag_more {s : ByteArray} {i k : Nat} (h : k < flagN s i) : inL (ch s (i + k)) ⟨#[45, 43, 32, 35, 48]⟩ = true := by
  obtain ⟨x, h1, h2⟩ := takeWhile_at isFlag _ k h
  rw [ch_get h1, flags_in]
  exact h2
theorem flag_none (s : ByteArray) (i : Nat) : inL (ch s (i + flagN s i)) ⟨#[45, 43, 32, 35, 48]⟩ = false := by
  cases h : (s.data.toList.drop i)[flagN s i]? with
  | none => rw [ch_none h]; decide
  | some x => rw [ch_get h, flags_in]; exact takeWhile_stop isFlag _ x h
theorem verbs_in (n : Nat) (h : n < 256) : inL n verbsB = decide (0 ≤ ixB verbsB n) := by
  have h1 : (List.range 256).all (fun n => inL n verbsB == decide (0 ≤ ixB verbsB n)) = true := by kernel_rfl
  exact eq_of_beq (List.all_eq_true.1 h1 n (List.mem_range.2 h))
theorem flagN_le (s : ByteArray) (i : Nat) : flagN s i ≤ s.size - i := by
  unfold flagN
  refine Nat.le_trans (List.takeWhile_sublist _).length_le ?_
  rw [List.length_drop, sz_list]
  exact Nat.le_refl _
/-- the flags, one sign more -/
def orF (a : Bool) (x c : Nat) : Bool := a || ((x : Int) == (c : Int))
theorem hasF_or (c : UInt8) (s : ByteArray) (i k : Nat) (hk : k < flagN s i) : hasF c s i (k + 1) = orF (hasF c s i k) (ch s (i + k)) c.toNat := by
  obtain ⟨x, h1, h2⟩ := takeWhile_at isFlag _ k hk
  rw [hasF_step c s i k x h1, ch_get h1]
  unfold orF
  congr 1
  by_cases h : c = x
  · subst h; simp
  · have h3 : x.toNat ≠ c.toNat := fun e => h (UInt8.toNat_inj.1 e.symm)
    rw [beq_eq_false_iff_ne.2 h, beq_eq_false_iff_ne.2 (show ((x.toNat : Nat) : Int) ≠ ((c.toNat : Nat) : Int) from fun e => h3 (by omega))]
end Go.Proofs.YtjldeckcfdeklaaGreatDoor
