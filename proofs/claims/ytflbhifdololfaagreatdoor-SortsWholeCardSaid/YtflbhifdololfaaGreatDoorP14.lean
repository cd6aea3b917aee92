/- Fixed and Sci as functions: what they write is told by the float and the number of digits alone. -/
import Derived.Test.YtflbhifdololfaaGreatDoorP6
section
namespace Go.Proofs.YtflbhifdololfaaGreatDoor
open Go.RowKit
set_option linter.unusedVariables false

theorem GeT_more (A B : Nat) (k : Int) (n : Nat) (h : GeT A B k n) : ∀ d : Nat, GeT A B (k + d) (10 ^ d * n)
  | 0 => by
    have e : k + ((0 : Nat) : Int) = k := by omega
    rw [e, Nat.pow_zero, Nat.one_mul]
    exact h
  | d + 1 => by
    have h1 := (GeT_step A B (k + d) (10 ^ d * n)).2 (GeT_more A B k n h d)
    rw [show k + ((d + 1 : Nat) : Int) = k + d + 1 by omega, show 10 ^ (d + 1) * n = 10 * (10 ^ d * n) by rw [Nat.pow_succ]; ac_rfl]
    exact h1
theorem scaled_rat (b : Nat) (k : Int) : scaledN b k = ratN (mant b * 2 ^ (expo b).toNat) (2 ^ (-(expo b)).toNat) k := by
  unfold scaledN ratN
  rw [show mant b * 10 ^ k.toNat * 2 ^ (expo b).toNat = mant b * 2 ^ (expo b).toNat * 10 ^ k.toNat by ac_rfl]
theorem sci_not_less {b p : Nat} {x y : Int} (hx : SciAt b p x) (hy : SciAt b p y) : ¬ x < y := by
  intro hxy
  have h1 := hx.lt
  obtain ⟨y0, h2, h3, h4⟩ := hy.least
  rcases Int.lt_or_le x y0 with h | h
  · obtain ⟨d, hd⟩ : ∃ d : Nat, y0 - x = ((d + 1 : Nat) : Int) := ⟨(y0 - x - 1).toNat, by omega⟩
    have h5 := GeT_more _ _ _ _ h3 (d + 1)
    rw [show (p : Int) - y0 + ((d + 1 : Nat) : Int) = (p : Int) - x by omega] at h5
    have h6 := ratN_ge (pow2_pos _) h5
    rw [← scaled_rat] at h6
    have h7 : 10 ^ (p + 1) ≤ 10 ^ (d + 1) * 10 ^ p := by
      rw [← Nat.pow_add]
      exact Nat.pow_le_pow_right (by decide) (by omega)
    omega
  · have := h4 x h hxy
    omega
theorem sci_unique {b p : Nat} {x y : Int} (hx : SciAt b p x) (hy : SciAt b p y) : x = y := by
  have h1 := sci_not_less hx hy
  have h2 := sci_not_less hy hx
  omega

open Classical in
/-- a natural's digits -/
noncomputable def dl (n : Nat) : List UInt8 := if h : ∃ l, Canon l n then Classical.choose h else []
theorem dl_eq {l : List UInt8} {n : Nat} (h : Canon l n) : dl n = l := by
  unfold dl
  have hex : ∃ l, Canon l n := ⟨l, h⟩
  rw [dif_pos hex]
  exact canon_unique (Classical.choose_spec hex) h
open Classical in
/-- the power of a float's first digit, rounded to p + 1 digits -/
noncomputable def sciX (b p : Nat) : Int := if h : ∃ x, SciAt b p x then Classical.choose h else 0
theorem sciX_eq {b p : Nat} {x : Int} (h : SciAt b p x) : sciX b p = x := by
  unfold sciX
  have hex : ∃ x, SciAt b p x := ⟨x, h⟩
  rw [dif_pos hex]
  exact sci_unique (Classical.choose_spec hex) h
noncomputable def sciE (b p : Nat) : Int := if mant b = 0 then 0 else sciX b p
noncomputable def sciD (b p : Nat) : List UInt8 := if mant b = 0 then List.replicate (p + 1) 48 else dl (scaledN b (p - sciX b p))
noncomputable def fixT (b p : Nat) : List UInt8 := fixedL (dl (scaledN b p)) p

end Go.Proofs.YtflbhifdololfaaGreatDoor
end
namespace Go.Proofs.YtflbhifdololfaaGreatDoor
open Go.RowKit
set_option linter.unusedVariables false

theorem bytes_self (s : ByteArray) : (⟨s.data.toList.toArray⟩ : ByteArray) = s := by cases s; simp
theorem Fixed_det (b p : Nat) (w : World) (hb : b < 18446744073709551616) (hf : fin b = true) (hp : p ≤ 200) :
    Calls Tryz.prog 79 #[.float .f64 b, .int .i64 p] w fun e w' => e = .returned (.tuple #[.string ⟨(fixT b p).toArray⟩, .int .i64 0]) ∧ Below w.heap.size w w' := by
  refine (Fixed_ok b p w hb hf hp).mono ?_
  rintro e w' ⟨s, l, rfl, hc2, hs, hbw⟩
  unfold fixT
  rw [dl_eq hc2, ← hs]
  rw [bytes_self]
  exact ⟨rfl, hbw⟩
/-- what Sci writes: so many digits, and a power within bounds -/
structure SciOk (b p : Nat) : Prop where
  len : (sciD b p).length = p + 1
  lo : -325 ≤ sciE b p
  hi : sciE b p ≤ 309
  dig : Digits (sciD b p)
  fx : (dl (scaledN b ((p : Int) - sciE b p))).length ≤ p + 1
theorem scaled_zero {b : Nat} (k : Int) (h : mant b = 0) : scaledN b k = 0 := by
  have h1 := (scaledN_spec b k).2
  have h2 : numP b k = 0 := by
    unfold numP
    rw [h]
    simp
  rw [h2] at h1
  have h3 := denQ_pos b k
  rcases Nat.eq_zero_or_pos (scaledN b k) with h4 | h4
  · exact h4
  · exfalso
    have h5 : 2 * denQ b k ≤ 2 * scaledN b k * denQ b k := Nat.mul_le_mul_right _ (by omega)
    omega
theorem Sci_det (b p : Nat) (w : World) (hb : b < 18446744073709551616) (hf : fin b = true) (hp : p ≤ 200) :
    Calls Tryz.prog 120 #[.float .f64 b, .int .i64 p] w fun e w' => e = .returned (.tuple #[.string ⟨(sciD b p).toArray⟩, .int .i64 (sciE b p), .int .i64 0]) ∧ SciOk b p ∧ Below w.heap.size w w' := by
  by_cases hm : mant b = 0
  · refine (Sci_zero b p w hb hf hp hm).mono ?_
    rintro e w' ⟨s, rfl, hs, hbw⟩
    have e1 : sciD b p = List.replicate (p + 1) 48 := by unfold sciD; rw [if_pos hm]
    have e2 : sciE b p = 0 := by unfold sciE; rw [if_pos hm]
    refine ⟨?_, ⟨by rw [e1]; simp, by rw [e2]; decide, by rw [e2]; decide, by rw [e1]; intro c hc; rw [List.eq_of_mem_replicate hc]; decide, ?_⟩, hbw⟩
    · rw [e1, e2, ← hs, bytes_self]
    · rw [scaled_zero _ hm, dl_eq (canon_mk (l := [48]) (by decide) (by simp) (by decide) (.inl rfl))]
      simp
  · refine (Sci_loop b p w hb hf hp (Nat.pos_of_ne_zero hm)).mono ?_
    rintro e w' ⟨s, x, rfl, hc, hl, hsa, hx1, hx2, hbw⟩
    have e1 : sciE b p = x := by unfold sciE; rw [if_neg hm, sciX_eq hsa]
    have e2 : sciD b p = s.data.toList := by unfold sciD; rw [if_neg hm, sciX_eq hsa, dl_eq hc]
    refine ⟨?_, ⟨by rw [e2]; exact hl, by rw [e1]; exact hx1, by rw [e1]; exact hx2, by rw [e2]; exact hc.dig, ?_⟩, hbw⟩
    · rw [e1, e2, bytes_self]
    · rw [e1, dl_eq hc, hl]
      exact Nat.le_refl _
end Go.Proofs.YtflbhifdololfaaGreatDoor
