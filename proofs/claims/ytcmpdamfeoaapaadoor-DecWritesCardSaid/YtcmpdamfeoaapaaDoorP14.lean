/- Fixed and Sci as functions: what they write is told by the float and the number of digits alone. -/
import Derived.Test.YtcmpdamfeoaapaaDoorM3
import Derived.Test.YtcmpdamfeoaapaaDoorM4
namespace Go.Proofs.YtcmpdamfeoaapaaDoor
open Go.RowKit
set_option linter.unusedVariables false

theorem bytes_self (s : ByteArray) : (⟨s.data.toList.toArray⟩ : ByteArray) = s := by cases s; simp
theorem Fixed_det (b p : Nat) (w : World) (hb : b < 18446744073709551616) (hf : fin b = true) (hp : p ≤ 200) :
    Calls Tryd.prog 10 #[.float .f64 b, .int .i64 p] w fun e w' => e = .returned (.tuple #[.string ⟨(fixT b p).toArray⟩, .int .i64 0]) ∧ Below w.heap.size w w' := by
  refine (Fixed_ok b p w hb hf hp).mono ?_
  rintro e w' ⟨s, l, rfl, hc2, hs, hbw⟩
  unfold fixT
  rw [dl_eq hc2, ← hs]
  rw [bytes_self]
  exact ⟨rfl, hbw⟩
/-- what Sci writes: so many digits, and a power within bounds -/
structure SciOk (b p : Nat) : Prop where
  len : (sciD b p).length = p + 1
  lo : -325 ≤ sciE b p
  hi : sciE b p ≤ 309
  dig : Digits (sciD b p)
  fx : (dl (scaledN b ((p : Int) - sciE b p))).length ≤ p + 1
theorem scaled_zero {b : Nat} (k : Int) (h : mant b = 0) : scaledN b k = 0 := by
  have h1 := (scaledN_spec b k).2
  have h2 : numP b k = 0 := by
    unfold numP
    rw [h]
    simp
  rw [h2] at h1
  have h3 := denQ_pos b k
  rcases Nat.eq_zero_or_pos (scaledN b k) with h4 | h4
  · exact h4
  · exfalso
    have h5 : 2 * denQ b k ≤ 2 * scaledN b k * denQ b k := Nat.mul_le_mul_right _ (by omega)
    omega
theorem Sci_det (b p : Nat) (w : World) (hb : b < 18446744073709551616) (hf : fin b = true) (hp : p ≤ 200) :
    Calls Tryd.prog 12 #[.float .f64 b, .int .i64 p] w fun e w' => e = .returned (.tuple #[.string ⟨(sciD b p).toArray⟩, .int .i64 (sciE b p), .int .i64 0]) ∧ SciOk b p ∧ Below w.heap.size w w' := by
  by_cases hm : mant b = 0
  · refine (Sci_zero b p w hb hf hp hm).mono ?_
    rintro e w' ⟨s, rfl, hs, hbw⟩
    have e1 : sciD b p = List.replicate (p + 1) 48 := by unfold sciD; rw [if_pos hm]
    have e2 : sciE b p = 0 := by unfold sciE; rw [if_pos hm]
    refine ⟨?_, ⟨by rw [e1]; simp, by rw [e2]; decide, by rw [e2]; decide, by rw [e1]; intro c hc; rw [List.eq_of_mem_replicate hc]; decide, ?_⟩, hbw⟩
    · rw [e1, e2, ← hs, bytes_self]
    · rw [scaled_zero _ hm, dl_eq (canon_mk (l := [48]) (by decide) (by simp) (by decide) (.inl rfl))]
      simp
  · refine (Sci_loop b p w hb hf hp (Nat.pos_of_ne_zero hm)).mono ?_
    rintro e w' ⟨s, x, rfl, hc, hl, hsa, hx1, hx2, hbw⟩
    have e1 : sciE b p = x := by unfold sciE; rw [if_neg hm, sciX_eq hsa]
    have e2 : sciD b p = s.data.toList := by unfold sciD; rw [if_neg hm, sciX_eq hsa, dl_eq hc]
    refine ⟨?_, ⟨by rw [e2]; exact hl, by rw [e1]; exact hx1, by rw [e1]; exact hx2, by rw [e2]; exact hc.dig, ?_⟩, hbw⟩
    · rw [e1, e2, bytes_self]
    · rw [e1, dl_eq hc, hl]
      exact Nat.le_refl _
end Go.Proofs.YtcmpdamfeoaapaaDoor
