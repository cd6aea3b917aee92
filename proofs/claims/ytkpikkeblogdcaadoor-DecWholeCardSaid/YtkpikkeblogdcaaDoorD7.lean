/- Package dec: Sci. -/
import Derived.Test.YtkpikkeblogdcaaDoorD6
namespace Go.Proofs.YtkpikkeblogdcaaDoor
open Go.RowKit
set_option linter.unusedVariables false

set_option maxRecDepth 100000 in
set_option maxHeartbeats 2000000 in
theorem Sci_bad (b : Nat) (p : Int) (w : World) (hb : b < 18446744073709551616) (h : fin b = false ∨ p < 0 ∨ 200 < p) :
    Calls Tryd.prog 20 #[.float .f64 b, .int .i64 p] w fun e w' => e = .returned (.tuple #[.string ⟨#[]⟩, .int .i64 0, .int .i64 1]) ∧ w = w' := by
  have HP := Lib.hid (Parts_any b w hb)
  generalize mant b = m at *
  generalize expo b = x at *
  clear hb
  go_enter Tryd.func20, Tryd.ntmps20
  go_wp2_with fail
  refine HP.out.mono ?_
  rintro e w1 ⟨rfl, rfl⟩
  clear HP
  by_cases hf : fin b = false
  · rw [hf]
    clear h
    go_wp2_with fail
    go_ret3
    exact ⟨rfl, rfl⟩
  · have hf' : fin b = true := by simpa using hf
    rw [hf']
    by_cases h0 : p < 0
    · clear h
      go_wp2_with fail
      go_ret3
      exact ⟨rfl, rfl⟩
    · have h2 : 200 < p := by
        rcases h with h | h | h
        · exact absurd h hf
        · exact absurd h h0
        · exact h
      clear h hf
      go_wp2_with fail
      go_ret3
      exact ⟨rfl, rfl⟩

set_option maxRecDepth 100000 in
set_option maxHeartbeats 2000000 in
theorem Sci_zero (b : Nat) (p : Nat) (w : World) (hb : b < 18446744073709551616) (hf : fin b = true) (hp : p ≤ 200) (hm : mant b = 0) :
    Calls Tryd.prog 20 #[.float .f64 b, .int .i64 p] w fun e w' => ∃ s : ByteArray, e = .returned (.tuple #[.string s, .int .i64 0, .int .i64 0]) ∧ s.data.toList = List.replicate (p + 1) 48 ∧ Below w.heap.size w w' := by
  have HP := Lib.hid (Parts_any b w hb)
  rw [hf, hm] at HP
  generalize expo b = x at *
  clear hb hf hm
  have hpi : (p : Int) ≤ 200 := by omega
  have HRP := Lib.hid (Tryd.strings_Repeat ⟨#[48]⟩ (p + 1) w (by omega) (by show 1 * (p + 1) ≤ _; omega))
  go_enter Tryd.func20, Tryd.ntmps20
  go_wp2_with fail
  refine HP.out.mono ?_
  rintro e w1 ⟨rfl, rfl⟩
  clear HP
  go_wp2_with fail
  refine HRP.out.mono ?_
  rintro e w3 ⟨rfl, hb3⟩
  have HB3 := Lib.hid hb3
  clear hb3
  have hR : Hid ((ByteArray.mk (Lib.repeatL [48] (p + 1)).toArray).data.toList = List.replicate (p + 1) 48) := repeatL_one 48 (p + 1)
  obtain ⟨R, hR2⟩ : ∃ R : ByteArray, R = ⟨(Lib.repeatL [48] (p + 1)).toArray⟩ := ⟨_, rfl⟩
  rw [← hR2] at hR
  clear HRP
  go_wp2_with fail
  go_ret3
  exact ⟨_, rfl, repeatL_one 48 (p + 1), HB3.out⟩
end Go.Proofs.YtkpikkeblogdcaaDoor
