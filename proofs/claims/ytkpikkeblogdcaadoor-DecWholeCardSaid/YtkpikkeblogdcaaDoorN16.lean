/- Package nat: Text of 0; Div as a whole. -/
import Derived.Test.YtkpikkeblogdcaaDoorN15
namespace Go.Proofs.YtkpikkeblogdcaaDoor
open Go.RowKit
set_option linter.unusedVariables false

theorem rowB_one (w : World) (c : Nat) (hc : c < 256) : RowB (w.alloc (.cells #[.int .u8 (c : Nat)] 5)) w.heap.size 1 [c] :=
  ⟨by intro x hx; simp at hx; omega, by simp, by omega, _, heap_alloc_at w _, rfl, rfl⟩

set_option maxRecDepth 100000 in
set_option maxHeartbeats 8000000 in
theorem Text_zero (va : Value) (w : World) (hx : NatV w va 0) :
    Calls Tryd.prog 45 #[va] w fun e w' => ∃ s : ByteArray, e = .returned (.tuple #[.string s, .int .i64 0]) ∧ Canon s.data.toList 0 ∧ Below w.heap.size w w' := by
  obtain ⟨a, ca, rfl, ha⟩ := hx
  have V1 := Lib.hid (valid_any a ca 0 w ha (by rw [limbs_zero]; simp))
  have C1 := Lib.hid (Clone_any a ca (limbs 0) w ha (by rw [limbs_zero]; simp))
  have hle := ha.le
  rw [limbs_zero] at *
  clear ha
  go_enter Tryd.func45, Tryd.ntmps45
  go_wp2_with fail
  refine V1.out.mono ?_
  rintro e w1 ⟨rfl, rfl⟩
  go_wp2_with fail
  refine C1.out.mono ?_
  rintro e w1 ⟨vl, rfl, hown0, hb1⟩
  have hs1 := hb1.size
  have HB1 := Lib.hid hb1
  obtain ⟨a, cap, rfl, _⟩ := hown0.lies
  clear hown0 hb1 V1 C1 hle
  go_wp2_with fail
  refine wp_loop_rounds 1 ?_
  rw [rounds_succ]
  go_wp2_with fail
  refine wp_loop_rounds 1 ?_
  rw [rounds_succ]
  go_wp2_with fail
  have HREV := Reverse_any w1.heap.size 1 [48] (w1.alloc (.cells #[.int .u8 (48 : Nat)] 5)) (rowB_one w1 48 (by decide))
  refine HREV.mono ?_
  rintro e w2 ⟨rfl, hr2, hb2⟩
  have HB2 := Lib.hid (hb2 w.heap.size w (HB1.out.alloc hs1 _) hs1)
  have HCT := Lib.hid (hr2.cell_turned (by intro c hc; simp at hc; omega))
  have htl : (turned [48]).length = 1 := by rw [turned_length]; rfl
  have HCN := Lib.hid canon_zero
  clear hr2 hb2 HREV
  generalize turned [48] = T at *
  go_wp2_with (refine wpList_string _ rfl _ rfl w1.heap.size 1 T (by rw [htl]; rfl) HCT.out ?_)
  go_ret2
  exact ⟨_, rfl, by simpa using HCN.out, HB2.out⟩

theorem Text_all (va : Value) (x : Nat) (w : World) (hx : NatV w va x) (hX : (limbs x).length ≤ 256) :
    Calls Tryd.prog 45 #[va] w fun e w' => ∃ s : ByteArray, e = .returned (.tuple #[.string s, .int .i64 0]) ∧ Canon s.data.toList x ∧ Below w.heap.size w w' := by
  rcases Nat.eq_zero_or_pos x with rfl | h
  · exact Text_zero va w hx
  · exact Text_any va x w hx hX h

theorem Div_any (va vb : Value) (x y : Nat) (w : World) (hx : NatV w va x) (hy : NatV w vb y) (hX : (limbs x).length ≤ 256) (hY : (limbs y).length ≤ 256) (hy0 : 0 < y) :
    Calls Tryd.prog 70 #[va, vb] w fun e w' => ∃ q r, e = .returned (.tuple #[q, r, .int .i64 0]) ∧ NatV w' q (x / y) ∧ NatV w' r (x % y) ∧ Below w.heap.size w w' := by
  have h1 : (limbs y).length ≠ 0 := fun h => by
    have := limbs_eq_nil.1 (List.eq_nil_of_length_eq_zero h); omega
  rcases Nat.lt_or_ge 1 (limbs y).length with h | h
  · exact Div_long va vb x y w hx hy hX hY h
  · exact Div_small va vb x y w hx hy hX (by omega)
end Go.Proofs.YtkpikkeblogdcaaDoor
