/- An argument of the type Spec, opened and shut. -/
import Derived.Test.YtfdnhkjeoeffoaaGreatDoorAW2
import Derived.Lib.SmallJoins
import Derived.Test.YtfdnhkjeoeffoaaGreatDoorZ1
namespace Go.Proofs.YtfdnhkjeoeffoaaGreatDoor
open Go.ChangeShapes Go.WideShapes Go.ChangeAt Go.RowKit
set_option linter.unusedVariables false

theorem array8s {α : Type} {cs : Array α} (h : cs.size = 8) : ∃ c0 c1 c2 c3 c4 c5 c6 c7, cs = #[c0, c1, c2, c3, c4, c5, c6, c7] := by
  obtain ⟨l⟩ := cs
  match l, h with
  | [c0, c1, c2, c3, c4, c5, c6, c7], _ => exact ⟨c0, c1, c2, c3, c4, c5, c6, c7, rfl⟩
theorem list8s {α : Type} {cs : List α} (h : cs.length = 8) : ∃ c0 c1 c2 c3 c4 c5 c6 c7, cs = [c0, c1, c2, c3, c4, c5, c6, c7] := by
  match cs, h with
  | [c0, c1, c2, c3, c4, c5, c6, c7], _ => exact ⟨c0, c1, c2, c3, c4, c5, c6, c7, rfl⟩
theorem spec_cells : Tryz.prog.cellsOf 35 = 8 := by kernel_rfl
theorem int_cells2 : Tryz.prog.cellsOf 3 = 1 := by kernel_rfl
theorem bool_cells2 : Tryz.prog.cellsOf 4 = 1 := by kernel_rfl
theorem byte_cells2 : Tryz.prog.cellsOf 5 = 1 := by kernel_rfl
theorem wf_u8 {n : Int} (h : (Lit.int .u8 n).wf = true) : 0 ≤ n ∧ n < 256 := by
  have h2 : (decide (IntKind.u8.min ≤ n) && decide (n ≤ IntKind.u8.max)) = true := h
  rw [Bool.and_eq_true, decide_eq_true_eq, decide_eq_true_eq, show IntKind.u8.min = 0 by decide, show IntKind.u8.max = 255 by decide] at h2
  omega

set_option maxRecDepth 100000 in
theorem open_spec {H : Type} {enc : TypeId × Value → H} {w : World} {r : Reach} {b0 base : Nat} {spare : Nat → Bool} {held : Bool} {v : Value} {d : DataW H} {p : List MemPlace}
    (hv : Value.okWide Tryz.prog w r b0 35 v) (h : DataW.Trod enc Tryz.prog w base spare held 35 v d p) :
    ∃ (m p' b a z : Bool) (wd pr vb : Int), v = .agg #[.bool m, .bool p', .bool b, .bool a, .bool z, .int .i64 wd, .int .i64 pr, .int .u8 vb] ∧ d = .agg [.lit (.bool m), .lit (.bool p'), .lit (.bool b), .lit (.bool a), .lit (.bool z), .lit (.int .i64 wd), .lit (.int .i64 pr), .lit (.int .u8 vb)] ∧ p = [] ∧
      (Lit.int .i64 wd).wf = true ∧ (Lit.int .i64 pr).wf = true ∧ (Lit.int .u8 vb).wf = true ∧ ∀ (w' : World) base' spare' held', DataW.Trod enc Tryz.prog w' base' spare' held' 35 v d [] := by
  obtain ⟨cs, rfl, hsz⟩ := okWide_struct Tryz.underlying35 hv
  obtain ⟨c0, c1, c2, c3, c4, c5, c6, c7, rfl⟩ := array8s (hsz.trans spec_cells)
  obtain ⟨fuel, hf⟩ := h
  obtain ⟨xs, n, _, hx, hl, hlen, hg⟩ := DataW.trod_struct Tryz.underlying35 hf
  obtain ⟨y0, y1, y2, y3, y4, y5, y6, y7, rfl⟩ := list8s hlen
  have g0 := hg 0 _ rfl
  have g1 := hg 1 _ rfl
  have g2 := hg 2 _ rfl
  have g3 := hg 3 _ rfl
  have g4 := hg 4 _ rfl
  have g5 := hg 5 _ rfl
  have g6 := hg 6 _ rfl
  have g7 := hg 7 _ rfl
  simp only [int_cells2, bool_cells2, byte_cells2, Value.cells] at g0 g1 g2 g3 g4 g5 g6 g7
  obtain ⟨x0, e0, q0⟩ := DataW.trod_bool Tryz.underlying4 (show DataW.trod enc Tryz.prog w base spare held n 4 [c0] = some y0 from g0)
  obtain ⟨x1, e1, q1⟩ := DataW.trod_bool Tryz.underlying4 (show DataW.trod enc Tryz.prog w base spare held n 4 [c1] = some y1 from g1)
  obtain ⟨x2, e2, q2⟩ := DataW.trod_bool Tryz.underlying4 (show DataW.trod enc Tryz.prog w base spare held n 4 [c2] = some y2 from g2)
  obtain ⟨x3, e3, q3⟩ := DataW.trod_bool Tryz.underlying4 (show DataW.trod enc Tryz.prog w base spare held n 4 [c3] = some y3 from g3)
  obtain ⟨x4, e4, q4⟩ := DataW.trod_bool Tryz.underlying4 (show DataW.trod enc Tryz.prog w base spare held n 4 [c4] = some y4 from g4)
  obtain ⟨x5, e5, q5, f5⟩ := DataW.trod_int Tryz.underlying3 (show DataW.trod enc Tryz.prog w base spare held n 3 [c5] = some y5 from g5)
  obtain ⟨x6, e6, q6, f6⟩ := DataW.trod_int Tryz.underlying3 (show DataW.trod enc Tryz.prog w base spare held n 3 [c6] = some y6 from g6)
  obtain ⟨x7, e7, q7, f7⟩ := DataW.trod_int Tryz.underlying5 (show DataW.trod enc Tryz.prog w base spare held n 5 [c7] = some y7 from g7)
  simp only [List.cons.injEq, and_true] at e0 e1 e2 e3 e4 e5 e6 e7
  subst e0 e1 e2 e3 e4 e5 e6 e7 q0 q1 q2 q3 q4 q5 q6 q7
  simp only [List.map, List.flatMap_cons, List.flatMap_nil, List.append_nil, Prod.mk.injEq] at hx
  obtain ⟨rfl, rfl⟩ := hx
  refine ⟨x0, x1, x2, x3, x4, x5, x6, x7, rfl, rfl, rfl, f5, f6, f7, fun w' base' spare' held' => ⟨2, ?_⟩⟩
  refine (trod_struct_mk (n := 1) (xs := [(.lit (.bool x0), []), (.lit (.bool x1), []), (.lit (.bool x2), []), (.lit (.bool x3), []), (.lit (.bool x4), []), (.lit (.int .i64 x5), []), (.lit (.int .i64 x6), []), (.lit (.int .u8 x7), [])]) Tryz.underlying35 (by rw [spec_cells]; rfl) ?_)
  have t : ∀ z, (Lit.int .i64 z).wf = true → DataW.trod enc Tryz.prog w' base' spare' held' 1 3 [.int .i64 z] = some (.lit (.int .i64 z), []) := fun z hz => trod_int_mk 0 Tryz.underlying3 hz
  have tu : DataW.trod enc Tryz.prog w' base' spare' held' 1 5 [.int .u8 x7] = some (.lit (.int .u8 x7), []) := trod_int_mk 0 Tryz.underlying5 f7
  have tb : ∀ z, DataW.trod enc Tryz.prog w' base' spare' held' 1 4 [.bool z] = some (.lit (.bool z), []) := fun z => by simp [DataW.trod, Tryz.underlying4]
  simp [int_cells2, bool_cells2, byte_cells2, Value.cells, t, tu, tb, f5, f6]
end Go.Proofs.YtfdnhkjeoeffoaaGreatDoor
