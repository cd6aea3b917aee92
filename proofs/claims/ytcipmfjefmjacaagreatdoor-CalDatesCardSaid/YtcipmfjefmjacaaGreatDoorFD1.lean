/- An argument of the type Date, opened and shut. -/
import Derived.Test.YtcipmfjefmjacaaGreatDoorFW0
import Derived.Test.YtcipmfjefmjacaaGreatDoorC19
import Derived.Lib.SmallJoins
namespace Go.Proofs.YtcipmfjefmjacaaGreatDoor
open Go.ChangeShapes Go.WideShapes Go.ChangeAt Go.RowKit
set_option linter.unusedVariables false

theorem array8 {α : Type} {cs : Array α} (h : cs.size = 8) : ∃ c0 c1 c2 c3 c4 c5 c6 c7, cs = #[c0, c1, c2, c3, c4, c5, c6, c7] := by
  obtain ⟨l⟩ := cs
  match l, h with
  | [c0, c1, c2, c3, c4, c5, c6, c7], _ => exact ⟨c0, c1, c2, c3, c4, c5, c6, c7, rfl⟩
theorem list8 {α : Type} {cs : List α} (h : cs.length = 8) : ∃ c0 c1 c2 c3 c4 c5 c6 c7, cs = [c0, c1, c2, c3, c4, c5, c6, c7] := by
  match cs, h with
  | [c0, c1, c2, c3, c4, c5, c6, c7], _ => exact ⟨c0, c1, c2, c3, c4, c5, c6, c7, rfl⟩
theorem date_cells : Tryz.prog.cellsOf 23 = 8 := by kernel_rfl
theorem int_cells : Tryz.prog.cellsOf 3 = 1 := by kernel_rfl

set_option maxRecDepth 100000 in
theorem open_date {H : Type} {enc : TypeId × Value → H} {w : World} {r : Reach} {b0 base : Nat} {spare : Nat → Bool} {held : Bool} {v : Value} {d : DataW H} {p : List MemPlace}
    (hv : Value.okWide Tryz.prog w r b0 23 v) (h : DataW.Trod enc Tryz.prog w base spare held 23 v d p) :
    ∃ x0 x1 x2 x3 x4 x5 x6 x7 : Int, v = dateV x0 x1 x2 x3 x4 x5 x6 x7 ∧ p = [] ∧ ∀ (w' : World) base' spare' held', DataW.Trod enc Tryz.prog w' base' spare' held' 23 v d [] := by
  obtain ⟨cs, rfl, hsz⟩ := okWide_struct Tryz.underlying23 hv
  obtain ⟨c0, c1, c2, c3, c4, c5, c6, c7, rfl⟩ := array8 (hsz.trans date_cells)
  obtain ⟨fuel, hf⟩ := h
  obtain ⟨xs, n, _, hx, hl, hlen, hg⟩ := DataW.trod_struct Tryz.underlying23 hf
  obtain ⟨y0, y1, y2, y3, y4, y5, y6, y7, rfl⟩ := list8 hlen
  have g0 := hg 0 _ rfl
  have g1 := hg 1 _ rfl
  have g2 := hg 2 _ rfl
  have g3 := hg 3 _ rfl
  have g4 := hg 4 _ rfl
  have g5 := hg 5 _ rfl
  have g6 := hg 6 _ rfl
  have g7 := hg 7 _ rfl
  simp only [int_cells, Value.cells] at g0 g1 g2 g3 g4 g5 g6 g7
  obtain ⟨x0, e0, q0, f0⟩ := DataW.trod_int Tryz.underlying3 (show DataW.trod enc Tryz.prog w base spare held n 3 [c0] = some y0 from g0)
  obtain ⟨x1, e1, q1, f1⟩ := DataW.trod_int Tryz.underlying3 (show DataW.trod enc Tryz.prog w base spare held n 3 [c1] = some y1 from g1)
  obtain ⟨x2, e2, q2, f2⟩ := DataW.trod_int Tryz.underlying3 (show DataW.trod enc Tryz.prog w base spare held n 3 [c2] = some y2 from g2)
  obtain ⟨x3, e3, q3, f3⟩ := DataW.trod_int Tryz.underlying3 (show DataW.trod enc Tryz.prog w base spare held n 3 [c3] = some y3 from g3)
  obtain ⟨x4, e4, q4, f4⟩ := DataW.trod_int Tryz.underlying3 (show DataW.trod enc Tryz.prog w base spare held n 3 [c4] = some y4 from g4)
  obtain ⟨x5, e5, q5, f5⟩ := DataW.trod_int Tryz.underlying3 (show DataW.trod enc Tryz.prog w base spare held n 3 [c5] = some y5 from g5)
  obtain ⟨x6, e6, q6, f6⟩ := DataW.trod_int Tryz.underlying3 (show DataW.trod enc Tryz.prog w base spare held n 3 [c6] = some y6 from g6)
  obtain ⟨x7, e7, q7, f7⟩ := DataW.trod_int Tryz.underlying3 (show DataW.trod enc Tryz.prog w base spare held n 3 [c7] = some y7 from g7)
  simp only [List.cons.injEq, and_true] at e0 e1 e2 e3 e4 e5 e6 e7
  subst e0 e1 e2 e3 e4 e5 e6 e7 q0 q1 q2 q3 q4 q5 q6 q7
  simp only [List.map, List.flatMap_cons, List.flatMap_nil, List.append_nil, Prod.mk.injEq] at hx
  obtain ⟨rfl, rfl⟩ := hx
  refine ⟨x0, x1, x2, x3, x4, x5, x6, x7, rfl, rfl, fun w' base' spare' held' => ⟨2, ?_⟩⟩
  refine (trod_struct_mk (n := 1) (xs := [(.lit (.int .i64 x0), []), (.lit (.int .i64 x1), []), (.lit (.int .i64 x2), []), (.lit (.int .i64 x3), []), (.lit (.int .i64 x4), []), (.lit (.int .i64 x5), []), (.lit (.int .i64 x6), []), (.lit (.int .i64 x7), [])]) Tryz.underlying23 (by rw [date_cells]; rfl) ?_)
  have t : ∀ z, (Lit.int .i64 z).wf = true → DataW.trod enc Tryz.prog w' base' spare' held' 1 3 [.int .i64 z] = some (.lit (.int .i64 z), []) := fun z hz => trod_int_mk 0 Tryz.underlying3 hz
  simp [int_cells, Value.cells, t, f0, f1, f2, f3, f4, f5, f6, f7]
end Go.Proofs.YtcipmfjefmjacaaGreatDoor
