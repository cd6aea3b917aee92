/- An argument of the type One, opened and shut. -/
import Derived.Test.YtjldeckcfdeklaaGreatDoorP21
import Derived.Test.YtjldeckcfdeklaaGreatDoorAW2
import Derived.SizedLaws
import Derived.Lib.SmallJoins
namespace Go.Proofs.YtjldeckcfdeklaaGreatDoor
open Go.ChangeShapes Go.WideShapes Go.ChangeAt Go.RowKit
set_option linter.unusedVariables false

theorem array3 {α : Type} {cs : Array α} (h : cs.size = 3) : ∃ c0 c1 c2, cs = #[c0, c1, c2] := by
  obtain ⟨l⟩ := cs
  match l, h with
  | [c0, c1, c2], _ => exact ⟨c0, c1, c2, rfl⟩
theorem list3 {α : Type} {cs : List α} (h : cs.length = 3) : ∃ c0 c1 c2, cs = [c0, c1, c2] := by
  match cs, h with
  | [c0, c1, c2], _ => exact ⟨c0, c1, c2, rfl⟩
theorem one_cells : Tryz.prog.cellsOf 52 = 3 := by kernel_rfl
theorem int_cells1 : Tryz.prog.cellsOf 3 = 1 := by kernel_rfl
theorem u64_cells1 : Tryz.prog.cellsOf 38 = 1 := by kernel_rfl
theorem str_cells1 : Tryz.prog.cellsOf 9 = 1 := by kernel_rfl

set_option maxRecDepth 100000 in
theorem open_one {H : Type} {enc : TypeId × Value → H} {w : World} {r : Reach} {b0 base : Nat} {spare : Nat → Bool} {held : Bool} {v : Value} {d : DataW H} {p : List MemPlace}
    (hv : Value.okWide Tryz.prog w r b0 52 v) (h : DataW.Trod enc Tryz.prog w base spare held 52 v d p) :
    ∃ (k x : Int) (s : ByteArray), v = .agg #[.int .i64 k, .int .u64 x, .string s] ∧ d = .agg [.lit (.int .i64 k), .lit (.int .u64 x), .lit (.string s.data.toList)] ∧ p = [] ∧ (Lit.int .u64 x).wf = true ∧ ∀ (w' : World) base' spare' held', DataW.Trod enc Tryz.prog w' base' spare' held' 52 v d [] := by
  obtain ⟨cs, rfl, hsz⟩ := okWide_struct Tryz.underlying52 hv
  obtain ⟨c0, c1, c2, rfl⟩ := array3 (hsz.trans one_cells)
  obtain ⟨fuel, hf⟩ := h
  obtain ⟨xs, n, _, hx, hl, hlen, hg⟩ := DataW.trod_struct Tryz.underlying52 hf
  obtain ⟨y0, y1, y2, rfl⟩ := list3 hlen
  have g0 := hg 0 _ rfl
  have g1 := hg 1 _ rfl
  have g2 := hg 2 _ rfl
  simp only [int_cells1, u64_cells1, str_cells1, Value.cells] at g0 g1 g2
  obtain ⟨x0, e0, q0, f0⟩ := DataW.trod_int Tryz.underlying3 (show DataW.trod enc Tryz.prog w base spare held n 3 [c0] = some y0 from g0)
  obtain ⟨x1, e1, q1, f1⟩ := DataW.trod_int Tryz.underlying38 (show DataW.trod enc Tryz.prog w base spare held n 38 [c1] = some y1 from g1)
  obtain ⟨x2, e2, q2, f2⟩ := DataW.trod_string Tryz.underlying9 (show DataW.trod enc Tryz.prog w base spare held n 9 [c2] = some y2 from g2)
  simp only [List.cons.injEq, and_true] at e0 e1 e2
  subst e0 e1 e2 q0 q1 q2
  simp only [List.map, List.flatMap_cons, List.flatMap_nil, List.append_nil, Prod.mk.injEq] at hx
  obtain ⟨rfl, rfl⟩ := hx
  refine ⟨x0, x1, x2, rfl, rfl, rfl, f1, fun w' base' spare' held' => ⟨2, ?_⟩⟩
  refine (trod_struct_mk (n := 1) (xs := [(.lit (.int .i64 x0), []), (.lit (.int .u64 x1), []), (.lit (.string x2.data.toList), [])]) Tryz.underlying52 (by rw [one_cells]; rfl) ?_)
  have t0 : DataW.trod enc Tryz.prog w' base' spare' held' 1 3 [.int .i64 x0] = some (.lit (.int .i64 x0), []) := trod_int_mk 0 Tryz.underlying3 f0
  have t1 : DataW.trod enc Tryz.prog w' base' spare' held' 1 38 [.int .u64 x1] = some (.lit (.int .u64 x1), []) := trod_int_mk 0 Tryz.underlying38 f1
  have t2 : DataW.trod enc Tryz.prog w' base' spare' held' 1 9 [.string x2] = some (.lit (.string x2.data.toList), []) := by simp [DataW.trod, Tryz.underlying9, f2]
  simp [int_cells1, u64_cells1, str_cells1, Value.cells, t0, t1, t2]
theorem sized_one {H : Type} {ts : List TypeId} {ds : List (DataW H)} (h : (DataW.weightsEach Tryz.prog ts ds).all (· ≤ reachBytes) = true) {j : Nat} {d0 d1 : DataW H} {bytes : List UInt8} (ht : ts[j]? = some 52) (hd : ds[j]? = some (.agg [d0, d1, .lit (.string bytes)])) : bytes.length ≤ reachBytes := by
  have := List.all_eq_true.1 h _ (DataW.weights_mem_each ht hd bytes.length (by simp [DataW.weights, Tryz.underlying52, DataW.weightsEach]))
  simpa using this
theorem orders6_any (k1 : Int) (x1 : Nat) (s1 : ByteArray) (k2 : Int) (x2 : Nat) (s2 : ByteArray) (k3 : Int) (x3 : Nat) (s3 : ByteArray) (w : World) (hT : Tabs5 w) (hx1 : x1 < 18446744073709551616) (z1 : s1.size ≤ 140737488351232) (hx2 : x2 < 18446744073709551616) (z2 : s2.size ≤ 140737488351232) (hx3 : x3 < 18446744073709551616) (z3 : s3.size ≤ 140737488351232) :
    Calls Tryz.prog 10 #[.agg #[.int .i64 k1, .int .u64 (x1 : Int), .string s1], .agg #[.int .i64 k2, .int .u64 (x2 : Int), .string s2], .agg #[.int .i64 k3, .int .u64 (x3 : Int), .string s3]] w fun e w' => e = .returned (.bool true) ∧ Below w.heap.size w w' :=
  orders_any k1 k2 k3 x1 x2 x3 s1 s2 s3 w hT.err hT.pow hx1 hx2 hx3 z1 z2 z3
end Go.Proofs.YtjldeckcfdeklaaGreatDoor
