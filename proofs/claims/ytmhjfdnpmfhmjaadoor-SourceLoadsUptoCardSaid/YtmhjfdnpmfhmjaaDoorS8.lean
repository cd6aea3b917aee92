/- Package source: Load. -/
import Derived.Test.YtmhjfdnpmfhmjaaDoorS7
import Derived.Defers
import Derived.Recover
namespace Go.Proofs.YtmhjfdnpmfhmjaaDoor
open Go.RowKit
set_option linter.unusedVariables false

set_option maxHeartbeats 4000000 in
set_option maxRecDepth 1000000 in
/-- the deferred closure where the loader returned -/
theorem catch_idle (p q r : Addr) (w : World) :
    CallsD Tryd.prog 17 #[.pointer (some p), .pointer (some q), .pointer (some r)] .returning w fun e u' w' => e = .returned (.tuple #[]) ∧ u' = .returning ∧ w' = w := by
  refine callsD_of_wpS Tryd.func17 rfl fun c₀ cs hu => ?_
  apply wpS_seq
  apply wpS_region
  simp [wpOpsS, go_sem, recoverD, hu, Tryd.ntmps17, Exit.thenS]
  refine wpS_of_wp ?_
  go_wp2_with fail
  cases c₀
  simp_all [bodyPostS, results, Tryd.results17]

/-- the three results that the closure lays -/
structure Laid3 (w : World) (p q r : Nat) (a0 a1 b0 b1 c0 : Value) : Prop where
  p : w.heap[p]? = some (.cells #[a0, a1] 27 (0, 0))
  q : w.heap[q]? = some (.cells #[b0, b1] 29 (0, 0))
  r : w.heap[r]? = some (.cells #[c0] 30 (0, 0))

theorem Laid3.set {w : World} {p q r : Nat} {a0 a1 b0 b1 c0 : Value} (h : Laid3 w p q r a0 a1 b0 b1 c0) (hpq : p ≠ q) (hpr : p ≠ r) (hqr : q ≠ r) (x0 x1 y0 y1 z0 : Value) :
    Laid3 (((((w.setCell ⟨p, 0, none⟩ x0).setCell ⟨p, 1, none⟩ x1).setCell ⟨q, 0, none⟩ y0).setCell ⟨q, 1, none⟩ y1).setCell ⟨r, 0, none⟩ z0).drew p q r x0 x1 y0 y1 z0 := by
  have o : ∀ (W : World) (k b i : Nat) (v : Value), k ≠ b → (W.setCell ⟨b, i, none⟩ v).heap[k]? = W.heap[k]? := fun W k b i v hk => Below.heap_setCell _ _ _ _ hk
  generalize hW1 : w.setCell ⟨p, 0, none⟩ x0 = W1
  generalize hW2 : W1.setCell ⟨p, 1, none⟩ x1 = W2
  generalize hW3 : W2.setCell ⟨q, 0, none⟩ y0 = W3
  generalize hW4 : W3.setCell ⟨q, 1, none⟩ y1 = W4
  generalize hW5 : W4.setCell ⟨r, 0, none⟩ z0 = W5
  have p1 : W1.heap[p]? = some (.cells #[x0, a1] 27 (0, 0)) := hW1 ▸ setCell_heap_same h.p 0 x0
  have p2 : W2.heap[p]? = some (.cells #[x0, x1] 27 (0, 0)) := hW2 ▸ setCell_heap_same p1 1 x1
  have p3 : W3.heap[p]? = some (.cells #[x0, x1] 27 (0, 0)) := hW3 ▸ (o W2 p q 0 y0 hpq).trans p2
  have p4 : W4.heap[p]? = some (.cells #[x0, x1] 27 (0, 0)) := hW4 ▸ (o W3 p q 1 y1 hpq).trans p3
  have p5 : W5.heap[p]? = some (.cells #[x0, x1] 27 (0, 0)) := hW5 ▸ (o W4 p r 0 z0 hpr).trans p4
  have q1 : W1.heap[q]? = some (.cells #[b0, b1] 29 (0, 0)) := hW1 ▸ (o w q p 0 x0 hpq.symm).trans h.q
  have q2 : W2.heap[q]? = some (.cells #[b0, b1] 29 (0, 0)) := hW2 ▸ (o W1 q p 1 x1 hpq.symm).trans q1
  have q3 : W3.heap[q]? = some (.cells #[y0, b1] 29 (0, 0)) := hW3 ▸ setCell_heap_same q2 0 y0
  have q4 : W4.heap[q]? = some (.cells #[y0, y1] 29 (0, 0)) := hW4 ▸ setCell_heap_same q3 1 y1
  have q5 : W5.heap[q]? = some (.cells #[y0, y1] 29 (0, 0)) := hW5 ▸ (o W4 q r 0 z0 hqr).trans q4
  have r1 : W1.heap[r]? = some (.cells #[c0] 30 (0, 0)) := hW1 ▸ (o w r p 0 x0 hpr.symm).trans h.r
  have r2 : W2.heap[r]? = some (.cells #[c0] 30 (0, 0)) := hW2 ▸ (o W1 r p 1 x1 hpr.symm).trans r1
  have r3 : W3.heap[r]? = some (.cells #[c0] 30 (0, 0)) := hW3 ▸ (o W2 r q 0 y0 hqr.symm).trans r2
  have r4 : W4.heap[r]? = some (.cells #[c0] 30 (0, 0)) := hW4 ▸ (o W3 r q 1 y1 hqr.symm).trans r3
  have r5 : W5.heap[r]? = some (.cells #[z0] 30 (0, 0)) := hW5 ▸ setCell_heap_same r4 0 z0
  exact ⟨p5, q5, r5⟩

set_option maxHeartbeats 8000000 in
set_option maxRecDepth 1000000 in
/-- the deferred closure where the loader panicked -/
theorem catch_fault (D p q r : Nat) (file : Str) (n c : Nat) (a0 a1 b0 b1 c0 : Value) (w : World) (hL : Laid3 w p q r a0 a1 b0 b1 c0) (hpq : p ≠ q) (hpr : p ≠ r) (hqr : q ≠ r) (hp : D ≤ p) (hq : D ≤ q) (hr : D ≤ r) :
    CallsD Tryd.prog 17 #[.pointer (some ⟨p, 0, none⟩), .pointer (some ⟨q, 0, none⟩), .pointer (some ⟨r, 0, none⟩)] (.panicking [{ v := faultV file n c, recovered := false }]) w fun e u' w' => e = .returned (.tuple #[]) ∧ u' = .panicking [{ v := faultV file n c, recovered := true }] ∧
      Laid3 w' p q r (.string ⟨#[]⟩) (.slice none 0 0) (.string (B file)) (.int .i64 (n : Int)) (.int .i64 (c : Int)) ∧ Below D w w' := by
  have hta : ∀ (x : Array Value) (w : World), (Instr.typeAssert (.iface 46 (.agg x)) 20 46 true).run Tryd.prog w = .ok (.tuple #[.agg x, .bool true]) w := fun _ _ => rfl
  have hpl := lt_of_heap hL.p
  have hql := lt_of_heap hL.q
  have hrl := lt_of_heap hL.r
  have HD := Lib.hid (show D ≤ p ∧ D ≤ q ∧ D ≤ r from ⟨hp, hq, hr⟩)
  obtain ⟨w1, hw1⟩ : ∃ w1, w1 = w.alloc (.cells #[.string (B file), .int .i64 (n : Int), .int .i64 (c : Int)] 46) := ⟨_, rfl⟩
  have HB1 : Hid (Below D w w1) := hw1 ▸ ((Below.refl D w).alloc (by omega) _)
  have hF : w1.heap[w.heap.size]? = some (.cells #[.string (B file), .int .i64 (n : Int), .int .i64 (c : Int)] 46 (0, 0)) := hw1 ▸ heap_alloc_at w _
  have HL1 : Hid (Laid3 w1 p q r a0 a1 b0 b1 c0) := ⟨by rw [hw1, heap_alloc_lt _ _ _ hpl]; exact hL.p, by rw [hw1, heap_alloc_lt _ _ _ hql]; exact hL.q, by rw [hw1, heap_alloc_lt _ _ _ hrl]; exact hL.r⟩
  have hFp : w.heap.size ≠ p := by omega
  have hFq : w.heap.size ≠ q := by omega
  have hFr : w.heap.size ≠ r := by omega
  have x0 : w1.cell? ⟨w.heap.size, 0, none⟩ = some (.string (B file)) := by rw [Lib.cell_of_heap hF]; rfl
  have x1 : w1.cell? ⟨w.heap.size, 1, none⟩ = some (.int .i64 (n : Int)) := by rw [Lib.cell_of_heap hF]; rfl
  have x2 : w1.cell? ⟨w.heap.size, 2, none⟩ = some (.int .i64 (c : Int)) := by rw [Lib.cell_of_heap hF]; rfl
  have p0 : w1.cell? ⟨p, 0, none⟩ = some a0 := by rw [Lib.cell_of_heap HL1.out.p]; rfl
  have p1 : w1.cell? ⟨p, 1, none⟩ = some a1 := by rw [Lib.cell_of_heap HL1.out.p]; rfl
  have q0 : w1.cell? ⟨q, 0, none⟩ = some b0 := by rw [Lib.cell_of_heap HL1.out.q]; rfl
  have q1 : w1.cell? ⟨q, 1, none⟩ = some b1 := by rw [Lib.cell_of_heap HL1.out.q]; rfl
  have r0 : w1.cell? ⟨r, 0, none⟩ = some c0 := by rw [Lib.cell_of_heap HL1.out.r]; rfl
  have pf : ∀ j, w1.frozen? ⟨p, j, none⟩ = false := Lib.frozen_of_heap HL1.out.p
  have qf : ∀ j, w1.frozen? ⟨q, j, none⟩ = false := Lib.frozen_of_heap HL1.out.q
  have rf : ∀ j, w1.frozen? ⟨r, j, none⟩ = false := Lib.frozen_of_heap HL1.out.r
  have HE : Hid (Laid3 (((((w1.setCell ⟨p, 0, none⟩ (.string ⟨#[]⟩)).setCell ⟨p, 1, none⟩ (.slice none 0 0)).setCell ⟨q, 0, none⟩ (.string (B file))).setCell ⟨q, 1, none⟩ (.int .i64 (n : Int))).setCell ⟨r, 0, none⟩ (.int .i64 (c : Int))).drew p q r (.string ⟨#[]⟩) (.slice none 0 0) (.string (B file)) (.int .i64 (n : Int)) (.int .i64 (c : Int)) ∧
      Below D w (((((w1.setCell ⟨p, 0, none⟩ (.string ⟨#[]⟩)).setCell ⟨p, 1, none⟩ (.slice none 0 0)).setCell ⟨q, 0, none⟩ (.string (B file))).setCell ⟨q, 1, none⟩ (.int .i64 (n : Int))).setCell ⟨r, 0, none⟩ (.int .i64 (c : Int))).drew) :=
    ⟨HL1.out.set hpq hpr hqr _ _ _ _ _, (((((HB1.out.setCell (p := ⟨p, 0, none⟩) hp _).setCell (p := ⟨p, 1, none⟩) hp _).setCell (p := ⟨q, 0, none⟩) hq _).setCell (p := ⟨q, 1, none⟩) hq _).setCell (p := ⟨r, 0, none⟩) hr _).drew⟩
  generalize hFF : w.heap.size = F at *
  clear hL hF hp hq hr hpl hql hrl
  have hqp := hpq.symm
  have hrp := hpr.symm
  have hrq := hqr.symm
  have hpF := hFp.symm
  have hqF := hFq.symm
  have hrF := hFr.symm
  refine callsD_of_wpS Tryd.func17 rfl fun cc cs hu => ?_
  apply wpS_seq
  apply wpS_region
  unfold faultV at *
  simp [wpOpsS, go_sem, recoverD, hu, Tryd.ntmps17, Exit.thenS]
  refine (show Code.wpS _ _ _ { tmps := #[.pointer (some ⟨p, 0, none⟩), .pointer (some ⟨q, 0, none⟩), .pointer (some ⟨r, 0, none⟩), undef, undef, undef, .iface 46 (.agg #[.string (B file), .int .i64 (n : Int), .int .i64 (c : Int)]), undef, undef, undef, undef, undef, undef, undef, undef, undef, undef], defers := [] } _ _ from ?_)
  refine wpS_of_wp ?_
  go_wp2_with fail
  rw [← hw1]
  clear hw1
  go_region
  all_goals simp only [Exit.inBlock]
  all_goals show bodyPostS Tryd.prog Tryd.f17 cc cs _ Exit.normal _ _ _
  all_goals (cases cc; simp_all [bodyPostS, results, Tryd.results17])
  all_goals exact HE.out
end Go.Proofs.YtmhjfdnpmfhmjaaDoor
