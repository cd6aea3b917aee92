/- A list of the law's elements that came in, opened, with what the second form's bound says of it. -/
import Derived.Test.YtfdnhkjeoeffoaaGreatDoorM11
import Derived.Test.YtfdnhkjeoeffoaaGreatDoorM9
import Derived.ProofKit
import Derived.OpenShut
import Derived.ShutString
import Derived.ChangeOld
import Derived.SizedLaws
import Derived.Deep.Slices
import Derived.Test.YtfdnhkjeoeffoaaGreatDoorZ3D
set_option linter.unusedVariables false
set_option linter.unusedSimpArgs false
namespace Go.Proofs.YtfdnhkjeoeffoaaGreatDoor
open Go.ChangeShapes Go.WideShapes Go.ChangeAt Go.RowKit Go.Deep
set_option linter.unusedVariables false

theorem laidOut : laidOutB Tryz.prog = true := by kernel_rfl
theorem one_cells : Tryz.prog.cellsOf 118 = 3 := by kernel_rfl
theorem one_und : ∃ f0 f1 f2 : Field, Tryz.prog.underlying 118 = some (.struct #[f0, f1, f2]) ∧ (f0.offset = 0 ∧ f1.offset = 1 ∧ f2.offset = 2) ∧ (f0.type = 3 ∧ f1.type = 22 ∧ f2.type = 9) :=
  ⟨_, _, _, Tryz.underlying118, ⟨rfl, rfl, rfl⟩, ⟨rfl, rfl, rfl⟩⟩
theorem int_cells7 : Tryz.prog.cellsOf 3 = 1 := by kernel_rfl
theorem u64_cells7 : Tryz.prog.cellsOf 22 = 1 := by kernel_rfl
theorem str_cells7 : Tryz.prog.cellsOf 9 = 1 := by kernel_rfl
theorem list3 {α : Type} {cs : List α} (h : cs.length = 3) : ∃ c0 c1 c2, cs = [c0, c1, c2] := by
  match cs, h with
  | [c0, c1, c2], _ => exact ⟨c0, c1, c2, rfl⟩
theorem lt_of_cell7 {W : World} {p : Addr} {v : Value} (h : W.cell? p = some v) : p.block < W.heap.size := by
  rcases Nat.lt_or_ge p.block W.heap.size with h' | h'
  · exact h'
  · unfold World.cell? at h
    rw [Array.getElem?_eq_none h'] at h
    cases h
/-- one element -/
theorem open_one11 {H : Type} {enc : TypeId × Value → H} {W : World} {n : Nat} {cs : List Value} {y : DataW H × List MemPlace} (h : DataW.trod enc Tryz.prog W 0 (fun _ => true) true n 118 cs = some y) :
    ∃ e : CellT, cs = oneI e ∧ y.1 = .agg [.lit (.int .i64 e.1), .lit (.int .u64 (e.2.1 : Int)), .lit (.string e.2.2.data.toList)] ∧ e.2.1 < 18446744073709551616 := by
  obtain ⟨g0, g1, g2, hu, ⟨o0, o1, o2⟩, ⟨t0, t1, t2⟩⟩ := one_und
  obtain ⟨xs, m, _, hx, hl, hlen, hg⟩ := DataW.trod_struct hu h
  obtain ⟨c0, c1, c2, rfl⟩ := list3 (hl.trans one_cells)
  obtain ⟨y0, y1, y2, rfl⟩ := list3 hlen
  have h0 := hg 0 g0 rfl
  have h1 := hg 1 g1 rfl
  have h2 := hg 2 g2 rfl
  simp only [o0, o1, o2, t0, t1, t2, int_cells7, u64_cells7, str_cells7] at h0 h1 h2
  obtain ⟨x0, e0, q0, _⟩ := DataW.trod_int Tryz.underlying3 (show DataW.trod enc Tryz.prog W 0 (fun _ => true) true m 3 [c0] = some y0 from h0)
  obtain ⟨x1, e1, q1, f1⟩ := DataW.trod_int Tryz.underlying22 (show DataW.trod enc Tryz.prog W 0 (fun _ => true) true m 22 [c1] = some y1 from h1)
  obtain ⟨x2, e2, q2, _⟩ := DataW.trod_string Tryz.underlying9 (show DataW.trod enc Tryz.prog W 0 (fun _ => true) true m 9 [c2] = some y2 from h2)
  simp only [List.cons.injEq, and_true] at e0 e1 e2
  subst e0 e1 e2 q0 q1 q2
  have w2 := wf_u64 f1
  obtain ⟨b, hb⟩ : ∃ b : Nat, x1 = (b : Int) := ⟨x1.toNat, by omega⟩
  subst hb
  refine ⟨(x0, b, x2), rfl, ?_, by show b < _; omega⟩
  rw [hx]
  rfl
theorem bulk_ones {H : Type} (D : Nat → DataW H) (q : Nat → CellT) : ∀ l : List Nat, (∀ i ∈ l, D i = .agg [.lit (.int .i64 (q i).1), .lit (.int .u64 ((q i).2.1 : Int)), .lit (.string (q i).2.2.data.toList)]) → sizeC (l.map q) + l.length ≤ Rows.uptoBulkAll (l.map D) := by
  intro l
  induction l with
  | nil => intro _; exact Nat.zero_le _
  | cons i l ih =>
    intro h
    have h1 := ih (fun j hj => h j (List.mem_cons_of_mem _ hj))
    have h2 := h i List.mem_cons_self
    have h3 : (q i).2.2.size = (q i).2.2.data.toList.length := sz_list _
    show sizeC (q i :: l.map q) + _ ≤ Rows.uptoBulk (D i) + Rows.uptoBulkAll (l.map D)
    rw [h2]
    unfold sizeC at h1 ⊢
    simp only [Rows.uptoBulk, Rows.uptoBulkAll, List.map_cons, List.sum_cons, List.length_cons]
    omega
set_option maxRecDepth 100000 in
theorem open_onesR {H : Type} {enc : TypeId × Value → H} {W : World} {a0 : Option Addr} {len cap fuel : Nat} {x : DataW H × List MemPlace}
    (hf : DataW.trod enc Tryz.prog W 0 (fun _ => true) true fuel 52 [.slice a0 len cap] = some x) :
    ∃ L : List CellT, OnesR W a0 len L ∧ len ≤ cap ∧ (∀ e ∈ L, e.2.1 < 18446744073709551616) ∧ sizeC L + len ≤ Rows.uptoBulk x.1 := by
  rcases open_slice Tryz.underlying52 hf with ⟨hcs, hx⟩ | ⟨a, len', cap', m, n, D, Pl, hcs, _, hl, hm, hmm, hx, hel⟩
  · simp at hcs
    obtain ⟨rfl, rfl, rfl⟩ := hcs
    exact ⟨[], ⟨rfl, fun h => absurd h (by simp)⟩, Nat.le_refl _, (fun e he => by cases he), Nat.zero_le _⟩
  · simp at hcs
    obtain ⟨rfl, rfl, rfl⟩ := hcs
    simp only [if_true] at hmm
    obtain ⟨b, off, spot⟩ := a
    have each : ∀ i, i < len → ∃ e : CellT, (∀ (k : Nat) u, (oneI e)[k]? = some u → W.cell? ((⟨b, off, spot⟩ : Addr).add (i * 3 + k)) = some u) ∧ e.2.1 < 18446744073709551616 ∧ D i = .agg [.lit (.int .i64 e.1), .lit (.int .u64 (e.2.1 : Int)), .lit (.string e.2.2.data.toList)] := by
      intro i hi
      obtain ⟨cs', h1, h2⟩ := hel i (by omega)
      rw [one_cells] at h1
      obtain ⟨_, hlen, hcell⟩ := World.cells?_some h1
      obtain ⟨e, rfl, hd, hbits⟩ := open_one11 h2
      refine ⟨e, fun k u hu => ?_, hbits, hd⟩
      have hk : k < 3 := (List.getElem?_eq_some_iff.1 hu).1
      have := hcell k hk
      rw [add_add] at this
      rw [this]; exact hu
    obtain ⟨q, hq⟩ := choose_lt each
    refine ⟨(List.range len).map q, ⟨by simp, fun h0 => ?_⟩, hl, ?_, ?_⟩
    · have hspot : spot = none := by
        have := World.cell?_spot ((hq 0 (by omega)).1 0 _ rfl)
        simpa [Addr.add] using this
      subst hspot
      refine ⟨b, off, rfl, ?_, fun j e hj i u hu => ?_⟩
      · have := lt_of_cell7 ((hq 0 (by omega)).1 0 _ rfl)
        simpa [Addr.add] using this
      · have hj2 : j < len := by
          have := (List.getElem?_eq_some_iff.1 hj).1
          simpa using this
        have he : e = q j := by simpa [hj2] using hj.symm
        subst he
        have := (hq j hj2).1 i u hu
        rw [Addr.add_lit, ← Nat.add_assoc] at this
        exact this
    · intro e he
      obtain ⟨i, hi, rfl⟩ := List.mem_map.1 he
      exact (hq i (List.mem_range.1 hi)).2.1
    · have h1 := bulk_ones D q (List.range len) (fun i hi => (hq i (List.mem_range.1 hi)).2.2)
      rw [List.length_range] at h1
      rw [hx]
      show _ ≤ Rows.uptoBulkAll ((List.range len).map D) + _ + 1
      omega
theorem bulk_joins {H : Type} {bs cs : List UInt8} {d : DataW H} (h : Rows.uptoSmall H [.lit (.string bs), .lit (.string cs), d] = true) : bs.length ≤ 1048576 ∧ cs.length ≤ 1048576 ∧ Rows.uptoBulk d ≤ 1048576 := by
  have h := of_decide_eq_true h
  simp only [Rows.uptoBulkAll, Rows.uptoBulk] at h
  omega
end Go.Proofs.YtfdnhkjeoeffoaaGreatDoor
