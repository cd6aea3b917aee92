/- A list of the law's elements that came in, opened. -/
import Derived.Test.YtflbhifdololfaaGreatDoorH14
import Derived.Test.YtflbhifdololfaaGreatDoorAW0
import Derived.ProofKit
import Derived.OpenShut
import Derived.ShutString
import Derived.ChangeOld
import Derived.SizedLaws
import Derived.Deep.Slices
namespace Go.Proofs.YtflbhifdololfaaGreatDoor
open Go.ChangeShapes Go.WideShapes Go.ChangeAt Go.RowKit Go.Deep
set_option linter.unusedVariables false

theorem laidOut : laidOutB Tryz.prog = true := by kernel_rfl
theorem item_cells : Tryz.prog.cellsOf 111 = 5 := by kernel_rfl
theorem item_und : ∃ f0 f1 f2 f3 f4 : Field, Tryz.prog.underlying 111 = some (.struct #[f0, f1, f2, f3, f4]) ∧ (f0.offset = 0 ∧ f1.offset = 1 ∧ f2.offset = 2 ∧ f3.offset = 3 ∧ f4.offset = 4) ∧ (f0.type = 9 ∧ f1.type = 3 ∧ f2.type = 24 ∧ f3.type = 9 ∧ f4.type = 4) :=
  ⟨_, _, _, _, _, Tryz.underlying111, ⟨rfl, rfl, rfl, rfl, rfl⟩, ⟨rfl, rfl, rfl, rfl, rfl⟩⟩
theorem int_cells7 : Tryz.prog.cellsOf 3 = 1 := by kernel_rfl
theorem u64_cells7 : Tryz.prog.cellsOf 24 = 1 := by kernel_rfl
theorem str_cells7 : Tryz.prog.cellsOf 9 = 1 := by kernel_rfl
theorem bool_cells7 : Tryz.prog.cellsOf 4 = 1 := by kernel_rfl
theorem list5 {α : Type} {cs : List α} (h : cs.length = 5) : ∃ c0 c1 c2 c3 c4, cs = [c0, c1, c2, c3, c4] := by
  match cs, h with
  | [c0, c1, c2, c3, c4], _ => exact ⟨c0, c1, c2, c3, c4, rfl⟩
theorem lt_of_cell7 {W : World} {p : Addr} {v : Value} (h : W.cell? p = some v) : p.block < W.heap.size := by
  rcases Nat.lt_or_ge p.block W.heap.size with h' | h'
  · exact h'
  · unfold World.cell? at h
    rw [Array.getElem?_eq_none h'] at h
    cases h
theorem weights_all {H : Type} {P : Program} {e : TypeId} : ∀ {l : List (DataW H)} {d : DataW H}, d ∈ l → ∀ n ∈ DataW.weights P e d, n ∈ DataW.weightsAll P e l
  | d' :: l, d, hd, n, hn => by
    show n ∈ DataW.weights P e d' ++ DataW.weightsAll P e l
    rcases List.mem_cons.1 hd with rfl | hd
    · exact List.mem_append_left _ hn
    · exact List.mem_append_right _ (weights_all hd n hn)
/-- one element -/
theorem open_item {H : Type} {enc : TypeId × Value → H} {W : World} {n : Nat} {cs : List Value} {y : DataW H × List MemPlace} (h : DataW.trod enc Tryz.prog W 0 (fun _ => true) true n 111 cs = some y) :
    ∃ e : En, cs = e.item ∧ y.1 = .agg [.lit (.string e.key.data.toList), .lit (.int .i64 e.kind), .lit (.int .u64 (e.bits : Int)), .lit (.string e.str.data.toList), .lit (.bool e.sub)] ∧ e.bits < 18446744073709551616 := by
  obtain ⟨g0, g1, g2, g3, g4, hu, ⟨o0, o1, o2, o3, o4⟩, ⟨t0, t1, t2, t3, t4⟩⟩ := item_und
  obtain ⟨xs, m, _, hx, hl, hlen, hg⟩ := DataW.trod_struct hu h
  obtain ⟨c0, c1, c2, c3, c4, rfl⟩ := list5 (hl.trans item_cells)
  obtain ⟨y0, y1, y2, y3, y4, rfl⟩ := list5 hlen
  have h0 := hg 0 g0 rfl
  have h1 := hg 1 g1 rfl
  have h2 := hg 2 g2 rfl
  have h3 := hg 3 g3 rfl
  have h4 := hg 4 g4 rfl
  simp only [o0, o1, o2, o3, o4, t0, t1, t2, t3, t4, int_cells7, u64_cells7, str_cells7, bool_cells7] at h0 h1 h2 h3 h4
  obtain ⟨x0, e0, q0, _⟩ := DataW.trod_string Tryz.underlying9 (show DataW.trod enc Tryz.prog W 0 (fun _ => true) true m 9 [c0] = some y0 from h0)
  obtain ⟨x1, e1, q1, _⟩ := DataW.trod_int Tryz.underlying3 (show DataW.trod enc Tryz.prog W 0 (fun _ => true) true m 3 [c1] = some y1 from h1)
  obtain ⟨x2, e2, q2, f2⟩ := DataW.trod_int Tryz.underlying24 (show DataW.trod enc Tryz.prog W 0 (fun _ => true) true m 24 [c2] = some y2 from h2)
  obtain ⟨x3, e3, q3, _⟩ := DataW.trod_string Tryz.underlying9 (show DataW.trod enc Tryz.prog W 0 (fun _ => true) true m 9 [c3] = some y3 from h3)
  obtain ⟨x4, e4, q4⟩ := DataW.trod_bool Tryz.underlying4 (show DataW.trod enc Tryz.prog W 0 (fun _ => true) true m 4 [c4] = some y4 from h4)
  simp only [List.cons.injEq, and_true] at e0 e1 e2 e3 e4
  subst e0 e1 e2 e3 e4 q0 q1 q2 q3 q4
  have w2 := wf_u64 f2
  obtain ⟨b, hb⟩ : ∃ b : Nat, x2 = (b : Int) := ⟨x2.toNat, by omega⟩
  subst hb
  refine ⟨⟨x0, x1, b, x3, x4⟩, rfl, ?_, by show b < _; omega⟩
  rw [hx]
  rfl
instance : Inhabited En := ⟨⟨⟨#[]⟩, 0, 0, ⟨#[]⟩, false⟩⟩
set_option maxRecDepth 100000 in
theorem open_items {H : Type} {enc : TypeId × Value → H} {W : World} {a0 : Option Addr} {len cap fuel : Nat} {x : DataW H × List MemPlace}
    (hf : DataW.trod enc Tryz.prog W 0 (fun _ => true) true fuel 53 [.slice a0 len cap] = some x) (hw : ∀ n ∈ DataW.weights Tryz.prog 53 x.1, n ≤ reachBytes) :
    ∃ L : List En, ItemsR W a0 len L ∧ len ≤ maxLen ∧ ∀ e ∈ L, e.Ok := by
  rcases open_slice Tryz.underlying53 hf with ⟨hcs, hx⟩ | ⟨a, len', cap', m, n, D, Pl, hcs, _, hl, hm, hmm, hx, hel⟩
  · simp at hcs
    obtain ⟨rfl, rfl, rfl⟩ := hcs
    exact ⟨[], ⟨rfl, fun h => absurd h (by simp)⟩, Nat.zero_le _, fun e he => by cases he⟩
  · simp at hcs
    obtain ⟨rfl, rfl, rfl⟩ := hcs
    simp only [if_true] at hmm
    obtain ⟨b, off, spot⟩ := a
    have each : ∀ i, i < len → ∃ e : En, (∀ (k : Nat) u, e.item[k]? = some u → W.cell? ((⟨b, off, spot⟩ : Addr).add (i * 5 + k)) = some u) ∧ e.Ok := by
      intro i hi
      obtain ⟨cs', h1, h2⟩ := hel i (by omega)
      rw [item_cells] at h1
      obtain ⟨_, hlen, hcell⟩ := World.cells?_some h1
      obtain ⟨e, rfl, hd, hbits⟩ := open_item h2
      refine ⟨e, fun k u hu => ?_, ?_⟩
      · have hk : k < 5 := (List.getElem?_eq_some_iff.1 hu).1
        have := hcell k hk
        rw [add_add] at this
        rw [this]; exact hu
      · have hmem : D i ∈ (List.range len).map D := List.mem_map.2 ⟨i, List.mem_range.2 hi, rfl⟩
        obtain ⟨g0, g1, g2, g3, g4, hu, _, ⟨t0, t1, t2, t3, t4⟩⟩ := item_und
        have hwi : ∀ nn ∈ DataW.weights Tryz.prog 111 (D i), nn ≤ reachBytes := by
          intro nn hnn
          refine hw nn ?_
          rw [hx]
          simp only [DataW.weights, Tryz.underlying53]
          exact List.mem_cons_of_mem _ (List.mem_append_left _ (weights_all hmem nn hnn))
        rw [show D i = _ from hd] at hwi
        have hsz : ∀ s : ByteArray, s.size = s.data.toList.length := fun s => by cases s; simp [ByteArray.size]
        have hkey : e.key.data.toList.length ≤ reachBytes := hwi _ (by simp [DataW.weights, Tryz.underlying111, DataW.weightsEach])
        have hstr : e.str.data.toList.length ≤ reachBytes := hwi _ (by simp [DataW.weights, Tryz.underlying111, DataW.weightsEach])
        have hr := reachBytes_lt
        exact ⟨by rw [hsz]; omega, by rw [hsz]; omega, hbits⟩
    obtain ⟨q, hq⟩ := choose_lt each
    refine ⟨(List.range len).map q, ⟨by simp, fun h0 => ?_⟩, by omega, ?_⟩
    · have hspot : spot = none := by
        have := World.cell?_spot ((hq 0 (by omega)).1 0 _ rfl)
        simpa [Addr.add] using this
      subst hspot
      refine ⟨b, off, rfl, ?_, fun j e hj i u hu => ?_⟩
      · have := lt_of_cell7 ((hq 0 (by omega)).1 0 _ rfl)
        simpa [Addr.add] using this
      · have hj2 : j < len := by
          have := (List.getElem?_eq_some_iff.1 hj).1
          simpa using this
        have he : e = q j := by simpa [hj2] using hj.symm
        subst he
        have := (hq j hj2).1 i u hu
        rw [Addr.add_lit, ← Nat.add_assoc] at this
        exact this
    · intro e he
      obtain ⟨i, hi, rfl⟩ := List.mem_map.1 he
      exact (hq i (List.mem_range.1 hi)).2
theorem skeys_w (L : List En) {a : Option Addr} {n c : Nat} (W : World) (hL : ItemsR W a n L) (hn : n ≤ maxLen) (hOk : ∀ e ∈ L, e.Ok) : Calls Tryz.prog 9 #[.slice a n c] W fun e w' => e = .returned (.bool true) ∧ Below W.heap.size W w' :=
  skeys_any hL hn hOk
end Go.Proofs.YtflbhifdololfaaGreatDoor
