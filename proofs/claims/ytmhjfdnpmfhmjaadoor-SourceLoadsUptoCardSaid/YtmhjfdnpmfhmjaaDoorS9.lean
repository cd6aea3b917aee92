/- Package source: Load. -/
import Derived.Test.YtmhjfdnpmfhmjaaDoorS8
import Derived.BigRegion
import Derived.StillTailTactics
import Derived.Deep.RegionHeld3
namespace Go.Proofs.YtmhjfdnpmfhmjaaDoor
open Go.RowKit
set_option linter.unusedVariables false

theorem apart_freeze (w : World) (g n : Nat) : Apart [g] w (w.freeze ⟨g, 0, none⟩ n) := by
  unfold World.freeze
  split
  · exact Apart.refl _ _
  · refine ⟨rfl, rfl, rfl, by simp, fun k hk hn => ?_⟩
    have : g ≠ k := fun e => hn (by simp [e])
    simp [Array.getElem?_modify, this]
/-- what Load answers -/
def LoadR (w : World) (r : R) (e : Ending) (w' : World) : Prop := match r with
  | .ok s => ∃ lv, e = .returned (.tuple #[.agg #[.string (B s.out), lv], .agg #[.string ⟨#[]⟩, .int .i64 0], .int .i64 0]) ∧ w'.ownsRow w.heap.size 29 2 lv s.lines.length (cellsP s.lines) ∧ Below w.heap.size w w'
  | .bad f m c => e = .returned (.tuple #[.agg #[.string ⟨#[]⟩, .slice none 0 0], .agg #[.string (B f), .int .i64 (m : Int)], .int .i64 (c : Int)]) ∧ Below w.heap.size w w'

section
variable {w w' : World} {p q r : Nat} {a0 a1 b0 b1 c0 : Value}
theorem Laid3.p0 (h : Laid3 w p q r a0 a1 b0 b1 c0) : w.cell? ⟨p, 0, none⟩ = some a0 := by rw [Lib.cell_of_heap h.p]; rfl
theorem Laid3.p1 (h : Laid3 w p q r a0 a1 b0 b1 c0) : w.cell? ⟨p, 1, none⟩ = some a1 := by rw [Lib.cell_of_heap h.p]; rfl
theorem Laid3.q0 (h : Laid3 w p q r a0 a1 b0 b1 c0) : w.cell? ⟨q, 0, none⟩ = some b0 := by rw [Lib.cell_of_heap h.q]; rfl
theorem Laid3.q1 (h : Laid3 w p q r a0 a1 b0 b1 c0) : w.cell? ⟨q, 1, none⟩ = some b1 := by rw [Lib.cell_of_heap h.q]; rfl
theorem Laid3.r0 (h : Laid3 w p q r a0 a1 b0 b1 c0) : w.cell? ⟨r, 0, none⟩ = some c0 := by rw [Lib.cell_of_heap h.r]; rfl
theorem Laid3.pf (h : Laid3 w p q r a0 a1 b0 b1 c0) : ∀ j, w.frozen? ⟨p, j, none⟩ = false := Lib.frozen_of_heap h.p
theorem Laid3.qf (h : Laid3 w p q r a0 a1 b0 b1 c0) : ∀ j, w.frozen? ⟨q, j, none⟩ = false := Lib.frozen_of_heap h.q
theorem Laid3.rf (h : Laid3 w p q r a0 a1 b0 b1 c0) : ∀ j, w.frozen? ⟨r, j, none⟩ = false := Lib.frozen_of_heap h.r
theorem laid_keep {bv : Value} (h : Laid3 w p q r a0 a1 b0 b1 c0) (ha : Apart bv.ownBlock.toList w.drew w') (hg : ∀ g, bv.ownBlock = some g → g ≠ p ∧ g ≠ q ∧ g ≠ r) : Laid3 w' p q r a0 a1 b0 b1 c0 := by
  have k : ∀ x, x < w.heap.size → (∀ g, bv.ownBlock = some g → g ≠ x) → w'.heap[x]? = w.heap[x]? := fun x hx hn => ha.block x hx (fun hm => hn x (by simpa using hm) rfl)
  exact ⟨(k p (lt_of_heap h.p) fun g e => (hg g e).1).trans h.p, (k q (lt_of_heap h.q) fun g e => (hg g e).2.1).trans h.q, (k r (lt_of_heap h.r) fun g e => (hg g e).2.2).trans h.r⟩
theorem keep3 {D b : Nat} {fv ap bv lv ov dv : Value} {s : LS} (h : St w D b fv ap bv lv ov dv s) (ha : Apart bv.ownBlock.toList w.drew w') : w'.cell? ⟨b, 3, none⟩ = some lv ∧ w'.ownsRow D 29 2 lv s.lines.length (cellsP s.lines) := by
  have e : w'.heap[b]? = w.heap[b]? := ha.block b h.lt (fun hm => h.bne (by simpa using hm))
  refine ⟨by simp only [World.cell?, e]; exact h.cell 3, own_keep h.lin fun g hg => ha.block g (h.lin.lt g hg).2 (fun hm => rows_ne h.buf h.lin (by decide) g (by simpa using hm) hg)⟩
end

theorem own_base {w : World} {D D' : Nat} {e : TypeId} {v : Value} {n k : Nat} {xs : List Value} (h : w.ownsRow D e k v n xs) (hD : D' ≤ D) : w.ownsRow D' e k v n xs := by
  refine ⟨h.1, ?_⟩
  rcases h.2 with hn | ⟨g, cap, cur, rfl, hb, rest⟩
  · exact .inl hn
  · exact .inr ⟨g, cap, cur, rfl, Nat.le_trans hD hb, rest⟩
theorem below_laid {w w5 w6 : World} (h : Below w.heap.size w w5) (h6 : Below w.heap.size w5.drew w6) (x0 x1 y0 y1 z0 : Value) :
    Below w.heap.size w (((((w6.setCell ⟨w.heap.size, 0, none⟩ x0).setCell ⟨w.heap.size, 1, none⟩ x1).setCell ⟨w.heap.size + 1, 0, none⟩ y0).setCell ⟨w.heap.size + 1, 1, none⟩ y1).setCell ⟨w.heap.size + 1 + 1, 0, none⟩ z0) :=
  (((((h.drew.trans h6).setCell (p := ⟨w.heap.size, 0, none⟩) (Nat.le_refl _) _).setCell (p := ⟨w.heap.size, 1, none⟩) (Nat.le_refl _) _).setCell (p := ⟨w.heap.size + 1, 0, none⟩) (by show _ ≤ w.heap.size + 1; omega) _).setCell (p := ⟨w.heap.size + 1, 1, none⟩) (by show _ ≤ w.heap.size + 1; omega) _).setCell (p := ⟨w.heap.size + 1 + 1, 0, none⟩) (by show _ ≤ w.heap.size + 1 + 1; omega) _
theorem row_laid {w6 : World} {D p : Nat} {e : TypeId} {v : Value} {n k : Nat} {xs : List Value} (h : w6.ownsRow D e k v n xs) (hg : ∀ g, v.ownBlock = some g → p + 1 + 1 < g) (x0 x1 y0 y1 z0 : Value) :
    (((((w6.setCell ⟨p, 0, none⟩ x0).setCell ⟨p, 1, none⟩ x1).setCell ⟨p + 1, 0, none⟩ y0).setCell ⟨p + 1, 1, none⟩ y1).setCell ⟨p + 1 + 1, 0, none⟩ z0).ownsRow D e k v n xs := by
  have o : ∀ (W : World) (b i : Nat) (u : Value), W.ownsRow D e k v n xs → b < p + 1 + 1 + 1 → (W.setCell ⟨b, i, none⟩ u).ownsRow D e k v n xs := fun W b i u hW hb =>
    own_keep hW fun g hgg => Below.heap_setCell _ _ _ _ (fun e => by have := hg g hgg; have h2 : g = b := e; omega)
  exact o _ _ _ _ (o _ _ _ _ (o _ _ _ _ (o _ _ _ _ (o _ _ _ _ h (by omega)) (by omega)) (by omega)) (by omega)) (by omega)

set_option maxHeartbeats 16000000 in
set_option maxRecDepth 1000000 in
theorem Load_any (Fs : List (Str × Str)) (text : ByteArray) (fv : Value) (w : World) (hfv : ∃ a n c, fv = .slice a n c) (hM : MaxOk w) (hs : text.size ≤ 1000000) (hNl : (Fs.map (·.1)).length ≤ 1000000)
    (hinc : (∀ l ∈ linesL text.data.toList, (dirL l).2.1 = true → (dirL l).2.2 = true → False) ∨ (FilesV w fv Fs ∧ ∀ x t, look Fs x = some t → t.length ≤ 1000000)) :
    Calls Tryd.prog 9 #[.string text, fv] w (LoadR w (loadF (look Fs) ((Fs.map (·.1)).length + 1) text.data.toList)) := by
  obtain ⟨fa, fn, fc, rfl⟩ := hfv
  obtain ⟨ws, hws⟩ : ∃ ws, ws = ((w.alloc (.cells #[.string ⟨#[]⟩, .slice none 0 0] 27)).alloc (.cells #[.string ⟨#[]⟩, .int .i64 0] 29)).alloc (.cells #[.int .i64 0] 30) := ⟨_, rfl⟩
  have hzs : ws.heap.size = w.heap.size + 1 + 1 + 1 := by rw [hws]; simp
  have hbs : Below w.heap.size w ws := hws ▸ ((((Below.refl _ _).alloc (Nat.le_refl _) _).alloc (by simp) _).alloc (by simp; omega) _)
  obtain ⟨w4, hw4⟩ : ∃ w4, w4 = ws.alloc (.cells #[.slice fa fn fc, .pointer none, .slice none 0 0, .slice none 0 0, .slice none 0 0, .slice none 0 0] 53) := ⟨_, rfl⟩
  have hb4 : Below ws.heap.size ws w4 := hw4 ▸ (Below.refl _ _).alloc (Nat.le_refl _) _
  have hheap : w4.heap[w.heap.size + 1 + 1 + 1]? = some (.cells #[.slice fa fn fc, .pointer none, .slice none 0 0, .slice none 0 0, .slice none 0 0, .slice none 0 0] 53 (0, 0)) := by
    rw [← hzs, hw4]; exact heap_alloc_at ws _
  have hnn : Value.ownBlock (.slice none 0 0) = none := rfl
  have HSt : Hid (St w4 ws.heap.size (w.heap.size + 1 + 1 + 1) (.slice fa fn fc) (.pointer none) (.slice none 0 0) (.slice none 0 0) (.slice none 0 0) (.slice none 0 0) ⟨[], [], [], []⟩) :=
    ⟨by omega, hheap, .inl rfl, World.ownsRow_nil _ _ _ _, World.ownsRow_nil _ _ _ _, World.ownsRow_nil _ _ _ _, World.ownsRow_nil _ _ _ _, fun g hg => (by rw [hnn] at hg; cases hg)⟩
  have HL0 : Hid (Laid3 w4 w.heap.size (w.heap.size + 1) (w.heap.size + 1 + 1) (.string ⟨#[]⟩) (.slice none 0 0) (.string ⟨#[]⟩) (.int .i64 0) (.int .i64 0)) := by
    refine ⟨?_, ?_, ?_⟩
    · rw [hw4, hws, heap_alloc_lt _ _ _ (by simp; omega), heap_alloc_lt _ _ _ (by simp; omega), heap_alloc_lt _ _ _ (by simp)]
      exact heap_alloc_at w _
    · rw [hw4, hws, heap_alloc_lt _ _ _ (by simp), heap_alloc_lt _ _ _ (by simp)]
      have h := heap_alloc_at (w.alloc (.cells #[.string ⟨#[]⟩, .slice none 0 0] 27)) (.cells #[.string ⟨#[]⟩, .int .i64 0] 29)
      rw [show (w.alloc (Obj.cells #[Value.string ⟨#[]⟩, Value.slice none 0 0] 27)).heap.size = w.heap.size + 1 from by simp] at h
      exact h
    · rw [hw4, hws, heap_alloc_lt _ _ _ (by simp)]
      have h := heap_alloc_at ((w.alloc (.cells #[.string ⟨#[]⟩, .slice none 0 0] 27)).alloc (.cells #[.string ⟨#[]⟩, .int .i64 0] 29)) (.cells #[.int .i64 0] 30)
      rw [show ((w.alloc (Obj.cells #[Value.string ⟨#[]⟩, Value.slice none 0 0] 27)).alloc (Obj.cells #[Value.string ⟨#[]⟩, Value.int .i64 0] 29)).heap.size = w.heap.size + 1 + 1 from by simp] at h
      exact h
  obtain ⟨N, hN⟩ : ∃ N, N = Fs.map (·.1) := ⟨_, rfl⟩
  rw [← hN] at hNl ⊢
  have hinv : Inv N ⟨[], [], [], []⟩ := ⟨List.nodup_nil, fun x hx => (by cases hx), Nat.le_refl _, Nat.zero_le _⟩
  have hFN : ∀ x t, look Fs x = some t → x ∈ N := by
    intro x t h
    obtain ⟨k, p, h1, h2, h3, h4⟩ := look_some h
    rw [hN, ← h2]
    exact List.mem_map_of_mem (List.mem_of_getElem? h1)
  have HTx := Lib.hid (text_any N (incF (look Fs) (N.length + 1)) text [] w4 ws.heap.size (w.heap.size + 1 + 1 + 1) (.slice fa fn fc) _ _ _ _ _ ⟨[], [], [], []⟩ HSt.out hinv (incF_keeps (N := N) (F := look Fs) hFN _) hs (hM.below (hbs.trans (hb4.mono (by omega))) hM.lt) (by
    intro l n wr ap bv lv ov dv s1 hl h1 h2 hn hst hi ho hb
    rcases hinc with h | h
    · exact (h l hl h1 h2).elim
    · exact include_any Fs N hN ws (.slice fa fn fc) (h.1.below hbs) (hM.below hbs hM.lt) hNl h.2 (N.length + 1) (dirL l).1 [] n wr (w.heap.size + 1 + 1 + 1) ap bv lv ov dv s1 hst hi (hb4.trans hb) (by omega) hn))
  have HBs := Lib.hid hbs
  have HB4 := Lib.hid hb4
  have HZs := Lib.hid hzs
  have hr : loadF (look Fs) (N.length + 1) text.data.toList = textF (incF (look Fs) (N.length + 1)) [] ⟨[], [], [], []⟩ 1 (linesL text.data.toList) := rfl
  rw [hr]
  generalize textF (incF (look Fs) (N.length + 1)) [] ⟨[], [], [], []⟩ 1 (linesL text.data.toList) = res at *
  have hmf : ∀ (fn : Fn) (first cap : Array Value) (w : World), (Instr.makeFunc fn first cap).run Tryd.prog w = .ok (.func fn first cap) w := fun _ _ _ _ => rfl
  clear hM hs hNl hinc hzs hbs hb4 hheap hnn hinv hFN hr
  subst hw4
  subst hws
  go_enter_defers Tryd.func9, Tryd.ntmps9
  go_wp2_with fail
  refine HTx.out.mono ?_
  rintro e w5 hO
  cases res with
  | bad f m c =>
    obtain ⟨rfl, hb5⟩ := hO
    have hz := HZs.out
    have HL5 : Hid (Laid3 w5 w.heap.size (w.heap.size + 1) (w.heap.size + 1 + 1) (.string ⟨#[]⟩) (.slice none 0 0) (.string ⟨#[]⟩) (.int .i64 0) (.int .i64 0)) :=
      ⟨(hb5.block _ (by omega)).trans HL0.out.p, (hb5.block _ (by omega)).trans HL0.out.q, (hb5.block _ (by omega)).trans HL0.out.r⟩
    have HBw : Hid (Below w.heap.size w w5) := (HBs.out.trans (HB4.out.mono (by omega))).trans (hb5.mono (by omega))
    clear HTx HL0 HSt hb5
    go_wp2_with fail
    refine leaves_cons (f := 17) (args := #[.pointer (some ⟨w.heap.size, 0, none⟩), .pointer (some ⟨w.heap.size + 1, 0, none⟩), .pointer (some ⟨w.heap.size + 1 + 1, 0, none⟩)]) (by simp) (by simp [go_sem]) ?_
    refine (catch_fault w.heap.size w.heap.size (w.heap.size + 1) (w.heap.size + 1 + 1) f m c _ _ _ _ _ w5 HL5.out (by omega) (by omega) (by omega) (by omega) (by omega) (by omega)).mono ?_
    rintro e u' w6 ⟨rfl, rfl, hL6, hb6⟩
    have p0 : w6.cell? ⟨w.heap.size, 0, none⟩ = some (.string ⟨#[]⟩) := by rw [Lib.cell_of_heap hL6.p]; rfl
    have p1 : w6.cell? ⟨w.heap.size, 1, none⟩ = some (.slice none 0 0) := by rw [Lib.cell_of_heap hL6.p]; rfl
    have q0 : w6.cell? ⟨w.heap.size + 1, 0, none⟩ = some (.string (B f)) := by rw [Lib.cell_of_heap hL6.q]; rfl
    have q1 : w6.cell? ⟨w.heap.size + 1, 1, none⟩ = some (.int .i64 (m : Int)) := by rw [Lib.cell_of_heap hL6.q]; rfl
    have r0 : w6.cell? ⟨w.heap.size + 1 + 1, 0, none⟩ = some (.int .i64 (c : Int)) := by rw [Lib.cell_of_heap hL6.r]; rfl
    simp [Leaves, settle, results, Tryd.results9, go_sem, p0, p1, q0, q1, r0]
    exact ⟨rfl, HBw.out.trans hb6⟩
  | ok s =>
    obtain ⟨rfl, ap, bv, lv, ov, dv, hst, ha, hl⟩ := hO
    have hz := HZs.out
    have hblk : ∀ x ∈ blk (w.heap.size + 1 + 1 + 1) (.slice none 0 0) (.slice none 0 0) (.slice none 0 0) (.slice none 0 0), x = w.heap.size + 1 + 1 + 1 := by
      intro x hx
      rcases mem_blk.1 hx with e | e | e | e | e
      · exact e
      all_goals cases e
    have HL5 : Hid (Laid3 w5 w.heap.size (w.heap.size + 1) (w.heap.size + 1 + 1) (.string ⟨#[]⟩) (.slice none 0 0) (.string ⟨#[]⟩) (.int .i64 0) (.int .i64 0)) :=
      ⟨(ha.block _ (by have := HB4.out.size; omega) (fun h => by have := hblk _ h; omega)).trans HL0.out.p, (ha.block _ (by have := HB4.out.size; omega) (fun h => by have := hblk _ h; omega)).trans HL0.out.q, (ha.block _ (by have := HB4.out.size; omega) (fun h => by have := hblk _ h; omega)).trans HL0.out.r⟩
    have HBw : Hid (Below w.heap.size w w5) := (HBs.out.trans (HB4.out.mono (by omega))).trans (ha.below (by have := HB4.out.size; omega) (fun x hx => by have := hblk x hx; omega))
    have HSt5 := Lib.hid hst
    have hz5 := HBw.out.size
    have hstd : St w5.drew _ (w.heap.size + 1 + 1 + 1) (.slice fa fn fc) ap bv lv ov dv s := HSt5.out.keep fun g hg => rfl
    have HStr := Lib.hid (StringE_any hstd.inB (by have := HSt5.out.lt; have := HSt5.out.lo; show _ ≤ w5.heap.size; omega))
    clear hstd
    have hkeep : ∀ W W' : World, (∃ w0, (w0 = W ∨ ∃ o, w0 = W.alloc o) ∧ (W' = w0.drew ∨ ∃ g n, bv.ownBlock = some g ∧ W' = w0.drew.freeze ⟨g, 0, none⟩ n)) → Apart bv.ownBlock.toList W W' := by
      rintro W W' ⟨w0, h0, h1⟩
      have A0 : Apart bv.ownBlock.toList W w0 := by
        rcases h0 with rfl | ⟨o, rfl⟩
        · exact Apart.refl _ _
        · exact (Apart.refl _ _).alloc o
      rcases h1 with rfl | ⟨g, n, hg, rfl⟩
      · exact A0.drew
      · exact A0.drew.trans (apart_freeze w0.drew g n) (fun x hx => .inl (by simp at hx; subst hx; simp [hg]))
    have HKeep := Lib.hid hkeep
    clear HTx HL0 HSt hst ha hl hkeep hblk
    have c3 : w5.cell? ⟨w.heap.size + 1 + 1 + 1, 3, none⟩ = some lv := HSt5.out.cell 3
    have p0 : w5.cell? ⟨w.heap.size, 0, none⟩ = some (.string ⟨#[]⟩) := by rw [Lib.cell_of_heap HL5.out.p]; rfl
    have p1 : w5.cell? ⟨w.heap.size, 1, none⟩ = some (.slice none 0 0) := by rw [Lib.cell_of_heap HL5.out.p]; rfl
    have q0 : w5.cell? ⟨w.heap.size + 1, 0, none⟩ = some (.string ⟨#[]⟩) := by rw [Lib.cell_of_heap HL5.out.q]; rfl
    have q1 : w5.cell? ⟨w.heap.size + 1, 1, none⟩ = some (.int .i64 0) := by rw [Lib.cell_of_heap HL5.out.q]; rfl
    have r0 : w5.cell? ⟨w.heap.size + 1 + 1, 0, none⟩ = some (.int .i64 0) := by rw [Lib.cell_of_heap HL5.out.r]; rfl
    have pf : ∀ j, w5.frozen? ⟨w.heap.size, j, none⟩ = false := Lib.frozen_of_heap HL5.out.p
    have qf : ∀ j, w5.frozen? ⟨w.heap.size + 1, j, none⟩ = false := Lib.frozen_of_heap HL5.out.q
    have rf : ∀ j, w5.frozen? ⟨w.heap.size + 1 + 1, j, none⟩ = false := Lib.frozen_of_heap HL5.out.r
    have c3' : w5.drew.cell? ⟨w.heap.size + 1 + 1 + 1, 3, none⟩ = some lv := c3
    obtain ⟨la, ln, lc, rfl⟩ : ∃ a n c, lv = .slice a n c := by
      rcases HSt5.out.lin.2 with ⟨rfl, _⟩ | ⟨g, cap, cur, rfl, _⟩
      · exact ⟨_, _, _, rfl⟩
      · exact ⟨_, _, _, rfl⟩
    go_wp2_with fail
    go_region_held3 (fun w' => w'.cell? ⟨w.heap.size + 1 + 1 + 1, 3, none⟩ = some (.slice la ln lc)) (first | with_reducible exact c3 | with_reducible exact c3' | with_reducible exact d3 | (simp [go_sem, d3]))
      (first | (go_at_call 19; refine HStr.out.mono ?_; rintro e w6 ⟨rfl, hw6⟩; have HA6 := Lib.hid (HKeep.out _ _ hw6); clear hw6; have HL6 := Lib.hid (laid_keep HL5.out HA6.out (fun g hg => by have := (HSt5.out.buf.lt g hg).1; refine ⟨?_, ?_, ?_⟩ <;> omega)); have hd3 := keep3 HSt5.out HA6.out; have d3 := hd3.1; have e0 := HL6.out.p0; have e1 := HL6.out.p1; have f0 := HL6.out.q0; have f1 := HL6.out.q1; have g0 := HL6.out.r0; have ef := HL6.out.pf; have ff := HL6.out.qf; have gf := HL6.out.rf; have HLin := Lib.hid hd3.2; clear hd3 HStr))
    all_goals have HZ6 : Hid (w.heap.size ≤ w6.heap.size) := Nat.le_trans HBw.out.size HA6.out.size
    all_goals have HBB := Lib.hid (below_laid HBw.out (HA6.out.below (B := w.heap.size) HBw.out.size (fun x hx => by have := (HSt5.out.buf.lt x (by simpa using hx)).1; omega)) (.string ⟨s.out.toArray⟩) (.slice la ln lc) (.string ⟨#[]⟩) (.int .i64 0) (.int .i64 0))
    all_goals have HRow := Lib.hid (row_laid (p := w.heap.size) (own_base (D' := w.heap.size) HLin.out (by have := HZs.out; omega)) (fun g hg => by have h1 := (HLin.out.lt g hg).1; have h2 := HZs.out; omega) (.string ⟨s.out.toArray⟩) (.slice la ln lc) (.string ⟨#[]⟩) (.int .i64 0) (.int .i64 0))
    all_goals go_wp2_with fail
    all_goals refine leaves_cons (f := 17) (args := #[.pointer (some ⟨w.heap.size, 0, none⟩), .pointer (some ⟨w.heap.size + 1, 0, none⟩), .pointer (some ⟨w.heap.size + 1 + 1, 0, none⟩)]) (by simp) (by simp [go_sem]) ?_
    all_goals refine (catch_idle ⟨w.heap.size, 0, none⟩ ⟨w.heap.size + 1, 0, none⟩ ⟨w.heap.size + 1 + 1, 0, none⟩ _).mono ?_
    all_goals rintro e u' w7 ⟨rfl, rfl, rfl⟩
    all_goals simp [Leaves, settle, results, Tryd.results9, go_sem, e0, e1, f0, f1, g0]
    all_goals (have hrow := HRow.out; have hbb := HBB.out; clear HRow HBB HLin HL6 HA6 HL5 HSt5 HKeep)
    all_goals refine ⟨.slice la ln lc, ?_, ?_, ?_⟩
    all_goals first | with_reducible exact hrow | with_reducible exact hbb | rfl
end Go.Proofs.YtmhjfdnpmfhmjaaDoor
