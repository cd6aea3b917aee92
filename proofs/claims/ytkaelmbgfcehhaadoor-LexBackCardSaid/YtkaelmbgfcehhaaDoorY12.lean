/- Package lex: sign. -/
import Derived.Test.YtkaelmbgfcehhaaDoorY11
import Derived.Test.YtkaelmbgfcehhaaDoorM6
import Derived.Stop.RegionWithIn
import Derived.Deep.RegionWith
set_option linter.unusedVariables false
set_option linter.unusedSimpArgs false
namespace Go.Proofs.YtkaelmbgfcehhaaDoor
open Go.RowKit Go.Shelf
set_option linter.unusedVariables false
set_option linter.unusedSimpArgs false
attribute [local go_sem] Oper.semAt_some

set_option maxHeartbeats 4000000 in
set_option maxRecDepth 100000 in
/-- add, and what it leaves as it was -/
theorem add_more (D b : Nat) (s : ByteArray) (p l : Nat) (v : Value) (L : List TokT) (kd : Nat) (t : List UInt8) (x ln : Nat) (w : World) (h : Sc w D b s p l v L) (hL : L.length ≤ 1000000000) :
    Calls Tryd.prog 14 #[.pointer (some ⟨b, 0, none⟩), .int .i64 (kd : Int), .string (bs t), .float .f64 x, .int .i64 (ln : Int)] w fun e w' =>
      e = .returned (.tuple #[]) ∧ (∃ v', Sc w' D b s p l v' (L ++ [(kd, t, x, ln)])) ∧ Below D w w' ∧ (w.heap.size ≤ w'.heap.size ∧ ∀ k, k < w.heap.size → k ≠ b → v.ownBlock ≠ some k → w'.heap[k]? = w.heap[k]?) := by
  have HS := Lib.hid h
  have c3 := h.c3
  have f3 := h.f 3
  have hlo := h.lo
  have hlt := h.lt
  clear h
  go_enter Tryd.func14, Tryd.ntmps14
  go_wp2_with (
    at_builtin
    go_loud (refine wpList_appK _ rfl _ _ rfl D _ L rfl (HS.out.alloc _).ownK w.heap.size (kd, t, x, ln) rfl (heap_alloc_at w _) (by simp; omega) (by omega) ?_)
    intro a1 n1 m1 w3 hown1 hgr1
    have k3 := Sc.gc3 HS.out hgr1
    have kf3 := Sc.gf3 HS.out hgr1
    have HO := Lib.hid hown1
    have HG := Lib.hid hgr1
    clear hown1 hgr1)
  go_end0
  refine ⟨rfl, ⟨_, (HS.out.alloc _).added HO.out HG.out⟩, HS.out.gbelow HG.out _, ?_, fun k hk hb hv => ?_⟩
  · have h1 := HG.out.size
    have h2 : (w.alloc (.cells #[.int .i64 (kd : Int), .string (bs t), .float .f64 x, .int .i64 (ln : Int)] 32)).heap.size = w.heap.size + 1 := World.size_alloc _ _
    show w.heap.size ≤ (World.setCell _ _ _).heap.size
    rw [World.size_setCell]
    omega
  · refine (Below.heap_setCell _ _ _ _ hb).trans ((HG.out.block k (by rw [World.size_alloc]; omega) (fun e => hv e.symm)).trans (heap_alloc_lt _ _ _ hk))

/-- what sign does -/
def SignE (D b : Nat) (s : ByteArray) (p l : Nat) (LT : List TokT) (w : World) (r : Option (List UInt8)) (e : Ending) (w' : World) : Prop := match r with
  | some x => e = .returned (.tuple #[]) ∧ (∃ v', Sc w' D b s (p + x.length) l v' (LT ++ [(7, x, 0, l)])) ∧ Below D w w'
  | none => e = .panicked [{ v := lexF l 200, recovered := false }] ∧ Below D w w'
section
variable {w w' : World} {D b : Nat} {s : ByteArray} {p l : Nat} {v : Value} {L : List TokT}
theorem Sc.ownF {row : Option Nat} (h : Sc w D b s p l v L) (hg : w.grownBy w' row) (hr : ∀ r, row = some r → ∃ o : Obj, w.heap[r]? = some o ∧ o.isCells = false) : Sc w' D b s p l v L := by
  refine h.keep (grownBy_keeps_cells hg hr h.heap rfl) fun g hg' => ?_
  rcases h.own.2 with ⟨e, _⟩ | ⟨g', cap, cur, e, _, hh, _⟩
  · rw [e] at hg'; cases hg'
  · have e1 : g' = g := by rw [e] at hg'; injection hg'
    subst e1
    exact grownBy_keeps_cells hg hr hh rfl
theorem Sc.box {B : Nat} {c : Array Value} (h : Sc w D b s p l v L) (hb : w.heap[B]? = some (.cells c 9 (0, 0))) (u : Value) : Sc (w.setCell ⟨B, 0, none⟩ u) D b s p l v L := by
  refine h.keep (heap_box u fun e => ?_) fun g hg' => heap_box u fun e => own_ne h.own hb (by decide) (e ▸ hg')
  have h1 := h.heap
  rw [e, hb] at h1
  injection h1 with h2
  injection h2 with _ h3
  exact absurd h3 (by decide)
end
theorem keeps_add {W w2 w4 : World} {D b : Nat} {s : ByteArray} {p l : Nat} {v u : Value} {L : List TokT} (HS : Sc w2 D b s p l v L) (h2 : Below W.heap.size W w2) (hz : (w2.setCell ⟨b, 1, none⟩ u).drew.heap.size ≤ w4.heap.size)
    (hk : ∀ k, k < (w2.setCell ⟨b, 1, none⟩ u).drew.heap.size → k ≠ b → v.ownBlock ≠ some k → w4.heap[k]? = (w2.setCell ⟨b, 1, none⟩ u).drew.heap[k]?) : KeepsOthers W w4 := by
  have hz2 : (w2.setCell ⟨b, 1, none⟩ u).drew.heap.size = w2.heap.size := World.size_setCell _ _ _
  refine ⟨by have := h2.size; omega, fun k o h1 ho => ?_⟩
  have h3 : w2.heap[k]? = some o := (h2.block k (lt_of_heap h1)).trans h1
  have hkb : k ≠ b := fun e => by
    rw [e, HS.heap] at h3
    injection h3 with h4
    rw [← h4] at ho
    cases ho
  have hkv : v.ownBlock ≠ some k := fun e => by
    rcases HS.own.2 with ⟨e1, _⟩ | ⟨g, cap, cur, e1, _, hh, _⟩
    · rw [e1] at e; cases e
    · have e2 : g = k := by rw [e1] at e; injection e
      rw [e2, h3] at hh
      injection hh with h4
      rw [h4] at ho
      cases ho
  exact (hk k (by rw [hz2]; exact lt_of_heap h3) hkb hkv).trans ((Below.heap_setCell w2 ⟨b, 1, none⟩ u k hkb).trans h3)
theorem find_none {R : List UInt8} {l : List (List UInt8)} (h : ∀ x ∈ l, Lib.hasPrefix R x = false) : l.find? (fun p => p.isPrefixOf R) = none := by
  rw [List.find?_eq_none]
  intro x hx
  have := h x hx
  unfold Lib.hasPrefix at this
  rw [this]
  exact Bool.false_ne_true
theorem find_some {R : List UInt8} {l pre : List (List UInt8)} {x : List UInt8} (hp : pre ++ [x] <+: l) (h : ∀ y ∈ pre, Lib.hasPrefix R y = false) (hx : Lib.hasPrefix R x = true) : l.find? (fun p => p.isPrefixOf R) = some x := by
  obtain ⟨T, rfl⟩ := hp
  rw [List.append_assoc, List.find?_append, find_none h]
  have : x.isPrefixOf R = true := hx
  simp [this]

set_option maxHeartbeats 16000000 in
set_option maxRecDepth 100000 in
theorem sign_any (D b : Nat) (s : ByteArray) (p l : Nat) (v : Value) (LT : List TokT) (w : World) (h : Sc w D b s p l v LT) (hp : p < s.size) (hs : s.size ≤ 100000) (hL : LT.length ≤ 1000000000) (hD : D ≤ w.heap.size) :
    Calls Tryd.prog 24 #[.pointer (some ⟨b, 0, none⟩)] w (SignE D b s p l LT w (signsL.find? fun q => q.isPrefixOf (s.data.toList.drop p))) := by
  obtain ⟨R, hR⟩ : ∃ R, R = s.data.toList.drop p := ⟨_, rfl⟩
  rw [← hR]
  obtain ⟨res, hres⟩ : ∃ r, r = signsL.find? fun q => q.isPrefixOf R := ⟨_, rfl⟩
  rw [← hres]
  have HRes := Lib.hid hres
  have HR := Lib.hid hR
  have HS0 := Lib.hid h
  have hbw : b < w.heap.size := h.lt
  have hDb := h.lo
  clear hres hR h
  refine (callsIn_wide (n := 9)).1 ?_
  refine callsIn_of_wp_marks Tryd.func24 rfl trivial ?_ rfl
  simp only [Tryd.ntmps24, List.size_toArray, List.length_cons, List.length_nil, Nat.reduceAdd, Nat.reduceSub, Array.replicate_succ, Array.replicate_zero, List.push_toArray, List.append_toArray, List.nil_append, List.cons_append]
  refine wpIn_wide.2 ?_
  go_wp2_with fail
  refine (SplitSeq_any signsS _).mono ?_
  rintro e w1 ⟨rfl, hw1⟩
  rw [World.size_alloc]
  have e1 : w1.heap.size = w.heap.size + 4 := by rw [hw1]; simp
  have hb1 : Below w.heap.size w w1 := by rw [hw1]; exact ((((Below.refl _ w).alloc (Nat.le_refl _) _).alloc (by simp) _).alloc (by simp; omega) _).alloc (by simp; omega) _
  have k0 : w1.cell? ⟨w.heap.size, 0, none⟩ = some (.pointer (some ⟨b, 0, none⟩)) := by rw [hw1]; simp [go_sem]
  have kS : w1.heap[w.heap.size + 1]? = some (.cells #[.string signsS] 9 (0, 0)) := by
    rw [hw1, heap_alloc_lt _ _ _ (by simp), heap_alloc_lt _ _ _ (by simp), ← World.size_alloc w (.cells #[.pointer (some ⟨b, 0, none⟩)] 39), heap_alloc_at]
  have k2 : w1.cell? ⟨w.heap.size + 1 + 1, 0, none⟩ = some (.string ⟨#[32]⟩) := by rw [hw1]; simp [go_sem]
  have k3 : w1.cell? ⟨w.heap.size + 1 + 2, 0, none⟩ = some (.int .i64 0) := by rw [hw1]; simp [go_sem]
  have k1 : w1.cell? ⟨w.heap.size + 1, 0, none⟩ = some (.string (bs signsS.data.toList)) := by rw [Lib.cell_of_heap kS, bs_list]; rfl
  have kf : w1.frozen? ⟨w.heap.size + 1, 0, none⟩ = false := Lib.frozen_of_heap kS 0
  have HS1 : Hid (Sc w1 D b s p l v LT) := HS0.out.below hb1
  have HBD1 : Hid (Below D w w1) := hb1.mono hD
  clear hw1
  generalize hB : w.heap.size = B at *
  go_wp2_with fail
  refine (wpIn_wide (n := 9)).1 ?_
  refine wpIn_rangeFunc_box (α := List UInt8) (encs := fun x => #[Value.string (bs x)]) rfl (by decide) (gf := 52) (b := B + 1) (lb := #[.pointer (some ⟨B + 1 + 1, 0, none⟩), .pointer (some ⟨B + 1, 0, none⟩), .pointer (some ⟨B + 1 + 2, 0, none⟩)]) rfl trivial (enters_of Tryd.func52 (by kernel_rfl) rfl) (by omega)
    (Kp := KpS (B + 1) (B + 1 + 1) (B + 1 + 2)) (S := fun ys => ys = cutSp signsS.data.toList) (Sp := fun pre => pre <+: cutSp signsS.data.toList) (N := (cutSp signsS.data.toList).length)
    (fun l J Jx W hW hJ hJx hJb hJxb hY h0 => ss1_any 8 l (B + 1) (B + 1 + 1) (B + 1 + 2) signsS.data.toList (by decide) (by omega) (by omega) (by decide) J Jx W hJ hJb hY ((hW.cell (p := ⟨B + 1, 0, none⟩) (show B + 1 < w1.heap.size by omega)).trans k1) ((hW.frozen (p := ⟨B + 1, 0, none⟩) (show B + 1 < w1.heap.size by omega)).trans kf) ((hW.cell (p := ⟨B + 1 + 1, 0, none⟩) (show B + 1 + 1 < w1.heap.size by omega)).trans k2) ((hW.cell (p := ⟨B + 1 + 2, 0, none⟩) (show B + 1 + 2 < w1.heap.size by omega)).trans k3) h0)
    (fun h k => KpS.trans h k) (fun W l o o' hl _ _ _ => KpS.put (n := w1.heap.size) (by omega) (by omega) (by omega) W l o o' hl) (fun _ => rfl)
    (fun pre W => (Sc W D b s p l v LT ∧ W.cell? ⟨B, 0, none⟩ = some (.pointer (some ⟨b, 0, none⟩))) ∧ (Below D w1 W ∧ ∀ x ∈ pre, Lib.hasPrefix R x = false) ∧ ∃ c, W.heap[B + 1]? = some (.cells c 9 (0, 0)))
    (fun c pre W => (c = .ret ∧ ∃ x pre', pre = pre' ++ [x] ∧ Lib.hasPrefix R x = true ∧ (∀ y ∈ pre', Lib.hasPrefix R y = false) ∧ ∃ v', Sc W D b s (p + x.length) l v' (LT ++ [(7, x, 0, l)])) ∧ Below D w1 W ∧ ∃ c, W.heap[B + 1]? = some (.cells c 9 (0, 0)))
    ?own ?ownx ?blind ?blindx ⟨⟨HS1.out, k0⟩, ⟨Below.refl _ _, fun _ h => by cases h⟩, _, kS⟩
    (fun x => { tmps := #[.pointer (some ⟨b, 0, none⟩), .pointer (some ⟨B, 0, none⟩), .string (bs x), .func (.func 52) #[] #[.pointer (some ⟨B + 1 + 1, 0, none⟩), .pointer (some ⟨B + 1, 0, none⟩), .pointer (some ⟨B + 1 + 2, 0, none⟩)], .string (bs x), undef, undef, undef, undef, undef, undef, undef, undef, undef, undef, undef, undef, undef, undef, undef, undef, undef, undef, undef, undef, undef, undef, undef, undef, undef], defers := [] }) ?assign ?body ?done ?stop
  case own =>
    rintro pre A A' row ⟨⟨a1, a2⟩, ⟨a3, a4⟩, c, a5⟩ hg hr
    have hr' := fun r e => (hr r e).2
    exact ⟨⟨a1.ownF hg hr', cell_kept a2 hg hr'⟩, ⟨a3.grown hg (by have := a3.size; omega) (fun g e => by have := (hr g e).1; omega), a4⟩, c, (grownBy_keeps_cells hg hr' a5 rfl).trans a5⟩
  case ownx =>
    rintro c pre A A' row ⟨⟨hc, x, pre', a1, a2, a3, v', a4⟩, a5, c', a6⟩ hg hr
    have hr' := fun r e => (hr r e).2
    exact ⟨⟨hc, x, pre', a1, a2, a3, v', a4.ownF hg hr'⟩, a5.grown hg (by have := a5.size; omega) (fun g e => by have := (hr g e).1; omega), c', (grownBy_keeps_cells hg hr' a6 rfl).trans a6⟩
  case blind =>
    rintro pre A u ⟨⟨a1, a2⟩, ⟨a3, a4⟩, c, a5⟩
    exact ⟨⟨a1.box a5 u, (cell_other1 u (by omega)).trans a2⟩, ⟨a3.setCell (p := ⟨B + 1, 0, none⟩) (by show D ≤ B + 1; omega) u, a4⟩, _, setCell_heap_same a5 0 u⟩
  case blindx =>
    rintro c pre A u ⟨⟨hc, x, pre', a1, a2, a3, v', a4⟩, a5, c', a6⟩
    exact ⟨⟨hc, x, pre', a1, a2, a3, v', a4.box a6 u⟩, a5.setCell (p := ⟨B + 1, 0, none⟩) (by show D ≤ B + 1; omega) u, _, setCell_heap_same a6 0 u⟩
  case assign =>
    intro l9 x W K hK
    gi_wp2
    simpa using hK
  case body =>
    rintro l9 pre x W ⟨⟨a1, a2⟩, ⟨a3, a4⟩, c, a5⟩ hlt
    clear k0 k1 k2 k3 kf kS
    have HSee := Lib.hid (see_any D b s (bs x) p l v LT W a1 (by omega))
    rw [bs_data, ← HR.out] at HSee
    have HSW := Lib.hid a1
    have HBW := Lib.hid a3
    have HNW := Lib.hid a4
    have HcW := Lib.hid a5
    have hBW : B < W.heap.size := by
      obtain ⟨o, ho, _⟩ := cells_of_cell a2
      exact lt_of_heap ho
    have hB1 : B + 1 < W.heap.size := lt_of_heap a5
    have HxL : Hid (Lib.hasPrefix R x = true → x.length ≤ R.length) := fun h => (List.isPrefixOf_iff_prefix.1 h).length_le
    have hRl : R.length + p = s.size := by rw [HR.out, List.length_drop, ← size_list]; omega
    clear a1 a3 a4 a5
    cases hpf : Lib.hasPrefix R x with
    | false =>
      rw [hpf] at HSee
      gi_wp2_with fail
      refine ⟨trivial, ?_⟩
      refine (CallsIn.inRound l9 (callsIn_wide.2 HSee.out)).mono ?_
      rintro e w2 ⟨rfl, hb2⟩
      gi_wp2_with fail
      refine ⟨⟨hb2.size, fun k o hk _ => (hb2.block k (lt_of_heap hk)).trans hk⟩, ⟨hb2.block _ hB1, ?_, ?_⟩, ⟨HSW.out.below hb2, (hb2.cell (p := ⟨B, 0, none⟩) hBW).trans a2⟩, ⟨HBW.out.trans (hb2.mono (by have := HBW.out.size; omega)), ?_⟩, c, (hb2.block _ hB1).trans HcW.out⟩
      · exact hb2.block _ (by have := HBW.out.size; omega)
      · exact hb2.block _ (by have := HBW.out.size; omega)
      · intro y hy
        rcases List.mem_append.1 hy with hy | hy
        · exact HNW.out y hy
        · rw [List.mem_singleton.1 hy]; exact hpf
    | true =>
      rw [hpf] at HSee
      have hxl := HxL.out hpf
      have hxs : (bs x).size = x.length := bs_size x
      obtain ⟨q, hq⟩ : ∃ q, q = p + x.length := ⟨_, rfl⟩
      have eq1 : (p : Int) + (x.length : Int) = (q : Int) := by omega
      have eqw := wrapN q (by omega)
      have HQ := Lib.hid hq
      obtain ⟨SX, hSX⟩ : ∃ SX, SX = bs x := ⟨_, rfl⟩
      rw [← hSX] at HSee hxs ⊢
      have HSX := Lib.hid hSX
      clear hq hSX
      gi_wp2_with fail
      refine ⟨trivial, ?_⟩
      refine (CallsIn.inRound l9 (callsIn_wide.2 HSee.out)).mono ?_
      rintro e w2 ⟨rfl, hb2⟩
      have HS2 := Lib.hid (HSW.out.below hb2)
      have n0 : w2.cell? ⟨B, 0, none⟩ = some (.pointer (some ⟨b, 0, none⟩)) := (hb2.cell (p := ⟨B, 0, none⟩) hBW).trans a2
      have n1 := HS2.out.c1
      have nf := HS2.out.f 1
      have HS3 := Lib.hid (HS2.out.setAt q)
      have hbB : b ≠ B := by omega
      have n3 : (w2.setCell ⟨b, 1, none⟩ (.int .i64 (q : Int))).cell? ⟨B, 0, none⟩ = some (.pointer (some ⟨b, 0, none⟩)) := (cell_same1 (Below.heap_setCell w2 ⟨b, 1, none⟩ (.int .i64 (q : Int)) B (fun e => hbB e.symm))).trans n0
      have n2 := HS3.out.c2
      clear a2
      have HAdd : Hid (∀ W', Sc W' D b s q l v LT → Calls Tryd.prog 14 #[.pointer (some ⟨b, 0, none⟩), .int .i64 7, .string SX, .float .f64 0, .int .i64 (l : Int)] W' fun e w' =>
          e = .returned (.tuple #[]) ∧ (∃ v', Sc w' D b s q l v' (LT ++ [(7, x, 0, l)])) ∧ Below D W' w' ∧ (W'.heap.size ≤ w'.heap.size ∧ ∀ k, k < W'.heap.size → k ≠ b → v.ownBlock ≠ some k → w'.heap[k]? = W'.heap[k]?)) := fun W' hW' => by
        rw [HSX.out]
        exact add_more D b s q l v LT 7 x 0 l W' hW' hL
      have hB2 : B + 1 < w2.heap.size := Nat.lt_of_lt_of_le hB1 hb2.size
      have HBx : Hid (w2.heap[B + 1]? = some (.cells c 9 (0, 0))) := (hb2.block _ hB1).trans HcW.out
      gi_wp2_with fail
      gi_region_with (refine ⟨trivial, ?_⟩; refine (CallsIn.inRound l9 (callsIn_wide.2 (HAdd.out _ HS3.out.drew))).mono ?_; rintro e w4 ⟨rfl, hs4, hb4, hz4, hk4⟩)
      all_goals (
        gi_wp2_with fail
        refine ⟨keeps_add HS2.out hb2 hz4 hk4, ⟨rfl, x, pre, rfl, hpf, HNW.out, HQ.out ▸ hs4⟩, ?_, c, ?_⟩
        · exact ((HBW.out.trans (hb2.mono (by have := HBW.out.size; omega))).setCell (p := ⟨b, 1, none⟩) hDb (.int .i64 (q : Int))).drew.trans hb4
        · refine (hk4 (B + 1) (by show B + 1 < (World.setCell _ _ _).heap.size; rw [World.size_setCell]; exact hB2) (by omega) (own_ne HS2.out.own HBx.out (by decide))).trans ((Below.heap_setCell w2 ⟨b, 1, none⟩ (.int .i64 (q : Int)) (B + 1) (by show B + 1 ≠ b; omega)).trans HBx.out))
  case done =>
    rintro DD ys W hD9 rfl ⟨⟨a1, a2⟩, ⟨a3, a4⟩, c, a5⟩ hK
    have HRn : Hid (res = none) := by
      show _ = _
      rw [HRes.out]
      rw [cut_signs] at a4
      exact find_none a4
    have b2 := a1.c2
    have b0 := a2
    have hbl : b < W.heap.size := a1.lt
    have hBl : B < W.heap.size := by
      obtain ⟨o, ho, _⟩ := cells_of_cell a2
      exact lt_of_heap ho
    have HB := Lib.hid (HBD1.out.trans a3)
    have HK := Lib.hid hK
    have hDD : D ≤ DD := by omega
    clear a1 a2 a3 a4 a5 hK k0 k1 k2 k3 kf kS
    go_wp2_with fail
    obtain ⟨WI, hWI⟩ : ∃ WI : Bool → World → Prop, WI = fun x W' => x = false ∧ Below W.heap.size W W' := ⟨_, rfl⟩
    have HWF : Hid (∀ x W', WI x W' → x = false ∧ Below W.heap.size W W') := fun x W' h => by rw [hWI] at h; exact h
    have HW0 : Hid (WI false W.drew) := by
      show WI false _
      rw [hWI]
      exact ⟨rfl, (Below.refl _ _).drew⟩
    clear hWI
    -- REG6
    refine wp_region_guarded (by kernel_rfl) (by kernel_rfl) (fun a0 V0 L a W' => ∃ u : Nat → Value, a = { tmps := ((((((a0.tmps.setIfInBounds 24 (u 0)).setIfInBounds 25 (u 1)).setIfInBounds 26 (u 2)).setIfInBounds 27 (u 3)).setIfInBounds 28 (u 4)).setIfInBounds 29 (u 5)), defers := a0.defers } ∧ Hid (WI (L 5) W') ∧ Hid (∀ i, L i = true → u i = valAt [.pointer (some ⟨b, 0, none⟩), .pointer (some ⟨b, 0, none⟩), .pointer (some ⟨b, 0, none⟩), .pointer (some ⟨b, 2, none⟩), .int .i64 (l : Int), undef] i)) ?h0 ?hstep ?hdone
    case h0 =>
      refine ⟨valAt [undef, undef, undef, undef, undef, undef], ?_, HW0.out, fun _ h => (by cases h)⟩
      kernel_rfl
    case hstep =>
      refine ⟨?o0, ?o1, ?o2, ?o3, ?o4, ?o5, trivial⟩
      case o0 =>
        rintro L a' W' ⟨u, rfl, HI, E⟩ hL hd K hK
        have kk : W'.cell? ⟨B, 0, none⟩ = some (.pointer (some ⟨b, 0, none⟩)) := ((HWF.out _ _ HI.out).2.cell (p := ⟨B, 0, none⟩) hBl).trans b0
        simp only [List.setIfInBounds_toArray, List.set_cons_zero, List.set_cons_succ]
        refine ite_take rfl ?_
        clear hL hd
        go_simp
        refine hK _ _ ⟨withVal u 0 (.pointer (some ⟨b, 0, none⟩)), ?_, (by show WI (upd L 0 5) W'; rw [upd_other L (by decide)]; exact HI.out), withVal_next E 0 _ rfl⟩
        kernel_rfl
      case o1 =>
        rintro L a' W' ⟨u, rfl, HI, E⟩ hL hd K hK
        have kk : W'.cell? ⟨B, 0, none⟩ = some (.pointer (some ⟨b, 0, none⟩)) := ((HWF.out _ _ HI.out).2.cell (p := ⟨B, 0, none⟩) hBl).trans b0
        simp only [List.setIfInBounds_toArray, List.set_cons_zero, List.set_cons_succ]
        refine ite_take rfl ?_
        clear hL hd
        go_simp
        refine hK _ _ ⟨withVal u 1 (.pointer (some ⟨b, 0, none⟩)), ?_, (by show WI (upd L 1 5) W'; rw [upd_other L (by decide)]; exact HI.out), withVal_next E 1 _ rfl⟩
        kernel_rfl
      case o2 =>
        rintro L a' W' ⟨u, rfl, HI, E⟩ hL hd K hK
        have e1 : u 1 = .pointer (some ⟨b, 0, none⟩) := E.out 1 (hd 1 (List.elem_iff.1 (by kernel_rfl)))
        simp only [List.setIfInBounds_toArray, List.set_cons_zero, List.set_cons_succ, e1]
        refine ite_take rfl ?_
        clear hL hd
        go_simp
        refine hK _ _ ⟨withVal (withVal u 1 (.pointer (some ⟨b, 0, none⟩))) 2 (.pointer (some ⟨b, 0, none⟩)), ?_, (by show WI (upd L 2 5) W'; rw [upd_other L (by decide)]; exact HI.out), withVal_next (withVal_same E 1 _ rfl) 2 _ rfl⟩
        kernel_rfl
      case o3 =>
        rintro L a' W' ⟨u, rfl, HI, E⟩ hL hd K hK
        have e2 : u 2 = .pointer (some ⟨b, 0, none⟩) := E.out 2 (hd 2 (List.elem_iff.1 (by kernel_rfl)))
        simp only [List.setIfInBounds_toArray, List.set_cons_zero, List.set_cons_succ, e2]
        refine ite_take rfl ?_
        clear hL hd
        go_simp
        refine hK _ _ ⟨withVal (withVal u 2 (.pointer (some ⟨b, 0, none⟩))) 3 (.pointer (some ⟨b, 2, none⟩)), ?_, (by show WI (upd L 3 5) W'; rw [upd_other L (by decide)]; exact HI.out), withVal_next (withVal_same E 2 _ rfl) 3 _ rfl⟩
        kernel_rfl
      case o4 =>
        rintro L a' W' ⟨u, rfl, HI, E⟩ hL hd K hK
        have e3 : u 3 = .pointer (some ⟨b, 2, none⟩) := E.out 3 (hd 3 (List.elem_iff.1 (by kernel_rfl)))
        have kk : W'.cell? ⟨b, 2, none⟩ = some (.int .i64 (l : Int)) := ((HWF.out _ _ HI.out).2.cell (p := ⟨b, 2, none⟩) hbl).trans b2
        simp only [List.setIfInBounds_toArray, List.set_cons_zero, List.set_cons_succ, e3]
        refine ite_take rfl ?_
        clear hL hd
        go_simp
        refine hK _ _ ⟨withVal (withVal u 3 (.pointer (some ⟨b, 2, none⟩))) 4 (.int .i64 (l : Int)), ?_, (by show WI (upd L 4 5) W'; rw [upd_other L (by decide)]; exact HI.out), withVal_next (withVal_same E 3 _ rfl) 4 _ rfl⟩
        kernel_rfl
      case o5 =>
        rintro L a' W' ⟨u, rfl, HI, E⟩ hL hd K hK
        have e0 : u 0 = .pointer (some ⟨b, 0, none⟩) := E.out 0 (hd 0 (List.elem_iff.1 (by kernel_rfl)))
        have e4 : u 4 = .int .i64 (l : Int) := E.out 4 (hd 4 (List.elem_iff.1 (by kernel_rfl)))
        rw [hL] at HI
        simp only [List.setIfInBounds_toArray, List.set_cons_zero, List.set_cons_succ, e0, e4]
        refine ite_take rfl ?_
        clear hL hd
        go_simp
        refine (fail_any _ l 200 _).mono ?_
        rintro e w3 ⟨rfl, rfl⟩
        have hkd : w3.heap[DD]? = some (.deferred (some [])) := ((HWF.out _ _ HI.out).2.block DD (lt_of_heap HK.out)).trans HK.out
        refine ⟨by simp, .inl ⟨_, _, rfl, run_takeDeferred hkd, ?_⟩⟩
        show SignE D b s p l LT w res _ _
        rw [HRn.out]
        exact ⟨rfl, (HB.out.trans ((HWF.out _ _ HI.out).2.mono (by have := HB.out.size; omega))).grown (grownBy_putObj' w3 DD _) (by have := HB.out.size; have := (HWF.out _ _ HI.out).2.size; omega) (fun g e => by cases e; omega)⟩
    case hdone =>
      rintro L a' W1 hall ⟨u, rfl, HI, E⟩
      exact absurd (HWF.out _ _ HI.out).1 (by rw [hall 5 (by decide)]; decide)
    -- ENDREG6
  case stop =>
    rintro DD c pre W hD9 hSp ⟨⟨rfl, x, pre', a1, a2, a3, v', hsc⟩, a5, c', a6⟩ hK
    have HRn : Hid (res = some x) := by
      show _ = _
      rw [HRes.out]
      rw [cut_signs, a1] at hSp
      exact find_some hSp a3 a2
    have HB := Lib.hid (HBD1.out.trans a5)
    have HS := Lib.hid hsc
    have HK := Lib.hid hK
    clear a5 a6 hsc hK k0 k1 k2 k3 kf kS
    gi_wp2
    refine ⟨by simp, .inl ⟨_, _, rfl, run_takeDeferred HK.out, ?_⟩⟩
    refine ⟨_, results_none rfl _ _ _, ?_⟩
    rw [HRn.out]
    exact ⟨rfl, ⟨v', HS.out.ownF (grownBy_putObj' W DD _) (fun r e => by cases e; exact ⟨_, HK.out, rfl⟩)⟩, HB.out.grown (grownBy_putObj' W DD _) (by have := HB.out.size; omega) (fun g e => by cases e; omega)⟩
end Go.Proofs.YtkaelmbgfcehhaaDoor
