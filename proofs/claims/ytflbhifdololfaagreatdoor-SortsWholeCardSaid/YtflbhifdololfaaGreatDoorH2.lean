/- sorts.line, a heap of numbers: its five methods. -/
import Derived.Test.YtflbhifdololfaaGreatDoorH1
import Derived.StillTailTactics
import Derived.BigQuiet
import Derived.BigRegion
import Derived.OneCell
import Derived.Outline
import Derived.Deep.RegionLaw
import Derived.Deep.AppendLies
import Derived.Lib.Hide
namespace Go.Proofs.YtflbhifdololfaaGreatDoor
open Go.RowKit
set_option linter.unusedVariables false

theorem Apart.ofGrown {w w' : World} {row : Option Nat} (h : w.grownBy w' row) : Apart row.toList w w' := ⟨h.os, h.tape, h.output, h.size, fun k hk hn => h.block k hk (fun e => hn (by simp [← e]))⟩
def cellsH (L : List Nat) : List Value := L.map fun x : Nat => Value.int .i64 (x : Int)
theorem cellsI_len (L : List Nat) : (cellsH L).length = L.length := by simp [cellsH]
theorem infoH : (Tryz.prog.info? 3).map (fun i => (i.zero, i.size, i.bytes)) = some (some (.int .i64 0), 1, 8) := by kernel_rfl
theorem undH : Tryz.prog.underlying 58 = some (.slice 3) := by kernel_rfl
@[go_sem] theorem run_ta (v : Int) (w : World) : (Instr.typeAssert (.iface 3 (.int .i64 v)) 20 3 false).run Tryz.prog w = .ok (.int .i64 v) w := by kernel_rfl
/-- a heap in block b: its row, its order -/
structure HAt (w : World) (b : Nat) (lv fv : Value) (f : H.Row) (n : Nat) : Prop where
  line : w.heap[b]? = some (.cells #[lv, fv] 120 (0, 0))
  row : w.ownsRow (b + 1) 3 1 lv n (cellsH (H.lst f n))
theorem HAt.lt {w : World} {b : Nat} {lv fv : Value} {f : H.Row} {n : Nat} (h : HAt w b lv fv f n) : b < w.heap.size := lt_of_heap h.line
theorem HAt.c0 {w : World} {b : Nat} {lv fv : Value} {f : H.Row} {n : Nat} (h : HAt w b lv fv f n) : w.cell? ⟨b, 0, none⟩ = some lv := by rw [Lib.cell_of_heap h.line]; rfl
theorem HAt.c1 {w : World} {b : Nat} {lv fv : Value} {f : H.Row} {n : Nat} (h : HAt w b lv fv f n) : w.cell? ⟨b, 1, none⟩ = some fv := by rw [Lib.cell_of_heap h.line]; rfl
theorem HAt.fz {w : World} {b : Nat} {lv fv : Value} {f : H.Row} {n : Nat} (h : HAt w b lv fv f n) (j : Nat) : w.frozen? ⟨b, j, none⟩ = false := Lib.frozen_of_heap h.line j
theorem HAt.form {w : World} {b : Nat} {lv fv : Value} {f : H.Row} {n : Nat} (h : HAt w b lv fv f n) (hn : 0 < n) : ∃ g cap, lv = .slice (some ⟨g, 0, none⟩) n cap ∧ b + 1 ≤ g ∧ g < w.heap.size ∧ n ≤ cap ∧ cap ≤ maxLen ∧ ∀ j, w.frozen? ⟨g, j, none⟩ = false := by
  rcases h.row.2 with ⟨_, h3⟩ | ⟨g1, cap1, cur, h3, hb, hgg, hc, hm, hs, ht⟩
  · omega
  · exact ⟨g1, cap1, h3, hb, lt_of_heap hgg, hc, hm, Lib.frozen_of_heap hgg⟩
theorem HAt.slice {w : World} {b : Nat} {lv fv : Value} {f : H.Row} {n : Nat} (h : HAt w b lv fv f n) : ∃ a c, lv = .slice a n c := by
  rcases h.row.2 with ⟨rfl, h0⟩ | ⟨g, cap, cur, rfl, _⟩
  · exact ⟨none, 0, by rw [h0]⟩
  · exact ⟨_, _, rfl⟩
theorem HAt.cell {w : World} {b g n cap : Nat} {fv : Value} {f : H.Row} (h : HAt w b (.slice (some ⟨g, 0, none⟩) n cap) fv f n) {j : Nat} (hj : j < n) : w.cell? ⟨g, j, none⟩ = some (.int .i64 (f j : Int)) := by
  have hcell := h.row.cells (g := g) rfl j (.int .i64 (f j : Int)) (by simp [cellsH, H.lst, hj])
  rw [Addr.add_lit, Nat.zero_add] at hcell
  exact hcell
theorem HAt.keep {w w' : World} {b : Nat} {lv fv : Value} {f : H.Row} {n : Nat} (h : HAt w b lv fv f n) (hk : ∀ x, x = b ∨ lv.ownBlock = some x → w'.heap[x]? = w.heap[x]?) : HAt w' b lv fv f n := by
  refine ⟨(hk b (.inl rfl)).trans h.line, h.row.1, ?_⟩
  rcases h.row.2 with hn | ⟨g, cap, cur, rfl, hb, hgg, rest⟩
  · exact .inl hn
  · exact .inr ⟨g, cap, cur, rfl, hb, (hk g (.inr rfl)).trans hgg, rest⟩
theorem HAt.below {w w' : World} {b : Nat} {lv fv : Value} {f : H.Row} {n : Nat} (h : HAt w b lv fv f n) (hb : Below w.heap.size w w') : HAt w' b lv fv f n :=
  h.keep fun x hx => hb.block x (by
    rcases hx with rfl | hx
    · exact h.lt
    · exact (h.row.lt x hx).2)
theorem HAt.drew {w : World} {b : Nat} {lv fv : Value} {f : H.Row} {n : Nat} (h : HAt w b lv fv f n) : HAt w.drew b lv fv f n := h.keep fun _ _ => rfl
/-- two numbers change places -/
theorem HAt.swap {w : World} {b g n cap i j : Nat} {fv : Value} {f : H.Row} (h : HAt w b (.slice (some ⟨g, 0, none⟩) n cap) fv f n) (hi : i < n) (hj : j < n) :
    HAt ((w.setCell ⟨g, i, none⟩ (.int .i64 (f j : Int))).setCell ⟨g, j, none⟩ (.int .i64 (f i : Int))) b (.slice (some ⟨g, 0, none⟩) n cap) fv (H.swp f i j) n := by
  obtain ⟨hl, h2⟩ := h.row
  rcases h2 with ⟨h3, _⟩ | ⟨g1, cap1, cur, h3, hb, hgg, hc, hm, hs, ht⟩
  · cases h3
  · injection h3 with h4 h5 h6
    injection h4 with h4
    injection h4 with h7
    subst h7; subst h6
    have hgb : b ≠ g := by omega
    have e1 := setCell_heap_same hgg i (.int .i64 (f j : Int))
    have e2 := setCell_heap_same e1 j (.int .i64 (f i : Int))
    refine ⟨?_, by simp [cellsH, H.lst], .inr ⟨g, cap, _, rfl, hb, e2, hc, hm, by simpa using hs, ?_⟩⟩
    · rw [Below.heap_setCell _ _ _ _ hgb, Below.heap_setCell _ _ _ _ hgb]; exact h.line
    · apply List.ext_getElem?
      intro k
      have hcur : ∀ k, k < n → cur.toList[k]? = some (.int .i64 (f k : Int)) := by
        intro k hk
        have := congrArg (·[k]?) ht
        simp only [List.getElem?_take, Nat.mul_one, hk, if_true] at this
        rw [this]; simp [cellsH, H.lst, hk]
      by_cases hk : k < n
      · have hsz : n ≤ cur.size := by omega
        simp only [List.getElem?_take, Nat.mul_one, hk, if_true]
        simp only [cellsH, List.getElem?_map, H.lst_get _ _ _ hk]
        rw [Array.getElem?_toList, Array.getElem?_setIfInBounds, Array.size_setIfInBounds, Array.getElem?_setIfInBounds]
        unfold H.swp
        by_cases e3 : j = k
        · subst e3
          rw [if_pos rfl, if_pos (by omega)]
          by_cases e4 : j = i
          · subst e4; simp
          · simp [e4]
        · rw [if_neg e3]
          by_cases e4 : i = k
          · subst e4; rw [if_pos rfl, if_pos (by omega)]; simp
          · rw [if_neg e4]
            have := hcur k hk
            rw [Array.getElem?_toList] at this
            rw [this]
            have e5 : ¬ k = j := fun e => e3 e.symm
            have e6 : ¬ k = i := fun e => e4 e.symm
            simp [e5, e6]
      · rw [List.getElem?_eq_none (by simp; omega), List.getElem?_eq_none (by simp [cellsH, H.lst]; omega)]
theorem Apart.two {w : World} {g i j : Nat} {u v : Value} : Apart [g] w ((w.setCell ⟨g, i, none⟩ u).setCell ⟨g, j, none⟩ v) := ((Apart.refl [g] w).setCell ⟨g, i, none⟩ (.inl (by simp)) u).setCell ⟨g, j, none⟩ (.inl (by simp)) v

theorem hLen_any {w : World} {b : Nat} {lv fv : Value} {f : H.Row} {n : Nat} (h : HAt w b lv fv f n) : Calls Tryz.prog 61 #[.pointer (some ⟨b, 0, none⟩)] w fun e w' => e = .returned (.int .i64 (n : Int)) ∧ w' = w := by
  obtain ⟨a, c, rfl⟩ := h.slice
  have c0 := h.c0
  clear h
  go_enter Tryz.func61, Tryz.ntmps61
  go_wp2_with fail
  go_ret
  exact ⟨rfl, rfl⟩
set_option maxHeartbeats 4000000 in
set_option maxRecDepth 100000 in
theorem hSwap_any {w : World} {b g n cap i j : Nat} {fv : Value} {f : H.Row} (h : HAt w b (.slice (some ⟨g, 0, none⟩) n cap) fv f n) (hi : i < n) (hj : j < n) (hn : n ≤ 1000000) :
    Calls Tryz.prog 269 #[.pointer (some ⟨b, 0, none⟩), .int .i64 (i : Int), .int .i64 (j : Int)] w fun e w' => e = .returned (.tuple #[]) ∧ HAt w' b (.slice (some ⟨g, 0, none⟩) n cap) fv (H.swp f i j) n ∧ Apart [g] w w' := by
  have c0 := h.c0
  have ci := h.cell hi
  have cj := h.cell hj
  obtain ⟨g', cap', e, _, _, _, _, hfz⟩ := h.form (by omega)
  injection e with e e1 e2
  injection e with e; injection e with e
  subst e; subst e2
  have hb : b < w.heap.size := h.lt
  have hiI : (i : Int) < (n : Int) := by omega
  have hjI : (j : Int) < (n : Int) := by omega
  have HS := Lib.hid (h.swap hi hj)
  obtain ⟨x, hx⟩ : ∃ x : Int, x = (f i : Int) := ⟨_, rfl⟩
  by_cases hij : i = j
  · subst hij
    rw [← hx] at ci HS
    clear hx h cj
    go_enter Tryz.func269, Tryz.ntmps269
    go_wp2_with fail
    go_region
    all_goals (try go_wp2_with fail)
    all_goals go_end0
    all_goals exact ⟨rfl, HS.out.drew, Apart.two.drew⟩
  · obtain ⟨y, hy⟩ : ∃ y : Int, y = (f j : Int) := ⟨_, rfl⟩
    rw [← hx] at ci HS
    rw [← hy] at cj HS
    clear hx hy h
    go_enter Tryz.func269, Tryz.ntmps269
    go_wp2_with fail
    go_region
    all_goals (try go_wp2_with fail)
    all_goals go_end0
    all_goals exact ⟨rfl, HS.out.drew, Apart.two.drew⟩
/-- what tells which of two comes ahead: a function value, in any memory that keeps what lies below b -/
def LtOk (w0 : World) (b : Nat) (g : Nat) (caps : Array Value) (lt : Nat → Nat → Bool) (N : Nat) : Prop :=
  ∀ W, Below b w0 W → ∀ x y, x < N → y < N → Calls Tryz.prog g (#[.int .i64 (x : Int), .int .i64 (y : Int)] ++ caps) W fun e w' => e = .returned (.bool (lt x y)) ∧ Below W.heap.size W w'
set_option maxHeartbeats 4000000 in
set_option maxRecDepth 100000 in
theorem hLess_any {w0 w : World} {b g n cap i j N gf : Nat} {c0 c1 c2 c3 : Value} {lt : Nat → Nat → Bool} {f : H.Row} (hL : LtOk w0 b gf #[c0, c1, c2, c3] lt N) (hb0 : Below b w0 w) (h : HAt w b (.slice (some ⟨g, 0, none⟩) n cap) (.func (.func gf) #[] #[c0, c1, c2, c3]) f n) (hP : H.All (· < N) f n) (hi : i < n) (hj : j < n) (hn : n ≤ 1000000) (eg : ∀ args w, (callFunc gf args).run Tryz.prog w = .ok (.enter gf args) w) :
    Calls Tryz.prog 266 #[.pointer (some ⟨b, 0, none⟩), .int .i64 (i : Int), .int .i64 (j : Int)] w fun e w' => e = .returned (.bool (lt (f i) (f j))) ∧ Below w.heap.size w w' := by
  have k0 := h.c0
  have k1 := h.c1
  have ci := h.cell hi
  have cj := h.cell hj
  have hiI : (i : Int) < (n : Int) := by omega
  have hjI : (j : Int) < (n : Int) := by omega
  have HC := Lib.hid (hL w.drew hb0.drew (f i) (f j) (hP i hi) (hP j hj))
  obtain ⟨r, hr⟩ : ∃ r, r = lt (f i) (f j) := ⟨_, rfl⟩
  rw [← hr] at HC ⊢
  obtain ⟨x, hx⟩ : ∃ x : Int, x = (f i : Int) := ⟨_, rfl⟩
  obtain ⟨y, hy⟩ : ∃ y : Int, y = (f j : Int) := ⟨_, rfl⟩
  rw [← hx] at ci HC
  rw [← hy] at cj HC
  clear hx hy h hr hP hL hb0
  go_enter Tryz.func266, Tryz.ntmps266
  go_wp2_with fail
  go_still_tail 18, (by kernel_rfl)
  go_wp2_with fail
  refine HC.out.mono ?_
  rintro e w1 ⟨rfl, hb⟩
  have HB := Lib.hid hb
  clear hb HC
  go_wp2_with fail
  go_ret
  exact ⟨rfl, (Below.refl _ _).drew.trans HB.out⟩
theorem HAt.pushed {w w' : World} {b n x g cap m : Nat} {lv fv : Value} {f : H.Row} (h : HAt w b lv fv f n) (hown : w'.ownsRow (b + 1) 3 1 (.slice (some ⟨g, 0, none⟩) m cap) (n + 1) (cellsH (H.lst f n) ++ [.int .i64 (x : Int)])) (hg : w.grownBy w' lv.ownBlock) :
    HAt (w'.setCell ⟨b, 0, none⟩ (.slice (some ⟨g, 0, none⟩) m cap)) b (.slice (some ⟨g, 0, none⟩) m cap) fv (fun k => if k = n then x else f k) (n + 1) := by
  have hb : w'.heap[b]? = some (.cells #[lv, fv] 120 (0, 0)) := (hg.block b h.lt (fun e => by have := (h.row.lt b e.symm).1; omega)).trans h.line
  have hgb : g ≠ b := by have := (hown.lt g rfl).1; omega
  refine ⟨setCell_heap_same hb 0 _, ?_⟩
  have e : cellsH (H.lst (fun k => if k = n then x else f k) (n + 1)) = cellsH (H.lst f n) ++ [.int .i64 (x : Int)] := by
    rw [H.lst_succ]
    simp only [cellsH, List.map_append, List.map_cons, List.map_nil, if_true]
    rw [H.lst_congr (f := fun k => if k = n then x else f k) (g := f) (fun k hk => if_neg (by omega))]
  rw [e]
  refine ⟨hown.1, ?_⟩
  rcases hown.2 with ⟨h1, _⟩ | ⟨g1, cap1, cur, h3, hb1, hgg, rest⟩
  · cases h1
  · injection h3 with h4 h5 h6
    injection h4 with h4
    injection h4 with h7
    subst h7
    exact .inr ⟨g, cap1, cur, by rw [h5, h6], hb1, (Below.heap_setCell _ _ _ _ hgb).trans hgg, rest⟩
set_option maxHeartbeats 4000000 in
set_option maxRecDepth 100000 in
theorem hPush_any {w : World} {b n x : Nat} {lv fv : Value} {f : H.Row} (h : HAt w b lv fv f n) (hn : n ≤ 1000000) :
    Calls Tryz.prog 268 #[.pointer (some ⟨b, 0, none⟩), .iface 3 (.int .i64 (x : Int))] w fun e w' => e = .returned (.tuple #[]) ∧ ∃ g cap, HAt w' b (.slice (some ⟨g, 0, none⟩) (n + 1) cap) fv (fun k => if k = n then x else f k) (n + 1) ∧ Apart (b :: lv.ownBlock.toList) w w' ∧ (lv.ownBlock = some g ∨ w.heap.size ≤ g) := by
  have hb := h.lt
  have k0 := h.c0
  have kf := h.fz 0
  obtain ⟨la, lc, hlv⟩ := h.slice
  have HH := Lib.hid h
  have HA : Hid (HAt ((w.alloc (.cells #[.int .i64 (x : Int)] 3)).drew) b lv fv f n) := h.below ((Below.refl _ _).alloc (Nat.le_refl _) _).drew
  obtain ⟨i0, hi, hz0, hz1, hz2⟩ := info_parts infoH
  have HI := Lib.hid hi
  have HZ0 := Lib.hid hz0
  have HZ1 := Lib.hid hz1
  have HZ2 := Lib.hid hz2
  subst hlv
  clear hi hz0 hz1 hz2 h
  go_enter Tryz.func268, Tryz.ntmps268
  go_wp2_with fail
  go_region_law (refine step_append_lies _ rfl (.tmp 8) (.tmp 11) 58 rfl (b + 1) 3 i0 (.int .i64 0) 1 8 undH HI.out HZ0.out HZ1.out HZ2.out rfl (by decide) (.slice la n lc) n (cellsH (H.lst f n)) (by simp [Act.eval]) HA.out.row ⟨w.heap.size, 0, none⟩ 1 1 [.int .i64 (x : Int)] (by simp [Act.eval]) rfl (World.news_of_block (heap_alloc_at w (.cells #[.int .i64 (x : Int)] 3))) (by simp [Value.oneCell']) (by decide) (by unfold maxLen; omega) (by omega) (by show b + 1 ≤ (w.alloc _).heap.size; simp; omega) _ rfl ?_; intro g cap w4 hown hgrow hat hlt4; have HP := Lib.hid (HA.out.pushed hown hgrow); have d0 : w4.cell? ⟨b, 0, none⟩ = some (.slice la n lc) := (hgrow.cell_far ⟨b, 0, none⟩ HA.out.lt (fun e => by have := (HA.out.row.lt b e.symm).1; omega)).trans HA.out.c0; have f0 : w4.frozen? ⟨b, 0, none⟩ = false := (hgrow.frozen_far ⟨b, 0, none⟩ HA.out.lt (fun e => by have := (HA.out.row.lt b e.symm).1; omega)).trans (HA.out.fz 0); have HGR := Lib.hid hgrow; have HAT := Lib.hid hat; clear hown hgrow hat hlt4)
  all_goals (try go_wp2_with fail)
  all_goals go_end0
  all_goals refine ⟨rfl, g, cap, HP.out, ?_, HAT.out.imp id fun h => by rw [h]; show w.heap.size ≤ (w.alloc _).heap.size; simp⟩
  all_goals exact (((((Apart.refl (b :: (Value.slice la n lc).ownBlock.toList) w).alloc _).drew).trans (Apart.ofGrown HGR.out) (fun y hy => .inl (List.mem_cons_of_mem _ hy)))).setCell ⟨b, 0, none⟩ (.inl (by simp)) _
set_option maxHeartbeats 4000000 in
set_option maxRecDepth 100000 in
theorem hPop_any {w : World} {b g n cap : Nat} {fv : Value} {f : H.Row} (h : HAt w b (.slice (some ⟨g, 0, none⟩) (n + 1) cap) fv f (n + 1)) (hn : n ≤ 1000000) :
    Calls Tryz.prog 267 #[.pointer (some ⟨b, 0, none⟩)] w fun e w' => e = .returned (.iface 3 (.int .i64 (f n : Int))) ∧ HAt w' b (.slice (some ⟨g, 0, none⟩) n cap) fv f n ∧ Apart [b] w w' := by
  have hb := h.lt
  have k0 := h.c0
  have kf := h.fz 0
  have cn := h.cell (Nat.lt_succ_self n)
  obtain ⟨g', cap', e, hbg, _, hc, hcm, hfz⟩ := h.form (by omega)
  injection e with e e1 e2
  injection e with e; injection e with e
  subst e; subst e2
  have hcI : (n : Int) ≤ (cap : Int) := by omega
  have HP : Hid (HAt ((w.setCell ⟨b, 0, none⟩ (.slice (some ⟨g, 0, none⟩) n cap))) b (.slice (some ⟨g, 0, none⟩) n cap) fv f n) := by
    refine ⟨setCell_heap_same h.line 0 _, ?_⟩
    obtain ⟨hl, h2⟩ := h.row
    rcases h2 with ⟨h3, _⟩ | ⟨g1, cap1, cur, h3, hb1, hgg, hc1, hm1, hs1, ht⟩
    · cases h3
    · injection h3 with h4 h5 h6
      injection h4 with h4
      injection h4 with h7
      subst h7; subst h6
      refine ⟨by simp [cellsH, H.lst], .inr ⟨g, cap, cur, rfl, hb1, (Below.heap_setCell _ _ _ _ (show g ≠ b by omega)).trans hgg, by omega, hm1, hs1, ?_⟩⟩
      have h9 : (cur.toList.take ((n + 1) * 1)).take (n * 1) = (cellsH (H.lst f (n + 1))).take n := by rw [ht]; simp
      rw [List.take_take, Nat.min_eq_left (by omega)] at h9
      rw [h9, H.lst_succ]
      simp [cellsH, H.lst]
  obtain ⟨y, hy⟩ : ∃ y : Int, y = (f n : Int) := ⟨_, rfl⟩
  rw [← hy] at cn ⊢
  clear hy h hfz
  go_enter Tryz.func267, Tryz.ntmps267
  go_wp2_with fail
  go_region
  all_goals go_wp2_with fail
  all_goals go_region
  all_goals go_wp2_with fail
  all_goals go_ret
  all_goals exact ⟨rfl, HP.out.drew.drew, (((Apart.refl [b] w).setCell ⟨b, 0, none⟩ (.inl (by simp)) _).drew).drew⟩
end Go.Proofs.YtflbhifdololfaaGreatDoor
