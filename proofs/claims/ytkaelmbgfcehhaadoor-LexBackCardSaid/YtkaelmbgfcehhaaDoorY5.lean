/- Package lex: divides. -/
import Derived.Test.YtkaelmbgfcehhaaDoorM4
import Derived.BigRegion
set_option linter.unusedVariables false
set_option linter.unusedSimpArgs false
namespace Go.Proofs.YtkaelmbgfcehhaaDoor
open Go.RowKit
set_option linter.unusedVariables false
set_option linter.unusedSimpArgs false

theorem bs_tl (a : List UInt8) : (bs a).toList = a := by
  rw [Lib.toList_data]
  simp [bs]
theorem OwnK.last {w : World} {base : Nat} {v : Value} {L : List TokT} {t : TokT} (h : OwnK w base v (L ++ [t])) : ∃ g cap, v = .slice (some ⟨g, 0, none⟩) (L.length + 1) cap ∧ g < w.heap.size ∧ (∀ j, j < 4 → w.cell? ⟨g, L.length * 4 + j, none⟩ = (tokC t)[j]?) := by
  rcases h.own.2 with ⟨_, h0⟩ | ⟨g, cap, cur, e, hb, hg, hl, hm, hs, ht⟩
  · simp at h0
  · refine ⟨g, cap, by rw [e, List.length_append]; rfl, lt_of_heap hg, fun j hj => ?_⟩
    rw [Lib.cell_of_heap hg]
    have e1 : (cur.toList.take ((L ++ [t]).length * 4))[L.length * 4 + j]? = (cellsK (L ++ [t]))[L.length * 4 + j]? := by rw [ht]
    rw [List.getElem?_take_of_lt (by simp; omega), cellsK_app, List.getElem?_append_right (by rw [cellsK_length]; omega), cellsK_length, cellsK_one] at e1
    simpa using e1
set_option maxRecDepth 100000 in
set_option maxHeartbeats 16000000 in
theorem divides_any (D b : Nat) (s : ByteArray) (p l : Nat) (v : Value) (LT : List TokT) (w : World) (h : Sc w D b s p l v LT) (hL : LT.length ≤ 1000000000) :
    Calls Tryd.prog 22 #[.pointer (some ⟨b, 0, none⟩)] w fun e w' => e = .returned (.bool (dividesT LT.getLast?)) ∧ Below w.heap.size w w' := by
  have c3 := h.c3
  rcases List.eq_nil_or_concat LT with rfl | ⟨LI, t, rfl⟩
  · obtain ⟨a1, n1, m1, hv⟩ := h.ownK.slice
    have hn : n1 = 0 := by
      have h1 := h.own.1
      rcases h.own.2 with ⟨e, _⟩ | ⟨g, cap, cur, e, _⟩
      · rw [hv] at e; cases e; rfl
      · rw [hv] at e; cases e; rfl
    subst hv hn
    clear h
    go_enter Tryd.func22, Tryd.ntmps22
    go_wp2_with fail
    go_ret
    exact ⟨rfl, Below.refl _ _⟩
  · rw [List.concat_eq_append] at *
    obtain ⟨g, cap, rfl, hgl, hc⟩ := h.ownK.last
    rw [List.getLast?_append, List.getLast?_singleton]
    obtain ⟨kd, tx, x, ln⟩ := t
    have d0 : w.cell? ⟨g, LI.length * 4, none⟩ = some (.int .i64 (kd : Int)) := hc 0 (by decide)
    have d1 : w.cell? ⟨g, LI.length * 4 + 1, none⟩ = some (.string (bs tx)) := hc 1 (by decide)
    have d2 : w.cell? ⟨g, LI.length * 4 + 2, none⟩ = some (.float .f64 x) := hc 2 (by decide)
    have d3 : w.cell? ⟨g, LI.length * 4 + 3, none⟩ = some (.int .i64 (ln : Int)) := hc 3 (by decide)
    have hk : LI.length ≤ 1000000000 := by simp at hL; omega
    generalize LI.length = k at *
    have hkI : (k : Int) ≤ 1000000000 := by omega
    have hkW := wrapN k (by omega)
    have hbl := h.lt
    clear hc h hL
    show Calls _ _ _ _ fun e w' => e = .returned (.bool (dividesT (some (kd, tx, x, ln)))) ∧ Below w.heap.size w w'
    generalize hr : dividesT (some (kd, tx, x, ln)) = r
    go_enter Tryd.func22, Tryd.ntmps22
    go_wp2_with fail
    go_region
    have HB : Hid (Below w.heap.size w (w.alloc (.cells #[.int .i64 (kd : Int), .string (bs tx), .float .f64 x, .int .i64 (ln : Int)] 32)).drew) := ((Below.refl _ _).alloc (Nat.le_refl _) _).drew
    have hkd : kd = 1 ∨ kd = 3 ∨ kd = 4 ∨ kd = 5 ∨ kd = 6 ∨ kd = 7 ∨ (kd ≠ 1 ∧ kd ≠ 3 ∧ kd ≠ 4 ∧ kd ≠ 5 ∧ kd ≠ 6 ∧ kd ≠ 7) := by omega
    have HR := Lib.hid hr
    clear hr c3 d0 d1 d2 d3
    rcases hkd with rfl | rfl | rfl | rfl | rfl | rfl | ⟨n1, n2, n3, n4, n5, n6⟩
    · go_wp2_with fail
      go_ret
      exact ⟨by rw [← HR.out]; rfl, HB.out⟩
    · go_wp2_with fail
      go_ret
      exact ⟨by rw [← HR.out]; rfl, HB.out⟩
    · go_wp2_with fail
      go_ret
      exact ⟨by rw [← HR.out]; rfl, HB.out⟩
    · go_wp2_with fail
      go_ret
      exact ⟨by rw [← HR.out]; rfl, HB.out⟩
    · have htl := bs_tl tx
      have hq : (tx == [108, 101, 110, 103, 116, 104]) = r := by rw [← HR.out]; simp [dividesT]
      go_wp2_with fail
      go_ret
      exact ⟨rfl, HB.out⟩
    · have htl := bs_tl tx
      have hq : ((tx == [41]) || (tx == [93]) || (tx == [43, 43]) || (tx == [45, 45])) = r := by rw [← HR.out]; simp [dividesT]
      by_cases e1 : tx = [41]
      · have hr1 : r = true := by rw [← hq, e1]; rfl
        subst hr1 e1
        clear hq
        go_wp2_with fail
        go_ret
        exact ⟨rfl, HB.out⟩
      by_cases e2 : tx = [93]
      · have hr1 : r = true := by rw [← hq, e2]; rfl
        subst hr1 e2
        clear hq e1
        go_wp2_with fail
        go_ret
        exact ⟨rfl, HB.out⟩
      by_cases e3 : tx = [43, 43]
      · have hr1 : r = true := by rw [← hq, e3]; rfl
        subst hr1 e3
        clear hq e1 e2
        go_wp2_with fail
        go_ret
        exact ⟨rfl, HB.out⟩
      · have hr1 : (tx == [45, 45]) = r := by rw [← hq, beq_eq_false_iff_ne.2 e1, beq_eq_false_iff_ne.2 e2, beq_eq_false_iff_ne.2 e3]; simp
        clear hq
        go_wp2_with fail
        go_ret
        exact ⟨by simp [e1, e2, e3], HB.out⟩
    · have m1 : ((kd : Int) == 1) = false := beq_eq_false_iff_ne.2 (by omega)
      have m2 : ((kd : Int) == 3) = false := beq_eq_false_iff_ne.2 (by omega)
      have m3 : ((kd : Int) == 4) = false := beq_eq_false_iff_ne.2 (by omega)
      have m4 : ((kd : Int) == 5) = false := beq_eq_false_iff_ne.2 (by omega)
      have m5 : ((kd : Int) == 6) = false := beq_eq_false_iff_ne.2 (by omega)
      have m6 : ((kd : Int) == 7) = false := beq_eq_false_iff_ne.2 (by omega)
      go_wp2_with fail
      go_ret
      refine ⟨?_, HB.out⟩
      rw [← HR.out]
      simp [dividesT, n1, n2, n3, n4, n5, n6]
end Go.Proofs.YtkaelmbgfcehhaaDoor
