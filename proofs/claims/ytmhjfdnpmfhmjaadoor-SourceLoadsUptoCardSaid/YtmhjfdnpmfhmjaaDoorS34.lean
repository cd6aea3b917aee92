/- thresherref19.Load, walked. -/
import Derived.Test.YtmhjfdnpmfhmjaaDoorS33
import Derived.Test.YtmhjfdnpmfhmjaaDoorS29
import Derived.Test.YtmhjfdnpmfhmjaaDoorS9
import Derived.Deep.LoopGhost
import Derived.Outline
namespace Go.Proofs.YtmhjfdnpmfhmjaaDoor
open Go.RowKit
set_option linter.unusedVariables false

/-- what the reference's Load answers -/
def Ref19R (w : World) (r : R) (e : Ending) (w' : World) : Prop := match r with
  | .ok s => ∃ lv, e = .returned (.tuple #[.string (B s.out), lv, .agg #[.string ⟨#[]⟩, .int .i64 0], .int .i64 0]) ∧ w'.ownsRow w.heap.size 29 2 lv s.lines.length (cellsP s.lines) ∧ Below w.heap.size w w'
  | .bad f m c => e = .returned (.tuple #[.string ⟨#[]⟩, .slice none 0 0, .agg #[.string (B f), .int .i64 (m : Int)], .int .i64 (c : Int)]) ∧ Below w.heap.size w w'

theorem ix_some {L : List (ByteArray × List ByteArray)} {x t : Str} (h : look (pairsF L) x = some t) : ∃ (i : Nat) (p : ByteArray × List ByteArray), L[i]? = some p ∧ ixR L x = (i : Int) ∧ joinB p.2 = t := by
  obtain ⟨i, q, h1, h2, h3, h4⟩ := look_some h
  unfold pairsF at h1
  rw [List.getElem?_map] at h1
  obtain ⟨p, hp, rfl⟩ := Option.map_eq_some_iff.1 h1
  refine ⟨i, p, hp, ixR_hit hp (by rw [beq_iff_eq]; exact h2) ?_, h3⟩
  intro j hj q hq
  have := h4 j hj (q.1.data.toList, joinB q.2) (by unfold pairsF; rw [List.getElem?_map, hq]; rfl)
  exact this
theorem ix_none {L : List (ByteArray × List ByteArray)} {x : Str} (h : look (pairsF L) x = none) : ixR L x = -1 := by
  refine ixR_miss fun j hj q hq => ?_
  cases hb : q.1.data.toList == x with
  | false => rfl
  | true =>
    exfalso
    unfold look pairsF at h
    rw [Option.map_eq_none_iff, List.find?_eq_none] at h
    exact h _ (List.mem_map_of_mem (List.mem_of_getElem? hq)) hb

set_option maxHeartbeats 16000000 in
set_option maxRecDepth 1000000 in
theorem Load19_any (text : ByteArray) (fv : Value) (Lf : List (ByteArray × List ByteArray)) (w : World) (hF : FilesR w fv Lf) (hz : text.size + sizeL Lf ≤ 1000000) (hzf : sizeF Lf ≤ 1100000) (hzl : Lf.length ≤ 1000000) :
    Calls Tryd.prog 10 #[.string text, fv] w (Ref19R w (loadF (look (pairsF Lf)) (Lf.length + 1) text.data.toList)) := by
  obtain ⟨R0, hR0⟩ : ∃ R0, R0 = loadF (look (pairsF Lf)) (Lf.length + 1) text.data.toList := ⟨_, rfl⟩
  obtain ⟨fa, fc, hfv⟩ : ∃ a c, fv = .slice a Lf.length c := by
    rcases hF with ⟨a, c, rfl, rfl⟩ | ⟨bk, o, c, rfl, _⟩
    · exact ⟨a, c, rfl⟩
    · exact ⟨_, c, rfl⟩
  subst hfv
  have HF := Lib.hid hF
  have HR0 := Lib.hid hR0
  obtain ⟨w0, hw0⟩ : ∃ w0, w0 = w.alloc (.cells #[.string ⟨#[]⟩, .int .i64 0] 29) := ⟨_, rfl⟩
  have HLi := Lib.hid (Lines_any text w0 (by omega))
  have HW0 := Lib.hid hw0
  rw [← hR0]
  clear hR0 hF
  have hbase : w0.heap.size = w.heap.size + 1 := by rw [hw0]; simp
  rw [hbase] at HLi
  subst hw0
  have HST := Lib.hid (fun w1 rv0 hb hown => LdR.start (w := w) (w1 := w1) (rv0 := rv0) (pairsF Lf) text.data.toList hb hown (by simp; omega))
  have hpl : (pairsF Lf).length = Lf.length := by simp [pairsF]
  rw [hpl, ← HR0.out] at HST
  have hfl := sizeL_le Lf
  have HPL := Lib.hid hpl
  clear hpl hbase
  go_enter Tryd.func10, Tryd.ntmps10
  go_wp2_with fail
  refine HLi.out.mono ?_
  rintro e w1 ⟨rv0, rfl, hown1, hb1⟩
  clear HLi
  have HL1 := Lib.hid (HST.out w1 rv0 hb1 hown1.own)
  obtain ⟨ra0, rc0, rfl, _⟩ := row_form hown1.own
  clear hown1 hb1
  go_wp2_with fail
  go_loopg [8, 9, 10, 11] (workF [⟨[], linesL text.data.toList, 0⟩] + unseen (pairsF Lf) []) (fun gk v8 v9 v10 v11 wr => ∃ (L : List (Fr × Value)) (s : LS), v8 = .string (B s.out) ∧ Hid (LdR w (pairsF Lf) R0 gk wr v9 v10 v11 L s))
  case atStart => exact ⟨_, _, rfl, HL1⟩
  case round =>
    obtain ⟨L, s, rfl, HR⟩ := hrel
    rcases List.eq_nil_or_concat L with rfl | ⟨M, ⟨f, rv⟩, rfl⟩
    · obtain ⟨sa, sc, rfl⟩ : ∃ a c, u10 = .slice a 0 c := by
        rcases HR.out.ld.stk.2 with ⟨rfl, _⟩ | ⟨g, cap, cur, rfl, _⟩
        · exact ⟨_, _, rfl⟩
        · exact ⟨_, _, rfl⟩
      have b0 : wr.cell? ⟨w.heap.size, 0, none⟩ = some (.string ⟨#[]⟩) := by rw [Lib.cell_of_heap HR.out.b6]; rfl
      have b1 : wr.cell? ⟨w.heap.size, 1, none⟩ = some (.int .i64 0) := by rw [Lib.cell_of_heap HR.out.b6]; rfl
      have bf : ∀ j, wr.frozen? ⟨w.heap.size, j, none⟩ = false := Lib.frozen_of_heap HR.out.b6
      have hres : R0 = .ok s := HR.out.res.symm
      obtain ⟨la, lc, rfl⟩ : ∃ a c, u9 = .slice a s.lines.length c := by
        rcases HR.out.ld.lin.2 with ⟨rfl, h0⟩ | ⟨g, cap, cur, rfl, _⟩
        · exact ⟨none, 0, by rw [h0]⟩
        · exact ⟨_, _, rfl⟩
      have HRes := Lib.hid hres
      clear hres
      go_wp2_with fail
      refine bodyPost_ret (v := .tuple #[.string (B s.out), .slice la s.lines.length lc, .agg #[.string ⟨#[]⟩, .int .i64 0], .int .i64 0]) (by simp [results, Tryd.results10, go_sem, b0, b1]) rfl ?_
      rw [HRes.out]
      refine ⟨_, rfl, ?_, ?_⟩
      · exact own_base (own_keep HR.out.ld.lin fun g hg => by
          have hne : g ≠ w.heap.size := by have := (HR.out.ld.lin.lt g hg).1; omega
          exact (Below.heap_setCell _ _ _ _ hne).trans (Below.heap_setCell _ _ _ _ hne)) (by omega)
      · exact (HR.out.below.setCell (p := ⟨w.heap.size, 0, none⟩) (Nat.le_refl _) _).setCell (p := ⟨w.heap.size, 1, none⟩) (Nat.le_refl _) _
    · rw [List.concat_eq_append] at HR
      obtain ⟨g, cap, hsv, hDg, hgl, hcap, hcm, hfz⟩ := HR.out.ld.form (by simp)
      obtain ⟨m, hm⟩ : ∃ m, m = M.length := ⟨_, rfl⟩
      have hlen : (M ++ [(f, rv)]).length = m + 1 := by rw [hm]; simp
      rw [hlen] at hsv hcap
      subst hsv
      have hdep := HR.out.depth
      rw [hlen, HPL.out] at hdep
      have hdn := HR.out.dnLen
      rw [HPL.out] at hdn
      have hpos := HR.out.pos (f, rv) (by simp)
      obtain ⟨ra, rc, hrv, hrl⟩ := row_form (HR.out.ld.rows (f, rv) (by simp))
      change rv = .slice ra f.all.length rc at hrv
      subst hrv
      obtain ⟨n, hn⟩ : ∃ n, n = f.all.length := ⟨_, rfl⟩
      obtain ⟨k, hk⟩ : ∃ k, k = f.pos := ⟨_, rfl⟩
      obtain ⟨c0, c1, c2⟩ := HR.out.ld.cells rfl (j := m) (p := (f, .slice ra f.all.length rc)) (by rw [hm]; simp)
      change wr.cell? _ = some (.string (B f.name)) at c0
      change wr.cell? _ = some (.slice ra f.all.length rc) at c1
      change wr.cell? _ = some (.int .i64 (f.pos : Int)) at c2
      obtain ⟨hp1, hp2, hp3⟩ := hpos
      change f.pos ≤ f.all.length at hp1
      change f.all.length ≤ 1000001 at hp2
      rw [← hn] at c1 hp1 hp2 HR
      rw [← hk] at c2 hp1
      have HP3 := Lib.hid hp3
      have HK := Lib.hid hk
      have HN := Lib.hid hn
      have HM := Lib.hid hm
      have hmB : m ≤ 1000000 := by omega
      clear hk hn hm hlen hp3 hrl
      by_cases hkn : k = n
      · subst hkn
        by_cases hm0 : m = 0
        · subst hm0
          simp only [Nat.zero_mul, Nat.zero_add] at c0 c1 c2
          have hM0 : M = [] := List.eq_nil_of_length_eq_zero HM.out.symm
          have HX : Hid (R0 = .ok s ∧ ∃ k, k < gk ∧ LdR w (pairsF Lf) R0 k wr u9 (.slice (some ⟨g, 0, none⟩) 0 cap) u11 [] s) := by
            subst hM0
            exact HR.out.last (by rw [← HK.out, ← HN.out])
          obtain ⟨_, gk', hgk, hR2⟩ := HX.out
          have HR2 := Lib.hid (hR2.world (Below.refl _ _).drew)
          clear hM0 hR2
          go_wp2_with fail
          go_region
          go_wp2_with fail
          go_roundg gk'
          case measure => exact hgk
          case rel => exact ⟨_, _, rfl, HR2⟩
        · have hm0I : 1 ≤ (m : Int) := by omega
          have hMne : M ≠ [] := by intro e; rw [e] at HM; exact hm0 HM.out
          obtain ⟨W, hW⟩ : ∃ W, W = (wr.alloc (.cells #[.string (B f.name)] 9)).drew := ⟨_, rfl⟩
          have HRW : Hid (LdR w (pairsF Lf) R0 gk W u9 (.slice (some ⟨g, 0, none⟩) (m + 1) cap) u11 (M ++ [(f, .slice ra k rc)]) s) := by
            rw [hW]; exact HR.out.world ((Below.refl _ _).alloc (Nat.le_refl _) _).drew
          obtain ⟨i0, hi, hz0, hz1', hz2⟩ := info_parts infoT
          have HMn := Lib.hid hMne
          have hWz : W.heap.size = wr.heap.size + 1 := by rw [hW]; show (wr.alloc _).heap.size = _; simp
          have hwz := HRW.out.size
          subst hW
          clear hMne hm0
          go_wp2_with fail
          go_region
          go_wp2_with (at_builtin; go_loud (refine wpList_append_lies _ rfl _ _ 38 rfl (w.heap.size + 1) 9 i0 (.string .empty) 1 16 undT hi hz0 hz1' hz2 rfl (by decide) u11 s.dn.length (cellsT s.dn) rfl HRW.out.ld.dn ⟨wr.heap.size, 0, none⟩ 1 1 [.string (B f.name)] rfl rfl (World.news_of_block (heap_alloc_at wr (.cells #[.string (B f.name)] 9))) (by simp [Value.oneCell']) (by decide) (by unfold maxLen; omega) (by omega) hwz _ rfl ?_))
          intro g2 cap2 w3 hown hgrow hat hlt3
          obtain ⟨gk', hgk, hR2⟩ := HRW.out.done HM.out.symm HMn.out (by rw [← HK.out, ← HN.out]) hown hgrow (hat.imp id fun h => by rw [h]; exact Nat.le_of_eq (by show (wr.alloc _).heap.size = _; simp))
          have HR2 := Lib.hid hR2
          clear hown hgrow hat hR2
          go_wp2_with fail
          go_roundg gk'
          case measure => exact hgk
          case rel => exact ⟨M, { s with opn := s.opn.dropLast, dn := s.dn ++ [f.name] }, rfl, HR2⟩
      · have hknI : ((k : Int) == (n : Int)) = false := beq_eq_false_iff_ne.2 (by omega)
        have hkltI : (k : Int) < (n : Int) := by omega
        obtain ⟨l, hl⟩ : ∃ l, f.all[f.pos]? = some l := ⟨_, List.getElem?_eq_getElem (by rw [← HK.out, ← HN.out]; omega)⟩
        obtain ⟨gl, cl, hgl2, hgl3, hcl⟩ := row_at (HR.out.ld.rows (f, .slice ra n rc) (by simp)) hl
        change Value.slice ra n rc = _ at hgl2
        injection hgl2 with h1 h2 h3
        subst h1
        rw [← HK.out] at hcl
        obtain ⟨k1, hk1⟩ : ∃ k1, k1 = k + 1 := ⟨_, rfl⟩
        have hk1I : (k : Int) + 1 = (k1 : Int) := by omega
        have HK1 := Lib.hid hk1
        have HL := Lib.hid hl
        have hk1B : k1 ≤ 1000001 := by omega
        clear h2 h3 hl hk1 hkn
        have HFn : Hid (f.pos < f.all.length) := by show _ < _; rw [← HK.out, ← HN.out]; omega
        have HK1f : Hid (k1 = f.pos + 1) := by show _ = _; rw [HK1.out, HK.out]
        have HMid := Lib.hid (HR.out.mid (m := m) (k1 := k1) HM.out HK1f.out hDg)
        have hfz2 : ∀ j, (wr.setCell ⟨g, m * 3 + 2, none⟩ (.int .i64 (k1 : Int))).frozen? ⟨g, j, none⟩ = false := fun j => by
          obtain ⟨g', _, e, _, _, _, _, hf⟩ := HMid.out.ld.form (by simp)
          injection e with e; injection e with e; injection e with e; subst e
          exact hf j
        go_wp2_with fail
        go_region
        go_wp2_with fail
        go_region
        go_wp2_with fail
        obtain ⟨w2, hw2⟩ : ∃ w2, w2 = (wr.setCell ⟨g, m * 3 + 2, none⟩ (.int .i64 (k1 : Int))).drew.drew := ⟨_, rfl⟩
        have HMid2 : Hid (LdM w w2 u9 (.slice (some ⟨g, 0, none⟩) (m + 1) cap) u11 (M ++ [(f.next, .slice (some ⟨gl, 0, none⟩) n rc)]) s.lines s.dn) := by rw [hw2]; exact HMid.out.world (Below.refl _ _).drew.drew
        rw [← hw2]
        obtain ⟨d0, _, d2⟩ := HMid2.out.ld.cells rfl (j := m) (p := (f.next, .slice (some ⟨gl, 0, none⟩) n rc)) (by rw [HM.out]; simp)
        change w2.cell? _ = some (.string (B f.name)) at d0
        change w2.cell? _ = some (.int .i64 ((f.pos + 1 : Nat) : Int)) at d2
        rw [← HK1f.out] at d2
        have hfz3 : ∀ j, w2.frozen? ⟨g, j, none⟩ = false := by rw [hw2]; exact hfz2
        clear c0 c1 c2 hfz hfz2 HMid hcl hw2
        have hg5 : g < w2.heap.size := by
          obtain ⟨g', _, e, _, hlt, _, _, _⟩ := HMid2.out.ld.form (by simp)
          injection e with e; injection e with e; injection e with e; subst e
          exact hlt
        go_region
        go_wp2_with fail
        obtain ⟨w3, hw3⟩ : ∃ w3, w3 = (w2.alloc (.cells #[.string (B f.name), .int .i64 (k1 : Int)] 29)).drew := ⟨_, rfl⟩
        have hz3 : w3.heap.size = w2.heap.size + 1 := by rw [hw3]; show (w2.alloc _).heap.size = _; simp
        have HMid3 : Hid (LdM w w3 u9 (.slice (some ⟨g, 0, none⟩) (m + 1) cap) u11 (M ++ [(f.next, .slice (some ⟨gl, 0, none⟩) n rc)]) s.lines s.dn) := by rw [hw3]; exact HMid2.out.world ((Below.refl _ _).alloc (Nat.le_refl _) _).drew
        have hp3 : w3.heap[w2.heap.size]? = some (.cells #[.string (B f.name), .int .i64 (k1 : Int)] 29 (0, 0)) := by rw [hw3]; exact heap_alloc_at w2 _
        rw [← hw3]
        clear hw3 d0 d2 hfz3 hg5
        have hlB : (B l).size ≤ 1000000 := by rw [B_size]; exact HP3.out l (List.mem_of_getElem? HL.out)
        have HDi := Lib.hid (fun W => directive19_any (B l) W hlB)
        rw [B_list] at HDi
        have hb6' : w.heap.size ≠ w2.heap.size := by have := HMid2.out.size; omega
        have HAll : Hid (∀ w4, Below w3.heap.size w3 w4 → LdM w w4 u9 (.slice (some ⟨g, 0, none⟩) (m + 1) cap) u11 (M ++ [(f.next, .slice (some ⟨gl, 0, none⟩) n rc)]) s.lines s.dn ∧
            w4.cell? ⟨w2.heap.size, 0, none⟩ = some (.string (B f.name)) ∧ w4.cell? ⟨w2.heap.size, 1, none⟩ = some (.int .i64 (k1 : Int)) ∧ (∀ j, w4.frozen? ⟨w2.heap.size, j, none⟩ = false) ∧
            w4.cell? ⟨w.heap.size, 0, none⟩ = some (.string ⟨#[]⟩) ∧ w4.cell? ⟨w.heap.size, 1, none⟩ = some (.int .i64 0) ∧ (∀ j, w4.frozen? ⟨w.heap.size, j, none⟩ = false)) := by
          intro w4 hb4
          have hM4 := HMid3.out.world hb4
          have hp4 := (hb4.block w2.heap.size (by omega)).trans hp3
          exact ⟨hM4, (by rw [Lib.cell_of_heap hp4]; rfl), (by rw [Lib.cell_of_heap hp4]; rfl), Lib.frozen_of_heap hp4, (by rw [Lib.cell_of_heap hM4.b6]; rfl), (by rw [Lib.cell_of_heap hM4.b6]; rfl), Lib.frozen_of_heap hM4.b6⟩
        have hbig := HMid3.out.size
        have HFR : Hid (frs (M ++ [(f, .slice (some ⟨gl, 0, none⟩) n rc)]) = f :: frs M) := frs_snoc _ _
        have HR0e : Hid (R0 = resume (look (pairsF Lf)) (Lf.length + 1) (f :: frs M) s) := by
          have := HR.out.res
          rw [HFR.out, HPL.out] at this
          exact this.symm
        rcases refD_cases l with h0 | h1 | ⟨x, h2⟩
        · rw [h0] at HDi
          have hpl := resume_plain (F := look (pairsF Lf)) (n := Lf.length + 1) (rest := frs M) (s := s) HL.out h0
          rw [← HR0e.out, ← HK1f.out] at hpl
          have HPln := Lib.hid hpl
          clear h0 hpl
          refine (HDi.out _).mono ?_
          rintro e w4 ⟨rfl, hb4⟩
          obtain ⟨hM4, p0, p1, pf, b0, b1, bf⟩ := HAll.out w4 hb4
          have HMid4 := Lib.hid hM4
          have hz4 := hb4.size
          clear hM4 hb4 HDi HAll
          have hso : (B s.out).size ≤ 8192 := by rw [B_size]; exact HR.out.inv.out
          have hsl : s.lines.length ≤ 8192 := Nat.le_trans HR.out.inv.lines HR.out.inv.out
          by_cases hbl : 8192 < (B s.out).size + (B l).size + 1
          · have hblI : (8192 : Int) < ((B s.out).size : Int) + ((B l).size : Int) + 1 := by omega
            have HRR : Hid (R0 = .bad f.name k1 3) := by
              show _ = _
              rw [HPln.out, if_pos]
              rw [B_size, B_size] at hbl; exact hbl
            clear hbl
            go_wp2_with fail
            go_region
            go_wp2_with fail
            refine bodyPost_ret (v := .tuple #[.string ⟨#[]⟩, .slice none 0 0, .agg #[.string (B f.name), .int .i64 (k1 : Int)], .int .i64 3]) (by simp [results, Tryd.results10, go_sem, b0, b1]) rfl ?_
            rw [HRR.out]
            exact ⟨rfl, ((HMid4.out.below.setCell (p := ⟨w.heap.size, 0, none⟩) (Nat.le_refl _) _).setCell (p := ⟨w.heap.size, 1, none⟩) (Nat.le_refl _) _).drew⟩
          · have hblI : ((B s.out).size : Int) + ((B l).size : Int) + 1 ≤ 8192 := by omega
            have hbl2 : ¬ 8192 < s.out.length + l.length + 1 := by rw [B_size, B_size] at hbl; exact hbl
            have hpl := HPln.out
            rw [if_neg hbl2] at hpl
            have HPl2 := Lib.hid hpl
            have HB2 := Lib.hid hbl2
            clear hbl hbl2 hpl
            obtain ⟨i0, hi, hz0, hz1', hz2⟩ := info_parts infoP
            have HMidA : Hid (LdM w (w4.alloc (.cells #[.string (B f.name), .int .i64 (k1 : Int)] 29)) u9 (.slice (some ⟨g, 0, none⟩) (m + 1) cap) u11 (M ++ [(f.next, .slice (some ⟨gl, 0, none⟩) n rc)]) s.lines s.dn) := HMid4.out.world ((Below.refl _ _).alloc (Nat.le_refl _) _)
            have hzA := HMidA.out.size
            go_wp2_with (at_builtin; go_loud (refine wpList_append_lies _ rfl _ _ 25 rfl (w.heap.size + 1) 29 i0 (.agg #[.string .empty, .int .i64 0]) 2 24 undP hi hz0 hz1' hz2 rfl (by decide) u9 s.lines.length (cellsP s.lines) rfl HMidA.out.ld.lin ⟨w4.heap.size, 0, none⟩ 1 1 [.string (B f.name), .int .i64 (k1 : Int)] rfl rfl (World.news_of_block (heap_alloc_at w4 (.cells #[.string (B f.name), .int .i64 (k1 : Int)] 29))) (by simp [Value.oneCell']) (by decide) (by unfold maxLen; omega) (by omega) hzA _ rfl ?_))
            intro g2 cap2 w5 hown hgrow hat hlt3
            have hM5 := HMidA.out.lined (p := (f.name, k1)) hown hgrow
            obtain ⟨gk', hgk, hR2⟩ := HR.out.line (l := l) hM5 HFn.out HB2.out (by rw [HPL.out]; exact HPl2.out.symm)
            have HR2 := Lib.hid hR2
            clear hown hgrow hat hR2 hM5 hi hz0 hz1' hz2
            go_wp2_with fail
            go_roundg gk'
            case measure => exact hgk
            case rel => exact ⟨M ++ [(f.next, .slice (some ⟨gl, 0, none⟩) n rc)], { s with out := s.out ++ (l ++ [10]), lines := s.lines ++ [(f.name, k1)] }, (by
                show Value.string (B s.out ++ (B l ++ B [10])) = Value.string (B (s.out ++ (l ++ [10])))
                rw [B_app, B_app]), HR2⟩
        · rw [h1] at HDi
          have HRR : Hid (R0 = .bad f.name k1 192) := by show _ = _; rw [HR0e.out, resume_wrong HL.out h1, HK1f.out]
          clear h1
          refine (HDi.out _).mono ?_
          rintro e w4 ⟨rfl, hb4⟩
          obtain ⟨hM4, p0, p1, pf, b0, b1, bf⟩ := HAll.out w4 hb4
          have HMid4 := Lib.hid hM4
          have hz4 := hb4.size
          clear hM4 hb4 HDi HAll
          go_wp2_with fail
          go_region
          go_wp2_with fail
          refine bodyPost_ret (v := .tuple #[.string ⟨#[]⟩, .slice none 0 0, .agg #[.string (B f.name), .int .i64 (k1 : Int)], .int .i64 192]) (by simp [results, Tryd.results10, go_sem, b0, b1]) rfl ?_
          rw [HRR.out]
          exact ⟨rfl, ((HMid4.out.below.setCell (p := ⟨w.heap.size, 0, none⟩) (Nat.le_refl _) _).setCell (p := ⟨w.heap.size, 1, none⟩) (Nat.le_refl _) _).drew⟩
        · rw [h2] at HDi
          have hdd : Lf.length + 1 - (frs M).length = (Lf.length - m) + 1 := by rw [frs_len, ← HM.out]; omega
          have hin := resume_inc (F := look (pairsF Lf)) (n := Lf.length + 1) (rest := frs M) (s := s) HL.out h2 hdd
          rw [← HR0e.out, ← HK1f.out] at hin
          have HIn := Lib.hid hin
          clear h2 hin hdd
          refine (HDi.out _).mono ?_
          rintro e w4 ⟨rfl, hb4⟩
          obtain ⟨hM4, p0, p1, pf, b0, b1, bf⟩ := HAll.out w4 hb4
          have HMid4 := Lib.hid hM4
          have hz4 := hb4.size
          clear hM4 hb4 HDi HAll
          have HOp : Hid (s.opn = names (M ++ [(f.next, Value.slice (some ⟨gl, 0, none⟩) n rc)])) := HR.out.opn.trans (names_same _ _ _ _ _ rfl)
          have HML : Hid ((M ++ [(f.next, Value.slice (some ⟨gl, 0, none⟩) n rc)]).length = m + 1) := by show _ = _; rw [HM.out]; simp
          go_wp2_with fail
          go_loop [17] (fun v17 => ∃ j : Nat, v17 = .int .i64 (j : Int) ∧ 1 ≤ j ∧ j ≤ m + 1 ∧ Hid (x ∉ s.opn.take (j - 1))) (fun v17 => m + 1 - natOf v17)
          case atStart => exact ⟨1, rfl, Nat.le_refl _, by omega, (fun h => by cases h)⟩
          case round =>
            obtain ⟨j, rfl, hj1, hjm, HT⟩ := hrel
            by_cases hlt : j < m + 1
            · have hltI : (j : Int) < (m : Int) + 1 := by omega
              have hjI : 0 ≤ (j : Int) := by omega
              obtain ⟨q, hq⟩ : ∃ q, (M ++ [(f.next, Value.slice (some ⟨gl, 0, none⟩) n rc)])[j]? = some q := ⟨_, List.getElem?_eq_getElem (by rw [HML.out]; exact hlt)⟩
              have cj := (HMid4.out.ld.cells rfl hq).1
              have ho : s.opn[j - 1]? = some q.1.name := by
                rw [HOp.out]
                unfold names
                rw [List.getElem?_map, List.getElem?_drop, show 1 + (j - 1) = j by omega, hq]; rfl
              have HO := Lib.hid ho
              clear hq ho
              obtain ⟨qn, hqn⟩ : ∃ qn, qn = q.1.name := ⟨_, rfl⟩
              rw [← hqn] at cj HO
              clear hqn
              cases hqx : (qn == x) with
              | true =>
                have ht : ((B qn).toList == (B x).toList) = true := by rw [B_beq]; exact hqx
                have HRR : Hid (R0 = .bad f.name k1 191) := by
                  show _ = _
                  rw [HIn.out, if_pos]
                  rw [← beq_iff_eq.1 hqx]
                  exact List.mem_of_getElem? HO.out
                clear hqx HIn
                go_wp2_with fail
                go_region
                go_wp2_with fail
                refine bodyPost_ret (v := .tuple #[.string ⟨#[]⟩, .slice none 0 0, .agg #[.string (B f.name), .int .i64 (k1 : Int)], .int .i64 191]) (by simp [results, Tryd.results10, go_sem, b0, b1]) rfl ?_
                rw [HRR.out]
                exact ⟨rfl, ((HMid4.out.below.setCell (p := ⟨w.heap.size, 0, none⟩) (Nat.le_refl _) _).setCell (p := ⟨w.heap.size, 1, none⟩) (Nat.le_refl _) _).drew⟩
              | false =>
                have ht : ((B qn).toList == (B x).toList) = false := by rw [B_beq]; exact hqx
                have HQ := Lib.hid hqx
                clear hqx
                go_wp2_with fail
                go_round
                case rel =>
                  refine ⟨j + 1, rfl, by omega, by omega, ?_⟩
                  show x ∉ _
                  rw [show j + 1 - 1 = (j - 1) + 1 by omega, List.take_add_one, HO.out]
                  intro hm
                  rcases List.mem_append.1 hm with hm | hm
                  · exact HT.out hm
                  · simp at hm
                    have := HQ.out
                    rw [hm] at this; simp at this
                case measure => simp only [natOf]; omega
            · have hltI : (m : Int) + 1 ≤ (j : Int) := by omega
              have hnot : x ∉ s.opn := by
                have h := HT.out
                rw [List.take_of_length_le (by rw [HOp.out, names_len, HML.out]; omega)] at h
                exact h
              have HNo := Lib.hid hnot
              have hin := HIn.out
              rw [if_neg hnot] at hin
              have HHas := Lib.hid (has_any u11 s.dn x w4 (row_texts HMid4.out.ld.dn) (by omega))
              by_cases hdn2 : x ∈ s.dn
              · rw [if_pos hdn2] at hin
                rw [decide_eq_true hdn2] at HHas
                have HI2 := Lib.hid hin
                obtain ⟨gk', hgk, hR2⟩ := HR.out.skip HMid4.out HFn.out (by rw [HPL.out]; exact HI2.out.symm)
                have HR2 := Lib.hid hR2
                clear hin hnot hdn2 hR2
                go_wp2_with fail
                refine HHas.out.mono ?_
                rintro e w5 ⟨rfl, rfl⟩
                clear HHas
                go_wp2_with fail
                go_roundg gk'
                case measure => exact hgk
                case rel => exact ⟨_, s, rfl, HR2⟩
              · rw [if_neg hdn2] at hin
                rw [decide_eq_false hdn2] at HHas
                have HND := Lib.hid hdn2
                have HFi := Lib.hid (find19_any (.slice fa Lf.length fc) Lf x w4 (HF.out.below HMid4.out.below) (by omega))
                cases hlk : look (pairsF Lf) x with
                | none =>
                  rw [hlk] at hin
                  have HRR := Lib.hid hin
                  rw [ix_none hlk] at HFi
                  clear hin hnot hdn2 hlk
                  go_wp2_with fail
                  refine HHas.out.mono ?_
                  rintro e w5 ⟨rfl, rfl⟩
                  clear HHas
                  go_wp2_with fail
                  refine HFi.out.mono ?_
                  rintro e w5 ⟨rfl, rfl⟩
                  clear HFi
                  go_wp2_with fail
                  go_region
                  go_wp2_with fail
                  refine bodyPost_ret (v := .tuple #[.string ⟨#[]⟩, .slice none 0 0, .agg #[.string (B f.name), .int .i64 (k1 : Int)], .int .i64 190]) (by simp [results, Tryd.results10, go_sem, b0, b1]) rfl ?_
                  rw [HRR.out]
                  exact ⟨rfl, ((HMid4.out.below.setCell (p := ⟨w.heap.size, 0, none⟩) (Nat.le_refl _) _).setCell (p := ⟨w.heap.size, 1, none⟩) (Nat.le_refl _) _).drew⟩
                | some t =>
                  rw [hlk] at hin
                  have HI2 := Lib.hid hin
                  obtain ⟨i, q, hq, hix, htj⟩ := ix_some hlk
                  have hil : i < Lf.length := (List.getElem?_eq_some_iff.1 hq).1
                  have hilI : (i : Int) < (Lf.length : Int) := by omega
                  have hts := look_size hlk
                  rw [hix] at HFi
                  have HLk := Lib.hid hlk
                  have hF5 := HF.out.below HMid4.out.below
                  rcases hF5 with ⟨a, c, _, e⟩ | ⟨bk, o, c, e, hlc, hbk, hcf⟩
                  · rw [e] at hil; cases hil
                  injection e with e1 e2 e3
                  subst e1
                  obtain ⟨cv, _, q1, q2⟩ := hcf i q hq
                  obtain ⟨ca, cn, cc, rfl⟩ := q2.isSlice
                  have hzc := sizeC_le hq
                  have HJ := Lib.hid (Joined_any _ _ w4 q2 (by omega))
                  rw [htj] at HJ
                  have HLn := Lib.hid (Lines_any (B t) w4 (by rw [B_size]; omega))
                  rw [B_list] at HLn
                  clear hin hnot hdn2 hlk hq hix htj hcf e2 e3 q2
                  go_wp2_with fail
                  refine HHas.out.mono ?_
                  rintro e w5 ⟨rfl, rfl⟩
                  clear HHas
                  go_wp2_with fail
                  refine HFi.out.mono ?_
                  rintro e w5 ⟨rfl, rfl⟩
                  clear HFi
                  go_wp2_with fail
                  refine HJ.out.mono ?_
                  rintro e w5 ⟨rfl, rfl⟩
                  clear HJ
                  go_wp2_with fail
                  refine HLn.out.mono ?_
                  rintro e w6 ⟨rv2, rfl, hown6, hb6⟩
                  clear HLn
                  have hwz5 := HMid4.out.size
                  have hown6' := hown6.own
                  obtain ⟨ra2, rc2, hrv2, _⟩ := row_form hown6'
                  subst hrv2
                  have HMid6 : Hid (LdM w (w6.alloc (.cells #[.string (B x), .slice ra2 (linesL t).length rc2, .int .i64 0] 57)) u9 (.slice (some ⟨g, 0, none⟩) (m + 1) cap) u11 (M ++ [(f.next, .slice (some ⟨gl, 0, none⟩) n rc)]) s.lines s.dn) := (HMid4.out.world hb6).world ((Below.refl _ _).alloc (Nat.le_refl _) _)
                  have HRow6 : Hid ((w6.alloc (.cells #[.string (B x), .slice ra2 (linesL t).length rc2, .int .i64 0] 57)).ownsRow (w.heap.size + 1) 9 1 (.slice ra2 (linesL t).length rc2) (linesL t).length (cellsT (linesL t))) := own_base (hown6'.alloc _) (by omega)
                  have HAp6 : Hid (∀ g', (Value.slice ra2 (linesL t).length rc2).ownBlock = some g' → u11.ownBlock ≠ some g') := by
                    intro g' h1 h2
                    have a1 := (hown6'.lt g' h1).1
                    have a2 := (HMid4.out.ld.dn.lt g' h2).2
                    omega
                  have hzA := HMid6.out.size
                  have hstk := HMid6.out.ld.stk
                  rw [HML.out] at hstk
                  obtain ⟨i0, hi, hz0, hz1', hz2⟩ := info_parts infoO
                  clear hown6 hb6 hown6'
                  go_wp2_with (at_builtin; go_loud (refine wpList_append_lies _ rfl _ _ 58 rfl (w.heap.size + 1) 57 i0 (.agg #[.string .empty, .slice none 0 0, .int .i64 0]) 3 48 undO hi hz0 hz1' hz2 rfl (by decide) (.slice (some ⟨g, 0, none⟩) (m + 1) cap) (m + 1) (cellsO (M ++ [(f.next, .slice (some ⟨gl, 0, none⟩) n rc)])) rfl hstk ⟨w6.heap.size, 0, none⟩ 1 1 [.string (B x), .slice ra2 (linesL t).length rc2, .int .i64 0] rfl rfl (World.news_of_block (heap_alloc_at w6 (.cells #[.string (B x), .slice ra2 (linesL t).length rc2, .int .i64 0] 57))) (by simp [Value.oneCell']) (by decide) (by unfold maxLen; omega) (by omega) hzA _ rfl ?_))
                  intro g2 cap2 w7 hown hgrow hat hlt3
                  have hM7 := HMid6.out.pushed (fr := ⟨x, linesL t, 0⟩) (by rw [HML.out]; exact hown) hgrow HRow6.out HAp6.out
                  obtain ⟨gk', hgk, hR2⟩ := HR.out.push hM7 HFn.out HNo.out HND.out HLk.out (by omega) (by rw [HPL.out]; exact HI2.out.symm)
                  have HR2 := Lib.hid hR2
                  clear hown hgrow hat hR2 hM7 hi hz0 hz1' hz2 hstk
                  go_wp2_with fail
                  go_roundg gk'
                  case measure => exact hgk
                  case rel => exact ⟨_, { s with opn := s.opn ++ [x] }, rfl, HR2⟩
end Go.Proofs.YtmhjfdnpmfhmjaaDoor
