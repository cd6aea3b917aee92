/- Package source: include, by induction. -/
import Derived.Test.YtmhjfdnpmfhmjaaDoorS6
namespace Go.Proofs.YtmhjfdnpmfhmjaaDoor
open Go.RowKit
set_option linter.unusedVariables false

theorem St.opened {w w' : World} {D b g n cap : Nat} {fv ap bv lv ov dv : Value} {s : LS} {x : Str} (h : St w D b fv ap bv lv ov dv s) (hown : w'.ownsRow D 9 1 (.slice (some ⟨g, 0, none⟩) n cap) (s.opn.length + 1) (cellsS s.opn ++ [.string (B x)])) (hg : w.grownBy w' ov.ownBlock)
    (hat : ov.ownBlock = some g ∨ w.heap.size ≤ g) : St (w'.setCell ⟨b, 4, none⟩ (.slice (some ⟨g, 0, none⟩) n cap)) D b fv ap bv lv (.slice (some ⟨g, 0, none⟩) n cap) dv { s with opn := s.opn ++ [x] } := by
  have hk : ∀ g, ov.ownBlock ≠ some g → g < w.heap.size → w'.heap[g]? = w.heap[g]? := fun g h1 h3 => hg.block g h3 (fun e => h1 e.symm)
  have hb : w'.heap[b]? = some (.cells #[fv, ap, bv, lv, ov, dv] 53 (0, 0)) := (hk b (own_ne h.opn h.heap (by decide)) h.lt).trans h.heap
  have hset : ∀ g', g' ≠ b → (w'.setCell ⟨b, 4, none⟩ (.slice (some ⟨g, 0, none⟩) n cap)).heap[g']? = w'.heap[g']? := fun g' hgb => Below.heap_setCell _ _ _ _ hgb
  have hvb := own_ne hown hb (by decide)
  have hap : ∀ g', dv.ownBlock = some g' → ov.ownBlock ≠ some g' := fun g' h1 h2 => h.apart g' h2 h1
  refine ⟨h.lo, setCell_heap_same hb 4 _, h.ptr, ?_, ?_, ?_, ?_, ?_⟩
  · refine own_keep h.buf fun g' hg' => (hset g' (fun e => own_ne h.buf h.heap (by decide) (e ▸ hg'))).trans (hk g' (rows_ne h.buf h.opn (by decide) g' hg') (h.buf.lt g' hg').2)
  · refine own_keep h.lin fun g' hg' => (hset g' (fun e => own_ne h.lin h.heap (by decide) (e ▸ hg'))).trans (hk g' (rows_ne h.lin h.opn (by decide) g' hg') (h.lin.lt g' hg').2)
  · have e : cellsS (s.opn ++ [x]) = cellsS s.opn ++ [.string (B x)] := cellsS_app _ _
    rw [e, List.length_append]
    exact own_keep hown fun g' hg' => hset g' (fun e => hvb (e ▸ hg'))
  · refine own_keep h.dn fun g' hg' => (hset g' (fun e => own_ne h.dn h.heap (by decide) (e ▸ hg'))).trans (hk g' (hap g' hg') (h.dn.lt g' hg').2)
  · intro g' hg' hd
    injection hg' with hg'
    rcases hat with h1 | h1
    · exact h.apart g h1 (by rw [hd]; exact congrArg some hg'.symm)
    · have h2 : g = g' := hg'
      have := (h.dn.lt g' hd).2
      omega
theorem St.doned {w w' : World} {D b g n cap : Nat} {fv ap bv lv ov dv : Value} {s : LS} {x : Str} (h : St w D b fv ap bv lv ov dv s) (hown : w'.ownsRow D 9 1 (.slice (some ⟨g, 0, none⟩) n cap) (s.dn.length + 1) (cellsS s.dn ++ [.string (B x)])) (hg : w.grownBy w' dv.ownBlock)
    (hat : dv.ownBlock = some g ∨ w.heap.size ≤ g) : St (w'.setCell ⟨b, 5, none⟩ (.slice (some ⟨g, 0, none⟩) n cap)) D b fv ap bv lv ov (.slice (some ⟨g, 0, none⟩) n cap) { s with dn := s.dn ++ [x] } := by
  have hk : ∀ g, dv.ownBlock ≠ some g → g < w.heap.size → w'.heap[g]? = w.heap[g]? := fun g h1 h3 => hg.block g h3 (fun e => h1 e.symm)
  have hb : w'.heap[b]? = some (.cells #[fv, ap, bv, lv, ov, dv] 53 (0, 0)) := (hk b (own_ne h.dn h.heap (by decide)) h.lt).trans h.heap
  have hset : ∀ g', g' ≠ b → (w'.setCell ⟨b, 5, none⟩ (.slice (some ⟨g, 0, none⟩) n cap)).heap[g']? = w'.heap[g']? := fun g' hgb => Below.heap_setCell _ _ _ _ hgb
  have hvb := own_ne hown hb (by decide)
  refine ⟨h.lo, setCell_heap_same hb 5 _, h.ptr, ?_, ?_, ?_, ?_, ?_⟩
  · refine own_keep h.buf fun g' hg' => (hset g' (fun e => own_ne h.buf h.heap (by decide) (e ▸ hg'))).trans (hk g' (rows_ne h.buf h.dn (by decide) g' hg') (h.buf.lt g' hg').2)
  · refine own_keep h.lin fun g' hg' => (hset g' (fun e => own_ne h.lin h.heap (by decide) (e ▸ hg'))).trans (hk g' (rows_ne h.lin h.dn (by decide) g' hg') (h.lin.lt g' hg').2)
  · refine own_keep h.opn fun g' hg' => (hset g' (fun e => own_ne h.opn h.heap (by decide) (e ▸ hg'))).trans (hk g' (h.apart g' hg') (h.opn.lt g' hg').2)
  · have e : cellsS (s.dn ++ [x]) = cellsS s.dn ++ [.string (B x)] := cellsS_app _ _
    rw [e, List.length_append]
    exact own_keep hown fun g' hg' => hset g' (fun e => hvb (e ▸ hg'))
  · intro g' hg' hd
    injection hd with hd
    have h2 : g = g' := hd
    rcases hat with h1 | h1
    · exact h.apart g' hg' (h2 ▸ h1)
    · have := (h.opn.lt g' hg').2
      omega
/-- the last open name goes -/
theorem St.popped {w : World} {D b g n cap : Nat} {fv ap bv lv dv : Value} {s : LS} (h : St w D b fv ap bv lv (.slice (some ⟨g, 0, none⟩) (n + 1) cap) dv s) (hn : s.opn.length = n + 1) :
    St (w.setCell ⟨b, 4, none⟩ (.slice (some ⟨g, 0, none⟩) n cap)) D b fv ap bv lv (.slice (some ⟨g, 0, none⟩) n cap) dv { s with opn := s.opn.dropLast } := by
  have hset : ∀ g', g' ≠ b → (w.setCell ⟨b, 4, none⟩ (.slice (some ⟨g, 0, none⟩) n cap)).heap[g']? = w.heap[g']? := fun g' hgb => Below.heap_setCell _ _ _ _ hgb
  refine ⟨h.lo, setCell_heap_same h.heap 4 _, h.ptr, ?_, ?_, ?_, ?_, ?_⟩
  · exact own_keep h.buf fun g' hg' => hset g' (fun e => own_ne h.buf h.heap (by decide) (e ▸ hg'))
  · exact own_keep h.lin fun g' hg' => hset g' (fun e => own_ne h.lin h.heap (by decide) (e ▸ hg'))
  · have hne : g ≠ b := fun e => own_ne h.opn h.heap (by decide) (congrArg some e)
    obtain ⟨hl, h2⟩ := h.opn
    rcases h2 with ⟨h3, _⟩ | ⟨g1, cap1, cur, h3, hb, hgg, hc, hm, hs, ht⟩
    · cases h3
    · injection h3 with h4 h5 h6
      injection h4 with h4
      injection h4 with h7
      subst h7; subst h6
      have hdl : s.opn.dropLast.length = n := by rw [List.length_dropLast, hn]; rfl
      refine ⟨by rw [cellsS_length, Nat.mul_one], .inr ⟨g, cap, cur, by rw [hdl], hb, (hset g hne).trans hgg, by show s.opn.dropLast.length ≤ cap; omega, hm, hs, ?_⟩⟩
      rw [hdl, Nat.mul_one]
      have h9 : (cur.toList.take (s.opn.length * 1)).take n = (cellsS s.opn).take n := by rw [ht]
      rw [List.take_take, Nat.min_eq_left (by omega)] at h9
      rw [h9, List.dropLast_eq_take, hn]
      simp [cellsS, List.map_take]
  · exact own_keep h.dn fun g' hg' => hset g' (fun e => own_ne h.dn h.heap (by decide) (e ▸ hg'))
  · exact fun g' hg' => h.apart g' hg'

theorem Contains_row {w : World} {D : Nat} {v : Value} {L : List Str} (name : Str) (h : w.ownsRow D 9 1 v L.length (cellsS L)) (hlen : L.length ≤ 1000000) :
    Calls Tryd.prog 40 #[v, .string (B name)] w fun e w' => e = .returned (.bool (decide (name ∈ L))) ∧ w' = w := by
  have hcell := fun g (hg : v.ownBlock = some g) => h.cells hg
  rcases h.2 with ⟨rfl, h0⟩ | ⟨g, cap, cur, rfl, hb, hgg, hc, hm, hs, ht⟩
  · obtain rfl : L = [] := List.eq_nil_of_length_eq_zero h0
    exact Tryd.slices_Contains_string_empty none 0 (B name) w
  · have hx := Tryd.slices_Contains_string g 0 L.length cap (L.map B) (B name) w (by simp) (by omega) (by
      intro j hj
      have hj' : j < L.length := by simpa using hj
      have := hcell g rfl j (.string (B L[j])) (by simp [cellsS, hj'])
      simpa [Addr.add_lit, List.getD_eq_getElem?_getD, hj'] using this)
    rw [List.take_of_length_le (by simp)] at hx
    have e : Lib.containsS (L.map B) (B name) = decide (name ∈ L) := by
      have h1 := Lib.containsS_iff (L.map B) (B name)
      have h2 : B name ∈ L.map B ↔ name ∈ L := by
        constructor
        · intro h
          obtain ⟨a, ha, hb⟩ := List.mem_map.1 h
          exact B_inj hb ▸ ha
        · exact fun h => List.mem_map_of_mem h
      by_cases hm : name ∈ L
      · rw [h1.2 (h2.2 hm), decide_eq_true hm]
      · rw [decide_eq_false hm]
        cases hc : Lib.containsS (L.map B) (B name) with
        | false => rfl
        | true => exact absurd (h2.1 (h1.1 hc)) hm
    rw [e] at hx
    exact hx

theorem below_apart {S : List Nat} {D : Nat} {w w' : World} (h : Apart S w w') (hD : D ≤ w.heap.size) (hS : ∀ x ∈ S, D ≤ x) : Below D w w' := h.below hD hS

set_option maxHeartbeats 16000000 in
set_option maxRecDepth 1000000 in
theorem include_any (Fs : List (Str × Str)) (N : List Str) (hN : N = Fs.map (·.1)) (W0 : World) (fv : Value) (hF : FilesV W0 fv Fs) (hM : MaxOk W0) (hNl : N.length ≤ 1000000) (hsz : ∀ x t, look Fs x = some t → t.length ≤ 1000000) : ∀ (k : Nat) (name file : Str) (n : Nat) (w : World) (b : Nat) (ap bv lv ov dv : Value) (s : LS),
    St w W0.heap.size b fv ap bv lv ov dv s → Inv N s → Below W0.heap.size W0 w → N.length + 1 ≤ s.opn.length + k → n ≤ 1000001 →
    Calls Tryd.prog 29 #[.pointer (some ⟨b, 0, none⟩), .string (B name), .agg #[.string (B file), .int .i64 (n : Int)]] w (Out W0.heap.size b fv (blk b bv lv ov dv) w (incF (look Fs) k s name file n)) := by
  have hFN : ∀ x t, look Fs x = some t → x ∈ N := by
    intro x t h
    obtain ⟨k, p, h1, h2, h3, h4⟩ := look_some h
    rw [hN, ← h2]
    exact List.mem_map_of_mem (List.mem_of_getElem? h1)
  intro k
  induction k with
  | zero =>
    intro name file n w b ap bv lv ov dv s hst hinv hb hk hn
    have := hinv.le
    omega
  | succ k ih =>
    intro name file n w b ap bv lv ov dv s hst hinv hb hk hn
    have HIH := Lib.hid ih
    have HFN := Lib.hid hFN
    have HSZ := Lib.hid hsz
    obtain ⟨D, hD⟩ : ∃ D, D = W0.heap.size := ⟨_, rfl⟩
    have hM2 : MaxOk w := hM.below hb hM.lt
    have hFw : FilesV w fv Fs := hF.below hb
    have hle := hinv.le
    rw [← hD] at hst ⊢
    have hDw : D ≤ w.heap.size := Nat.le_trans hst.lo (Nat.le_of_lt hst.lt)
    have HW1b : Hid (Below w.heap.size w (w.alloc (.cells #[.string (B file), .int .i64 (n : Int)] 29))) := (Below.refl _ _).alloc (Nat.le_refl _) _
    obtain ⟨w1, hw1⟩ : ∃ w1, w1 = w.alloc (.cells #[.string (B file), .int .i64 (n : Int)] 29) := ⟨_, rfl⟩
    have hz1 : w1.heap.size = w.heap.size + 1 := by rw [hw1]; simp
    have hp1 : w1.heap[w.heap.size]? = some (.cells #[.string (B file), .int .i64 (n : Int)] 29 (0, 0)) := hw1 ▸ heap_alloc_at w _
    rw [← hw1] at HW1b
    have HSt1 := Lib.hid (hst.below HW1b.out)
    have HFi := Lib.hid (find_any name Fs HSt1.out (hFw.below HW1b.out))
    have HRes : Hid (incF (look Fs) (k + 1) s name file n = if name ∈ s.opn then .bad file n 191 else if name ∈ s.dn then .ok s else match look Fs name with
      | none => .bad file n 190
      | some t => bindR (textF (incF (look Fs) k) name { s with opn := s.opn ++ [name] } 1 (linesL t)) fun s' => .ok { s' with opn := s'.opn.dropLast, dn := s'.dn ++ [name] }) := rfl
    obtain ⟨res, hres⟩ : ∃ res, res = incF (look Fs) (k + 1) s name file n := ⟨_, rfl⟩
    rw [← hres] at HRes ⊢
    have HInv := Lib.hid hinv
    have HB := Lib.hid (hD ▸ hb : Below D W0 w)
    have HM := Lib.hid hM
    have HDD := Lib.hid hD
    clear hst hinv hb hM2 hFw ih hFN hsz hres hD hM
    subst hw1
    go_enter Tryd.func29, Tryd.ntmps29
    go_wp2_with fail
    refine HFi.out.mono ?_
    rintro e w2 ⟨rfl, hb2⟩
    clear HFi
    have HSt2 := Lib.hid (HSt1.out.below hb2)
    have c4 : w2.cell? ⟨b, 4, none⟩ = some ov := HSt2.out.cell 4
    have c5 : w2.cell? ⟨b, 5, none⟩ = some dv := HSt2.out.cell 5
    have hp2 := (hb2.block w.heap.size (by omega)).trans hp1
    have k0 : w2.cell? ⟨w.heap.size, 0, none⟩ = some (.string (B file)) := by rw [Lib.cell_of_heap hp2]; rfl
    have k1 : w2.cell? ⟨w.heap.size, 1, none⟩ = some (.int .i64 (n : Int)) := by rw [Lib.cell_of_heap hp2]; rfl
    have HB2 : Hid (Below w.heap.size w w2) := HW1b.out.trans (hb2.mono HW1b.out.size)
    have HBD : Hid (Below D w w2) := HB2.out.mono hDw
    have HCo := Lib.hid (Contains_row name HSt2.out.opn (by omega))
    have HCd := Lib.hid (Contains_row name HSt2.out.dn (by omega))
    clear hb2 hp2 hp1
    go_wp2_with fail
    refine HCo.out.mono ?_
    rintro e w2 ⟨rfl, rfl⟩
    by_cases h1 : name ∈ s.opn
    · rw [if_pos h1] at HRes
      rw [decide_eq_true h1]
      go_wp2_with fail
      refine ⟨rfl, ?_⟩
      rw [HRes.out]
      exact ⟨rfl, HBD.out⟩
    · rw [if_neg h1] at HRes
      rw [decide_eq_false h1]
      go_wp2_with fail
      refine HCd.out.mono ?_
      rintro e w2 ⟨rfl, rfl⟩
      by_cases h2 : name ∈ s.dn
      · rw [if_pos h2] at HRes
        rw [decide_eq_true h2]
        go_wp2_with fail
        refine bodyPost_ret (results_none rfl _ _ _) rfl ?_
        rw [HRes.out]
        exact ⟨rfl, ap, bv, lv, ov, dv, HSt2.out, Apart.of_below HB2.out _, fun x hx => .inl hx⟩
      · rw [if_neg h2] at HRes
        rw [decide_eq_false h2]
        cases hl : look Fs name with
        | none =>
          rw [hl] at HRes
          go_wp2_with fail
          refine ⟨rfl, ?_⟩
          rw [HRes.out]
          exact ⟨rfl, HBD.out⟩
        | some t =>
          rw [hl] at HRes
          obtain ⟨i0, hi, hz0, hz1', hz2⟩ := info_parts infoS
          have hDw2 : D ≤ w2.heap.size := Nat.le_trans hDw HB2.out.size
          have HStA : Hid (St (w2.alloc (.cells #[.string (B name)] 9)) D b fv ap bv lv ov dv s) := HSt2.out.keep fun g hg => heap_alloc_lt w2 _ g (HSt2.out.blk_lo hg).2
          go_wp2_with (at_builtin; refine wpList_append_lies _ rfl _ _ 38 rfl D 9 i0 (.string .empty) 1 16 undS hi hz0 hz1' hz2 rfl (by decide) ov s.opn.length (cellsS s.opn) rfl HStA.out.opn ⟨w2.heap.size, 0, none⟩ 1 1 [.string (B name)] rfl rfl (World.news_of_block (heap_alloc_at w2 (.cells #[.string (B name)] 9))) (by simp [Value.oneCell']) (by decide) (by unfold maxLen; omega) (by omega) (by simp; omega) _ rfl ?_)
          intro g cap w3 hown hgrow hat hlt3
          have HOwn := Lib.hid hown
          have HGr := Lib.hid hgrow
          have HAt : Hid (ov.ownBlock = some g ∨ (w2.alloc (.cells #[.string (B name)] 9)).heap.size ≤ g) := hat.imp id (fun h => by rw [h]; simp)
          have d4 : w3.cell? ⟨b, 4, none⟩ = some ov := (hgrow.cell_far ⟨b, 4, none⟩ HStA.out.lt (fun e => own_ne HStA.out.opn HStA.out.heap (by decide) e.symm)).trans (HStA.out.cell 4)
          have f4 : w3.frozen? ⟨b, 4, none⟩ = false := (hgrow.frozen_far ⟨b, 4, none⟩ HStA.out.lt (fun e => own_ne HStA.out.opn HStA.out.heap (by decide) e.symm)).trans (HStA.out.frozen 4)
          have HSt4 := Lib.hid (HStA.out.opened (x := name) hown hgrow HAt.out)
          have HA4 : Hid (Apart (blk b bv lv ov dv) w2 (w3.setCell ⟨b, 4, none⟩ (.slice (some ⟨g, 0, none⟩) (s.opn.length + 1) cap))) := (((Apart.refl (blk b bv lv ov dv) w2).alloc _).trans (Apart.ofGrown hgrow) (fun x hx => .inl (mem_blk.2 (.inr (.inr (.inr (.inl (by simpa using hx)))))))).setCell ⟨b, 4, none⟩ (.inl (mem_blk.2 (.inl rfl))) _
          obtain ⟨w4, hw4⟩ : ∃ w4, w4 = w3.setCell ⟨b, 4, none⟩ (.slice (some ⟨g, 0, none⟩) (s.opn.length + 1) cap) := ⟨_, rfl⟩
          rw [← hw4] at HSt4 HA4
          have HL4 : Hid (∀ x ∈ blk b bv lv (.slice (some ⟨g, 0, none⟩) (s.opn.length + 1) cap) dv, x ∈ blk b bv lv ov dv ∨ w2.heap.size ≤ x) := by
            intro x hx
            rcases mem_blk.1 hx with e | e | e | e | e
            · exact .inl (mem_blk.2 (.inl e))
            · exact .inl (mem_blk.2 (.inr (.inl e)))
            · exact .inl (mem_blk.2 (.inr (.inr (.inl e))))
            · injection e with e
              have e2 : g = x := e
              rcases HAt.out with h | h
              · exact .inl (mem_blk.2 (.inr (.inr (.inr (.inl (e2 ▸ h))))))
              · exact .inr (by subst e2; have h3 : (w2.alloc (Obj.cells #[Value.string (B name)] 9)).heap.size = w2.heap.size + 1 := by simp
                               omega)
            · exact .inl (mem_blk.2 (.inr (.inr (.inr (.inr e)))))
          have HBD4 : Hid (Below D w w4) := HBD.out.trans (HA4.out.below hDw2 (fun x hx => (HSt2.out.blk_lo hx).1))
          have HKeep := Lib.hid (incF_keeps (N := N) (F := look Fs) HFN.out k)
          have HInv4 : Hid (Inv N { s with opn := s.opn ++ [name] }) := by
            refine ⟨?_, ?_, HInv.out.lines, HInv.out.out⟩
            · have hn := HInv.out.nodup
              rw [List.nodup_append] at hn ⊢
              refine ⟨?_, hn.2.1, ?_⟩
              · rw [List.nodup_append]
                exact ⟨hn.1, by simp, fun a ha b hb => by simp at hb; subst hb; exact fun e => h1 (e ▸ ha)⟩
              · intro a ha b hb
                rcases List.mem_append.1 ha with ha | ha
                · exact hn.2.2 a ha b hb
                · simp at ha; subst ha; exact fun e => h2 (e ▸ hb)
            · intro x hx
              rcases List.mem_append.1 hx with hx | hx
              · rcases List.mem_append.1 hx with hx | hx
                · exact HInv.out.sub x (List.mem_append_left _ hx)
                · simp at hx; subst hx; exact HFN.out _ _ hl
              · exact HInv.out.sub x (List.mem_append_right _ hx)
          have HTx := Lib.hid (text_any N (incF (look Fs) k) (B t) name w4 D b fv ap bv lv (.slice (some ⟨g, 0, none⟩) (s.opn.length + 1) cap) dv { s with opn := s.opn ++ [name] } HSt4.out HInv4.out HKeep.out (by rw [B_size]; exact HSZ.out _ _ hl) (HM.out.below (HB.out.trans HBD4.out) (by rw [HDD.out]; exact HM.out.lt)) (by
            intro l n' wr ap' bv' lv' ov' dv' s1 hl1 hd1 hd2 hn' hst' hi' ho' hb'
            refine (HDD.out ▸ HIH.out (dirL l).1 name n' wr b ap' bv' lv' ov' dv' s1 (HDD.out ▸ hst') hi' (HDD.out ▸ (HB.out.trans (HBD4.out.trans hb'))) ?_ hn')
            rw [ho']
            show _ ≤ (s.opn ++ [name]).length + k
            simp
            omega))
          rw [B_list] at HTx
          clear hown hgrow hat hlt3 c4 c5 k0 k1 HCo HCd hi hz0 hz1' hz2
          go_wp2_with fail
          rw [← hw4]
          refine HTx.out.mono ?_
          rintro e w5 hO
          have HO := Lib.hid hO
          clear hO HTx
          cases hr : textF (incF (look Fs) k) name { s with opn := s.opn ++ [name] } 1 (linesL t) with
          | bad f mm c =>
            rw [hr] at HO HRes
            obtain ⟨rfl, hb3⟩ := HO.out
            go_wp2_with fail
            refine ⟨rfl, ?_⟩
            rw [HRes.out]
            exact ⟨rfl, HBD4.out.trans hb3⟩
          | ok s5 =>
            rw [hr] at HO HRes
            have hkp := textF_keeps HKeep.out _ _ _ _ HInv4.out hr
            have hopn : s5.opn = s.opn ++ [name] := hkp.2
            have hlen5 : s5.opn.length = s.opn.length + 1 := by rw [hopn]; simp
            have hle5 := hkp.1.le
            obtain ⟨rfl, ap5, bv5, lv5, ov5, dv5, hst5, ha5, hl5⟩ := HO.out
            obtain ⟨g5, cap5, rfl, _, _⟩ := hst5.opn.form (by omega)
            have hcap5 : s5.opn.length ≤ cap5 := by
              rcases hst5.opn.2 with ⟨h, _⟩ | ⟨g6, cap6, cur6, h, _, _, hc6, _⟩
              · cases h
              · injection h with h7 h8 h9
                omega
            have hcapI : (s.opn.length : Int) ≤ (cap5 : Int) := by omega
            have hnoB : s.opn.length ≤ 1000000 := by omega
            have hnoI : (0 : Int) ≤ (s.opn.length : Int) := by omega
            rw [hlen5] at hst5 hl5
            have HSt5 := Lib.hid hst5
            have HA5 := Lib.hid ha5
            have HL5 := Lib.hid hl5
            have HLen := Lib.hid hlen5
            have e4 : w5.cell? ⟨b, 4, none⟩ = some (.slice (some ⟨g5, 0, none⟩) (s.opn.length + 1) cap5) := hst5.cell 4
            have g4 : w5.frozen? ⟨b, 4, none⟩ = false := hst5.frozen 4
            have e5 : w5.cell? ⟨b, 5, none⟩ = some dv5 := hst5.cell 5
            clear hst5 ha5 hl5 hkp HO hr hopn hlen5 hcap5
            generalize hno : s.opn.length = no at *
            have HNo := Lib.hid hno
            clear hno
            go_wp2_with fail
            go_region
            have HSt6 : Hid (St ((w5.setCell ⟨b, 4, none⟩ (.slice (some ⟨g5, 0, none⟩) no cap5)).alloc (.cells #[.string (B name)] 9)).drew D b fv ap5 bv5 lv5 (.slice (some ⟨g5, 0, none⟩) no cap5) dv5 { s5 with opn := s5.opn.dropLast }) := by
              have h := HSt5.out.popped (by rw [HLen.out])
              exact h.keep fun g hg => heap_alloc_lt _ _ g (h.blk_lo hg).2
            have hdn5 : s5.dn.length ≤ 1000000 := by omega
            have HNews : Hid (∀ (j : Nat) u, ([.string (B name)] : List Value)[j]? = some u → ((w5.setCell ⟨b, 4, none⟩ (.slice (some ⟨g5, 0, none⟩) no cap5)).alloc (.cells #[.string (B name)] 9)).drew.cell? ((⟨w5.heap.size, 0, none⟩ : Addr).add j) = some u) := by
              have h := heap_alloc_at (w5.setCell ⟨b, 4, none⟩ (.slice (some ⟨g5, 0, none⟩) no cap5)) (.cells #[.string (B name)] 9)
              rw [show (w5.setCell ⟨b, 4, none⟩ (.slice (some ⟨g5, 0, none⟩) no cap5)).heap.size = w5.heap.size from by simp [World.setCell]] at h
              exact World.news_of_block (w := ((w5.setCell ⟨b, 4, none⟩ (.slice (some ⟨g5, 0, none⟩) no cap5)).alloc (.cells #[.string (B name)] 9)).drew) h
            obtain ⟨i0, hi, hz0, hz1', hz2⟩ := info_parts infoS
            go_wp2_with (at_builtin; go_loud (refine wpList_append_lies _ rfl _ _ 38 rfl D 9 i0 (.string .empty) 1 16 undS hi hz0 hz1' hz2 rfl (by decide) dv5 s5.dn.length (cellsS s5.dn) rfl HSt6.out.dn ⟨w5.heap.size, 0, none⟩ 1 1 [.string (B name)] rfl rfl HNews.out (by simp [Value.oneCell']) (by decide) (by unfold maxLen; omega) (by omega) (Nat.le_trans HSt6.out.lo (Nat.le_of_lt HSt6.out.lt)) _ rfl ?_))
            intro g7 cap7 w7 hown hgrow hat hlt7
            have HSt8 := Lib.hid (HSt6.out.doned (x := name) hown hgrow (hat.imp id (fun h => by rw [h]; show ((w5.setCell _ _).alloc _).heap.size ≤ _; simp [World.setCell])))
            have d5 : w7.cell? ⟨b, 5, none⟩ = some dv5 := (hgrow.cell_far ⟨b, 5, none⟩ HSt6.out.lt (fun e => own_ne HSt6.out.dn HSt6.out.heap (by decide) e.symm)).trans (HSt6.out.cell 5)
            have f5 : w7.frozen? ⟨b, 5, none⟩ = false := (hgrow.frozen_far ⟨b, 5, none⟩ HSt6.out.lt (fun e => own_ne HSt6.out.dn HSt6.out.heap (by decide) e.symm)).trans (HSt6.out.frozen 5)
            have HGr7 := Lib.hid hgrow
            have HAt7 := Lib.hid hat
            clear hown hgrow hat hlt7 e4 e5 g4
            go_wp2_with fail
            go_end0
            rw [HRes.out]
            have hz4 := HA4.out.size
            have hz5 := HA5.out.size
            have hz2 := HB2.out.size
            have hchain : ∀ x ∈ blk b bv5 lv5 (.slice (some ⟨g5, 0, none⟩) (no + 1) cap5) dv5, x ∈ blk b bv lv ov dv ∨ w.heap.size ≤ x := by
              intro x hx
              rcases HL5.out x hx with h | h
              · rcases HL4.out x h with h | h
                · exact .inl h
                · exact .inr (by omega)
              · exact .inr (by omega)
            have A3 : Apart (blk b bv lv ov dv) w w5 := ((Apart.of_below HB2.out _).trans HA4.out (fun x hx => .inl hx)).trans HA5.out (fun x hx => (HL4.out x hx).imp id (fun h => by omega))
            have A5 := ((((A3.setCell ⟨b, 4, none⟩ (.inl (mem_blk.2 (.inl rfl))) (.slice (some ⟨g5, 0, none⟩) no cap5)).alloc (.cells #[.string (B name)] 9)).drew).trans (Apart.ofGrown HGr7.out) (fun x hx => hchain x (mem_blk.2 (.inr (.inr (.inr (.inr (by simpa using hx)))))))).setCell ⟨b, 5, none⟩ (.inl (mem_blk.2 (.inl rfl))) (.slice (some ⟨g7, 0, none⟩) (s5.dn.length + 1) cap7)
            refine ⟨rfl, ap5, bv5, lv5, _, _, HSt8.out, A5, ?_⟩
            intro x hx
            rcases mem_blk.1 hx with e | e | e | e | e
            · exact .inl (mem_blk.2 (.inl e))
            · exact hchain x (mem_blk.2 (.inr (.inl e)))
            · exact hchain x (mem_blk.2 (.inr (.inr (.inl e))))
            · exact hchain x (mem_blk.2 (.inr (.inr (.inr (.inl e)))))
            · injection e with e
              have e2 : g7 = x := e
              rcases HAt7.out with h | h
              · exact hchain x (mem_blk.2 (.inr (.inr (.inr (.inr (e2 ▸ h))))))
              · refine .inr ?_
                have h3 : ((w5.setCell ⟨b, 4, none⟩ (.slice (some ⟨g5, 0, none⟩) no cap5)).alloc (.cells #[.string (B name)] 9)).drew.heap.size = w5.heap.size + 1 := by
                  show ((w5.setCell _ _).alloc _).heap.size = _
                  simp [World.setCell]
                omega
end Go.Proofs.YtmhjfdnpmfhmjaaDoor
