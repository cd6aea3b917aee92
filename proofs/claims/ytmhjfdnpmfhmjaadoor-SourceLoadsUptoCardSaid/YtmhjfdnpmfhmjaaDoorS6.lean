/- Package source: text, on a contract of include. -/
import Derived.Test.YtmhjfdnpmfhmjaaDoorS4
import Derived.Test.YtmhjfdnpmfhmjaaDoorS5
import Derived.Deep.AppendLies
import Derived.Deep.RegionLaw
namespace Go.Proofs.YtmhjfdnpmfhmjaaDoor
open Go.RowKit
set_option linter.unusedVariables false

/-- the round of text's loop: the lines from k on are still to come -/
structure Rel (D b : Nat) (fv : Value) (S0 : List Nat) (w1 : World) (N : List Str) (inc : LS → Str → Str → Nat → R) (file : Str) (ls : List Str) (g : Nat) (o0 : List Str) (res : R) (wr : World) (k : Nat) (ap bv lv ov dv : Value) (s : LS) : Prop where
  st : St wr D b fv ap bv lv ov dv s
  inv : Inv N s
  opn : s.opn = o0
  apart : Apart S0 w1 wr
  loc : ∀ x ∈ blk b bv lv ov dv, x ∈ S0 ∨ w1.heap.size ≤ x
  row : ∀ (j : Nat) l, ls[j]? = some l → wr.cell? ⟨g, j, none⟩ = some (.string (B l))
  res : textF inc file s (k + 1) (ls.drop k) = res

theorem Rel.size {D b : Nat} {fv : Value} {S0 : List Nat} {w1 : World} {N : List Str} {inc : LS → Str → Str → Nat → R} {file : Str} {ls : List Str} {g : Nat} {o0 : List Str} {res : R} {wr : World} {k : Nat} {ap bv lv ov dv : Value} {s : LS}
    (h : Rel D b fv S0 w1 N inc file ls g o0 res wr k ap bv lv ov dv s) : w1.heap.size ≤ wr.heap.size := h.apart.size

theorem Rel.step {D b : Nat} {fv : Value} {S0 : List Nat} {w1 : World} {N : List Str} {inc : LS → Str → Str → Nat → R} {file : Str} {ls : List Str} {g : Nat} {o0 : List Str} {res : R} {wr w2 w3 : World} {k : Nat} {ap bv lv ov dv ap2 bv2 lv2 ov2 dv2 : Value} {s s2 : LS}
    (h : Rel D b fv S0 w1 N inc file ls g o0 res wr k ap bv lv ov dv s) (hb : Below wr.heap.size wr w2) (hst : St w3 D b fv ap2 bv2 lv2 ov2 dv2 s2) (ha : Apart (blk b bv lv ov dv) w2 w3) (hl : ∀ x ∈ blk b bv2 lv2 ov2 dv2, x ∈ blk b bv lv ov dv ∨ w2.heap.size ≤ x)
    (hi : Inv N s2) (ho : s2.opn = s.opn) (hg : g < w1.heap.size) (hS : g ∉ S0) (hr : textF inc file s2 (k + 1 + 1) (ls.drop (k + 1)) = res) : Rel D b fv S0 w1 N inc file ls g o0 res w3 (k + 1) ap2 bv2 lv2 ov2 dv2 s2 := by
  have hz := h.apart.size
  have hz2 := hb.size
  refine ⟨hst, hi, ho.trans h.opn, ?_, ?_, ?_, hr⟩
  · exact (h.apart.trans (Apart.of_below hb []) (fun x hx => by cases hx)).trans ha h.loc
  · intro x hx
    rcases hl x hx with h1 | h1
    · exact h.loc x h1
    · exact .inr (by omega)
  · intro j l hj
    have hgb : g ∉ blk b bv lv ov dv := fun hm => (h.loc g hm).elim hS (fun h2 => absurd h2 (by omega))
    have c1 := h.row j l hj
    have c2 := (hb.cell (p := ⟨g, j, none⟩) (show g < _ by omega)).trans c1
    have e : w3.heap[g]? = w2.heap[g]? := ha.block g (by omega) hgb
    simp only [World.cell?, e]
    exact c2

theorem apart_lined {b : Nat} {bv lv ov dv v' : Value} {w2 w3 w4 : World} {o : Obj} (h : Apart (b :: bv.ownBlock.toList) w2 w3) (hg : (w3.alloc o).drew.grownBy w4 lv.ownBlock) : Apart (blk b bv lv ov dv) w2 (w4.setCell ⟨b, 3, none⟩ v') := by
  have h1 : Apart (blk b bv lv ov dv) w2 w3 := h.more fun x hx => mem_blk.2 (by
    rcases List.mem_cons.1 hx with h | h
    · exact .inl h
    · exact .inr (.inl (by simpa using h)))
  exact ((h1.alloc o).drew.trans (Apart.ofGrown hg) (fun x hx => .inl (mem_blk.2 (.inr (.inr (.inl (by simpa using hx))))))).setCell ⟨b, 3, none⟩ (.inl (mem_blk.2 (.inl rfl))) _
theorem loc_lined {b g n cap : Nat} {bv lv ov dv bv3 : Value} {w2 : World} (h : Loc w2 bv bv3) (ha : lv.ownBlock = some g ∨ w2.heap.size ≤ g) :
    ∀ x ∈ blk b bv3 (.slice (some ⟨g, 0, none⟩) n cap) ov dv, x ∈ blk b bv lv ov dv ∨ w2.heap.size ≤ x := by
  intro x hx
  rcases mem_blk.1 hx with e | e | e | e | e
  · exact .inl (mem_blk.2 (.inl e))
  · rcases h x e with h | h
    · exact .inl (mem_blk.2 (.inr (.inl h)))
    · exact .inr h
  · injection e with e
    rcases ha with h | h
    · exact .inl (mem_blk.2 (.inr (.inr (.inl (h.trans (congrArg some e))))))
    · exact .inr (by have h2 : g = x := e; omega)
  · exact .inl (mem_blk.2 (.inr (.inr (.inr (.inl e)))))
  · exact .inl (mem_blk.2 (.inr (.inr (.inr (.inr e)))))

set_option maxHeartbeats 16000000 in
set_option maxRecDepth 1000000 in
theorem text_any (N : List Str) (inc : LS → Str → Str → Nat → R) (text : ByteArray) (file : Str) (w : World) (D b : Nat) (fv ap bv lv ov dv : Value) (s : LS) (hst : St w D b fv ap bv lv ov dv s) (hinv : Inv N s) (hk : Keeps N inc) (hs : text.size ≤ 1000000) (hM : MaxOk w)
    (hinc : ∀ (l : Str) (n : Nat) (wr : World) (ap bv lv ov dv : Value) (s1 : LS), l ∈ linesL text.data.toList → (dirL l).2.1 = true → (dirL l).2.2 = true → n ≤ 1000001 → St wr D b fv ap bv lv ov dv s1 → Inv N s1 → s1.opn = s.opn → Below D w wr →
      Calls Tryd.prog 29 #[.pointer (some ⟨b, 0, none⟩), .string (B (dirL l).1), .agg #[.string (B file), .int .i64 (n : Int)]] wr (Out D b fv (blk b bv lv ov dv) wr (inc s1 (dirL l).1 file n))) :
    Calls Tryd.prog 18 #[.pointer (some ⟨b, 0, none⟩), .string text, .string (B file)] w (Out D b fv (blk b bv lv ov dv) w (textF inc file s 1 (linesL text.data.toList))) := by
  have HL := Lib.hid (lines_any text w hs hM)
  have hlen := linesL_len text.data.toList
  have htl : text.data.toList.length ≤ 1000000 := by simpa using hs
  obtain ⟨ls, hls⟩ : ∃ ls, ls = linesL text.data.toList := ⟨_, rfl⟩
  obtain ⟨C, hC⟩ : ∃ C, C = cutNl text.data.toList := ⟨_, rfl⟩
  have hpre : ∀ (j : Nat) l, ls[j]? = some l → C[j]? = some l := by
    intro j l h
    rw [hls] at h
    unfold linesL at h
    rw [hC]
    split at h
    · rw [List.dropLast_eq_take, List.getElem?_take] at h
      split at h
      · exact h
      · cases h
    · exact h
  have hsz : ∀ l ∈ ls, l.length ≤ 1000000 := fun l hl => Nat.le_trans (mem_lines_len (hls ▸ hl)) htl
  rw [← hls] at HL hinc hlen ⊢
  rw [← hC] at HL
  obtain ⟨m, hm⟩ : ∃ m, m = ls.length := ⟨_, rfl⟩
  rw [← hm] at HL hlen
  obtain ⟨res, hres⟩ : ∃ res, res = textF inc file s 1 ls := ⟨_, rfl⟩
  rw [← hres]
  obtain ⟨w1, hw1⟩ : ∃ w1, w1 = w.alloc (.cells (C.map fun l => Value.string (B l)).toArray 9) := ⟨_, rfl⟩
  have hb1 : Below w.heap.size w w1 := hw1 ▸ (Below.refl _ _).alloc (Nat.le_refl _) _
  have hrow : ∀ (j : Nat) l, ls[j]? = some l → w1.cell? ⟨w.heap.size, j, none⟩ = some (.string (B l)) := by
    intro j l h
    have : w1.heap[w.heap.size]? = _ := hw1 ▸ heap_alloc_at w _
    rw [Lib.cell_of_heap this]
    have := hpre j l h
    simp [this]
  have hg1 : w.heap.size < w1.heap.size := by rw [hw1]; simp
  have hDw : D ≤ w.heap.size := Nat.le_trans hst.lo (Nat.le_of_lt hst.lt)
  rw [← hw1] at HL
  have HR0 : Hid (Rel D b fv (blk b bv lv ov dv) w1 N inc file ls w.heap.size s.opn res w1 0 ap bv lv ov dv s) := ⟨hst.below hb1, hinv, rfl, Apart.refl _ _, fun x hx => .inl hx, hrow, by rw [hres]; rfl⟩
  have HB1 := Lib.hid hb1
  have HSZ := Lib.hid hsz
  have HM := Lib.hid hm
  have HINC := Lib.hid hinc
  have HK := Lib.hid hk
  have HST := Lib.hid hst
  have HDw := Lib.hid hDw
  have HG := Lib.hid hg1
  have HGS : Hid (w.heap.size ∉ blk b bv lv ov dv) := fun hm => by have := (hst.blk_lo hm).2; omega
  have hmB : m ≤ 1000001 := by omega
  clear hst hinv hres hpre hrow hC hls hm hsz hb1 hw1 hinc hk hs hM htl hlen hDw hg1
  go_enter Tryd.func18, Tryd.ntmps18
  go_wp2_with fail
  refine HL.out.mono ?_
  rintro e w' ⟨rfl, rfl⟩
  clear HL
  go_wp2_with fail
  go_loopw [15] (fun v15 wr => ∃ (k : Nat) (ap' bv' lv' ov' dv' : Value) (s1 : LS), v15 = .int .i64 (k : Int) ∧ k ≤ m ∧ Hid (Rel D b fv (blk b bv lv ov dv) w' N inc file ls w.heap.size s.opn res wr k ap' bv' lv' ov' dv' s1)) (fun v15 _ => m - natOf v15)
  case atStart => exact ⟨0, ap, bv, lv, ov, dv, s, rfl, Nat.zero_le _, HR0⟩
  case round =>
    obtain ⟨k, ap', bv', lv', ov', dv', s1, rfl, hkm, HR⟩ := hrel
    by_cases hlt : k < m
    · have hkI : (k : Int) < (m : Int) := by omega
      obtain ⟨l, hl⟩ : ∃ l, ls[k]? = some l := ⟨ls[k]'(by rw [← HM.out]; exact hlt), List.getElem?_eq_getElem _⟩
      have hcell := HR.out.row k l hl
      have hdrop : ls.drop k = l :: ls.drop (k + 1) := by
        have h2 := (List.getElem?_eq_some_iff.1 hl)
        rw [List.drop_eq_getElem_cons h2.1, h2.2]
      have hlsz := HSZ.out l (List.mem_of_getElem? hl)
      have HRes : Hid (textF inc file s1 (k + 1) (l :: ls.drop (k + 1)) = res) := by show _ = _; rw [← hdrop]; exact HR.out.res
      have hmem := Lib.hid (List.mem_of_getElem? hl)
      have HDir := Lib.hid (fun W => directive_any (B l) W (by rw [B_size]; exact hlsz))
      rw [B_list] at HDir
      obtain ⟨is, his⟩ : ∃ is, is = (dirL l).2.1 := ⟨_, rfl⟩
      obtain ⟨ok, hok⟩ : ∃ ok, ok = (dirL l).2.2 := ⟨_, rfl⟩
      have HIS := Lib.hid his
      have HOK := Lib.hid hok
      rw [← his, ← hok] at HDir
      have hn1 : ((k : Int) + 1) = ((k + 1 : Nat) : Int) := by omega
      obtain ⟨n1, hn⟩ : ∃ n1, n1 = k + 1 := ⟨_, rfl⟩
      rw [← hn] at hn1
      have HN := Lib.hid hn
      have hnB : n1 ≤ 1000001 := by omega
      have HL := Lib.hid hl
      have HLs := Lib.hid hlsz
      have hDwr : D ≤ wr.heap.size := by have := HR.out.size; have := HG.out; have := HDw.out; omega
      clear his hok hdrop hlsz hl hn
      go_wp2_with fail
      refine (HDir.out _).mono ?_
      rintro e w2 ⟨rfl, hb2⟩
      clear HDir
      have hb2' : Below wr.heap.size wr w2 := ((Below.refl _ _).alloc (Nat.le_refl _) _).trans (hb2.mono (by simp))
      have k0 : w2.cell? ⟨wr.heap.size, 0, none⟩ = some (.string (B file)) := by
        refine (hb2.cell (p := ⟨wr.heap.size, 0, none⟩) (by simp)).trans ?_
        rw [Lib.cell_of_heap (heap_alloc_at wr _)]; rfl
      have k1 : w2.cell? ⟨wr.heap.size, 1, none⟩ = some (.int .i64 (n1 : Int)) := by
        refine (hb2.cell (p := ⟨wr.heap.size, 1, none⟩) (by simp)).trans ?_
        rw [Lib.cell_of_heap (heap_alloc_at wr _)]; rfl
      have hp2 : wr.heap.size < w2.heap.size := Nat.lt_of_lt_of_le (by simp) hb2.size
      have HB2 := Lib.hid hb2'
      have HSt2 := Lib.hid (HR.out.st.below hb2')
      have HBD : Hid (Below D w w2) := by
        have h1 : Below D w w' := HB1.out.mono HDw.out
        have h2 : Below D w' wr := HR.out.apart.below (by have := HG.out; have := HDw.out; omega) (fun x hx => (HST.out.blk_lo hx).1)
        exact h1.trans (h2.trans (hb2'.mono hDwr))
      clear hb2 hb2'
      cases is with
      | true =>
        cases ok with
        | false =>
          have HRR : Hid (res = .bad file n1 192) := by
            show _ = _
            rw [← HRes.out, HN.out]
            unfold textF
            rw [if_pos HIS.out.symm, if_neg (by rw [← HOK.out]; decide)]
          go_wp2_with fail
          refine ⟨rfl, ?_⟩
          rw [HRR.out]
          exact ⟨rfl, HBD.out⟩
        | true =>
          have HRR : Hid (res = bindR (inc s1 (dirL l).1 file n1) fun s' => textF inc file s' (n1 + 1) (ls.drop (k + 1))) := by
            show _ = _
            rw [← HRes.out, HN.out]
            conv => lhs; unfold textF
            rw [if_pos HIS.out.symm, if_pos HOK.out.symm]
          have HC := Lib.hid (HINC.out l n1 w2 ap' bv' lv' ov' dv' s1 hmem.out HIS.out.symm HOK.out.symm hnB HSt2.out HR.out.inv HR.out.opn HBD.out)
          go_wp2_with fail
          refine HC.out.mono ?_
          rintro e w3 hO
          have HO := Lib.hid hO
          clear hO HC
          cases hr : inc s1 (dirL l).1 file n1 with
          | bad f mm c =>
            rw [hr] at HO HRR
            obtain ⟨rfl, hb3⟩ := HO.out
            go_wp2_with fail
            refine ⟨rfl, ?_⟩
            rw [HRR.out]
            exact ⟨rfl, HBD.out.trans hb3⟩
          | ok s2 =>
            rw [hr] at HO HRR
            obtain ⟨rfl, ap2, bv2, lv2, ov2, dv2, hst2, ha3, hl3⟩ := HO.out
            have HKK := Lib.hid (HK.out _ _ _ _ _ HR.out.inv hr)
            have HSt3 := Lib.hid hst2
            have HA3 := Lib.hid ha3
            have HL3 := Lib.hid hl3
            clear hst2 ha3 hl3 hr
            go_wp2_with fail
            obtain rfl := HN.out
            go_roundw
            case rel => exact ⟨k + 1, ap2, bv2, lv2, ov2, dv2, s2, rfl, by omega, HR.out.step HB2.out HSt3.out HA3.out HL3.out HKK.out.1 HKK.out.2 HG.out HGS.out HRR.out.symm⟩
            case measure => simp only [natOf]; omega
      | false =>
        have HRR : Hid (res = if 8192 < s1.out.length + l.length + 1 then .bad file n1 3 else textF inc file { s1 with out := s1.out ++ (l ++ [10]), lines := s1.lines ++ [(file, n1)] } (n1 + 1) (ls.drop (k + 1))) := by
          show _ = _
          rw [← HRes.out, HN.out]
          conv => lhs; unfold textF
          rw [if_neg (by rw [← HIS.out]; decide)]
        have HLn := Lib.hid (LenE_any HSt2.out.inB)
        have hbl : (Lib.byteCells s1.out).length = s1.out.length := Lib.byteCells_length _
        have hout := HR.out.inv.out
        have hlin := HR.out.inv.lines
        have hll := HLs.out
        have hBl : (B l).size = l.length := B_size l
        have HWs := Lib.hid (WriteStringE_any (B (l ++ [10])) HSt2.out.inB (by rw [hbl, B_size]; simp; omega) (Nat.le_trans hDwr HB2.out.size))
        have hBa : B l ++ ⟨#[10]⟩ = B (l ++ [10]) := B_app l [10]
        rw [← hBa] at HWs
        rw [hbl] at HLn
        obtain ⟨no, hno⟩ : ∃ no, no = s1.out.length := ⟨_, rfl⟩
        obtain ⟨nl, hnl⟩ : ∃ nl, nl = l.length := ⟨_, rfl⟩
        rw [← hno] at HLn hout hlin
        rw [← hnl] at hBl hll
        rw [← hno, ← hnl] at HRR
        have HNO := Lib.hid hno
        have HNL := Lib.hid hnl
        clear hbl hno hnl hBa
        by_cases hbig : 8192 < no + nl + 1
        · have hbI : (8192 : Int) < (no : Int) + (nl : Int) + 1 := by omega
          rw [if_pos hbig] at HRR
          go_wp2_with fail
          refine HLn.out.mono ?_
          rintro e _ ⟨rfl, rfl⟩
          go_wp2_with fail
          refine ⟨rfl, ?_⟩
          rw [HRR.out]
          exact ⟨rfl, HBD.out⟩
        · have hbI : ¬ (8192 : Int) < (no : Int) + (nl : Int) + 1 := by omega
          rw [if_neg hbig] at HRR
          go_wp2_with fail
          refine HLn.out.mono ?_
          rintro e w2 ⟨rfl, rfl⟩
          go_wp2_with fail
          refine HWs.out.mono ?_
          rintro e w3 ⟨rfl, bv3, hin3, ha3, hloc3⟩
          have HIn3 := Lib.hid hin3
          have HA3 := Lib.hid ha3
          have HLoc3 := Lib.hid hloc3
          have HSt3 := Lib.hid (HSt2.out.wrote HIn3.out HA3.out)
          have hpS : wr.heap.size ∉ b :: bv'.ownBlock.toList := by
            intro hm
            have h2 : wr.heap.size ∈ blk b bv' lv' ov' dv' := by
              rcases List.mem_cons.1 hm with h | h
              · exact mem_blk.2 (.inl h)
              · exact mem_blk.2 (.inr (.inl (by simpa using h)))
            have := (HR.out.st.blk_lo h2).2
            omega
          have hpe : w3.heap[wr.heap.size]? = w2.heap[wr.heap.size]? := ha3.block _ hp2 hpS
          have j0 : w3.cell? ⟨wr.heap.size, 0, none⟩ = some (.string (B file)) := by simp only [World.cell?, hpe]; exact k0
          have j1 : w3.cell? ⟨wr.heap.size, 1, none⟩ = some (.int .i64 (n1 : Int)) := by simp only [World.cell?, hpe]; exact k1
          have j3 : w3.cell? ⟨b, 3, none⟩ = some lv' := HSt3.out.cell 3
          clear hin3 ha3 hloc3 hpe k0 k1
          obtain ⟨i0, hi, hz0, hz1, hz2⟩ := info_parts infoP
          have HI := Lib.hid hi
          have HZ0 := Lib.hid hz0
          have HZ1 := Lib.hid hz1
          have HZ2 := Lib.hid hz2
          clear hi hz0 hz1 hz2
          go_wp2_with fail
          have HStW : Hid (St ((w3.alloc (.cells #[.string (B file), .int .i64 (n1 : Int)] 29)).drew) D b fv (.pointer (some ⟨b, 1, none⟩)) bv3 lv' ov' dv' { s1 with out := s1.out ++ (l ++ [10]) }) := HSt3.out.keep fun g hg => heap_alloc_lt w3 _ g (HSt3.out.blk_lo hg).2
          have j3' : (w3.alloc (.cells #[.string (B file), .int .i64 (n1 : Int)] 29)).cell? ⟨b, 3, none⟩ = some lv' := (cell_old (a := ⟨b, 3, none⟩) HSt3.out.lt).trans j3
          go_region_law (refine step_append_lies _ rfl (.tmp 68) (.tmp 70) 25 rfl D 29 i0 (.agg #[.string .empty, .int .i64 0]) 2 24 undP HI.out HZ0.out HZ1.out HZ2.out rfl (by decide) lv' s1.lines.length (cellsP s1.lines) (by simp [Act.eval]) HStW.out.lin ⟨w3.heap.size, 0, none⟩ 1 1 [.string (B file), .int .i64 (n1 : Int)] (by simp [Act.eval]) rfl (World.news_of_block (heap_alloc_at w3 (.cells #[.string (B file), .int .i64 (n1 : Int)] 29))) (by simp [Value.oneCell']) (by decide) (by unfold maxLen; omega) (by omega) (by have := HSt3.out.lt; have := HSt3.out.lo; simp; omega) _ rfl ?_; intro g cap w4 hown hgrow hat hlt4; have HS5 := Lib.hid (HStW.out.lined (p := (file, n1)) hown hgrow); have d3 : w4.cell? ⟨b, 3, none⟩ = some lv' := (hgrow.cell_far ⟨b, 3, none⟩ HStW.out.lt (fun e => own_ne HStW.out.lin HStW.out.heap (by decide) e.symm)).trans (HStW.out.cell 3); have f3 : w4.frozen? ⟨b, 3, none⟩ = false := (hgrow.frozen_far ⟨b, 3, none⟩ HStW.out.lt (fun e => own_ne HStW.out.lin HStW.out.heap (by decide) e.symm)).trans (HStW.out.frozen 3); have HGR := Lib.hid hgrow; have HAT := Lib.hid hat; clear hown hgrow hat hlt4)
          all_goals (try go_wp2_with fail)
          all_goals obtain rfl := HN.out
          all_goals refine ⟨⟨k + 1, .pointer (some ⟨b, 1, none⟩), bv3, .slice (some ⟨g, 0, none⟩) (s1.lines.length + 1) cap, ov', dv', { s1 with out := s1.out ++ (l ++ [10]), lines := s1.lines ++ [(file, k + 1)] }, rfl, by omega, ?_⟩, by simp only [natOf]; omega⟩
          all_goals exact HR.out.step HB2.out HS5.out (apart_lined HA3.out HGR.out) (loc_lined HLoc3.out (HAT.out.imp id (fun h => by rw [h]; have := HA3.out.size; show _ ≤ (w3.alloc _).heap.size; simp; omega))) ⟨HR.out.inv.nodup, HR.out.inv.sub, by have := HR.out.inv.lines; simp; omega, by have := HNO.out; have := HNL.out; simp; omega⟩ rfl HG.out HGS.out HRR.out.symm
    · have hkI : (m : Int) ≤ (k : Int) := by omega
      have hkm2 : k = m := by omega
      subst hkm2
      have HRR : Hid (res = .ok s1) := by
        show _ = _
        rw [← HR.out.res, HM.out, List.drop_length]
        rfl
      go_wp2_with fail
      go_end0
      rw [HRR.out]
      exact ⟨rfl, ap', bv', lv', ov', dv', HR.out.st, (Apart.of_below HB1.out _).trans HR.out.apart (fun x hx => .inl hx), fun x hx => (HR.out.loc x hx).elim .inl (fun h => .inr (by have := HG.out; omega))⟩
end Go.Proofs.YtmhjfdnpmfhmjaaDoor
