/- thresherlaw19.SourceOnce, walked. -/
import Derived.Test.YtmhjfdnpmfhmjaaDoorS11
import Derived.Test.YtmhjfdnpmfhmjaaDoorS12
namespace Go.Proofs.YtmhjfdnpmfhmjaaDoor
open Go.RowKit
set_option linter.unusedVariables false

theorem Contains_c (s : ByteArray) (c : UInt8) (w : World) :
    Calls Tryd.prog 12 #[.string s, .string ⟨#[c]⟩] w fun e w' => e = .returned (.bool (s.data.toList.contains c)) ∧ w' = w := by
  rw [show s.data.toList.contains c = decide (0 ≤ Lib.indexByte s.data.toList c) from ?_]
  · exact Tryd.strings_Contains_one s c w
  · generalize s.data.toList = l
    induction l with
    | nil => rfl
    | cons d t ih =>
      unfold Lib.indexByte
      by_cases hc : d = c
      · subst hc; simp
      · have hc' : ¬ c = d := fun e => hc e.symm
        rw [if_neg (by simpa using hc), List.contains_cons, ih, beq_eq_false_iff_ne.2 hc', Bool.false_or]
        have := Lib.indexByte_ge t c
        split
        · rename_i h; have := beq_iff_eq.1 h; simp; omega
        · rename_i h; have : Lib.indexByte t c ≠ -1 := fun e => h (beq_iff_eq.2 e)
          simp; omega

theorem infoFile : (Tryd.prog.info? 40).map (fun i => (i.zero, i.size, i.bytes)) = some (some (.agg #[.string .empty, .slice none 0 0]), 2, 40) := by kernel_rfl
theorem undFiles : Tryd.prog.underlying 22 = some (.slice 40) := by kernel_rfl
theorem chunks_row {w : World} {p : Nat} {xs : List ByteArray} {t : Str} {cs : Array Value} {n : Nat} (h : w.heap[p]? = some (.cells cs 9 (0, 0))) (hcs : cs = (xs.map Value.string).toArray) (hn : n = xs.length) (ht : t = (xs.map (·.data.toList)).flatten) (hl : t.length ≤ 1000000) (hx : xs.length ≤ 100) :
    Chunks w (.slice (some ⟨p, 0, none⟩) n n) t := by
  subst hcs
  subst hn
  refine .inr ⟨p, 0, xs.length, xs, rfl, fun j x hj => ?_, lt_of_heap h, by omega, Nat.le_refl _, ht, hl⟩
  rw [Lib.cell_of_heap h, Nat.zero_add]
  simp [hj]

def incLit : ByteArray := ⟨#[10, 64, 105, 110, 99, 108, 117, 100, 101, 32, 34, 103, 34, 10]⟩
section
variable {w : World} {p q r h g : Nat} {sa sb sc : ByteArray}
theorem files3 (h1 : w.heap[p]? = some (.cells #[.string sa, .string incLit, .string sb] 9 (0, 0))) (h2 : w.heap[q]? = some (.cells #[.string sc] 9 (0, 0)))
    (h3 : w.heap[r]? = some (.cells #[.string ⟨#[102]⟩, .slice (some ⟨p, 0, none⟩) 3 3, .string ⟨#[103]⟩, .slice (some ⟨q, 0, none⟩) 1 1] 40 (0, 0))) (hl : sa.size + sb.size + sc.size ≤ 6000) :
    FilesV w (.slice (some ⟨r, 0, none⟩) 2 2) (fs3 sa.data.toList sb.data.toList sc.data.toList) := by
  refine .inr ⟨r, 0, 2, rfl, Nat.le_refl _, lt_of_heap h3, by show 2 ≤ _; omega, ?_⟩
  intro j u hj
  rw [Lib.cell_of_heap h3, Lib.cell_of_heap h3]
  match j, hj with
  | 0, hj =>
    cases hj
    exact ⟨_, rfl, rfl, chunks_row (xs := [sa, incLit, sb]) h1 rfl rfl (by simp [gL, incLit]) (by simp [gL]; omega) (by simp)⟩
  | 1, hj =>
    cases hj
    exact ⟨_, rfl, rfl, chunks_row (xs := [sc]) h2 rfl rfl (by simp) (by simp; omega) (by simp)⟩
  | j + 2, hj => cases j <;> cases hj
theorem files4 {c : Nat} (h1 : w.heap[p]? = some (.cells #[.string sa, .string incLit, .string sb] 9 (0, 0))) (h2 : w.heap[q]? = some (.cells #[.string sc] 9 (0, 0)))
    (hh : w.heap[h]? = some (.cells #[.string ⟨#[10, 10, 64, 105, 110, 99, 108, 117, 100, 101, 32, 34, 104, 34]⟩] 9 (0, 0)))
    (h3 : w.ownsRow 0 40 2 (.slice (some ⟨g, 0, none⟩) 3 c) 3 [.string ⟨#[102]⟩, .slice (some ⟨p, 0, none⟩) 3 3, .string ⟨#[103]⟩, .slice (some ⟨q, 0, none⟩) 1 1, .string ⟨#[104]⟩, .slice (some ⟨h, 0, none⟩) 1 1]) (hl : sa.size + sb.size + sc.size ≤ 6000) :
    FilesV w (.slice (some ⟨g, 0, none⟩) 3 c) (fs4 sa.data.toList sb.data.toList sc.data.toList) := by
  have hc := fun k u hu => h3.cells (g := g) rfl k u hu
  have hk : ∀ k u, ([.string ⟨#[102]⟩, .slice (some ⟨p, 0, none⟩) 3 3, .string ⟨#[103]⟩, .slice (some ⟨q, 0, none⟩) 1 1, .string ⟨#[104]⟩, .slice (some ⟨h, 0, none⟩) 1 1] : List Value)[k]? = some u → w.cell? ⟨g, k, none⟩ = some u := by
    intro k u hu
    have := hc k u hu
    rw [Addr.add_lit, Nat.zero_add] at this
    exact this
  have hb := h3.lt g rfl
  have hcap : 3 ≤ c := by
    rcases h3.2 with ⟨e, _⟩ | ⟨g6, cap6, cur6, e, _, _, hc6, _⟩
    · cases e
    · injection e with e1 e2 e3
      omega
  refine .inr ⟨g, 0, c, rfl, hcap, hb.2, by show 3 ≤ _; omega, ?_⟩
  intro j u hj
  match j, hj with
  | 0, hj =>
    cases hj
    exact ⟨_, hk 0 _ rfl, hk 1 _ rfl, chunks_row (xs := [sa, incLit, sb]) h1 rfl rfl (by simp [gL, incLit]) (by simp [gL]; omega) (by simp)⟩
  | 1, hj =>
    cases hj
    exact ⟨_, hk 2 _ rfl, hk 3 _ rfl, chunks_row (xs := [sc]) h2 rfl rfl (by simp) (by simp; omega) (by simp)⟩
  | 2, hj =>
    cases hj
    exact ⟨_, hk 4 _ rfl, hk 5 _ rfl, chunks_row (xs := [⟨#[10, 10, 64, 105, 110, 99, 108, 117, 100, 101, 32, 34, 104, 34]⟩]) hh rfl rfl (by simp) (by decide) (by decide)⟩
  | j + 3, hj => cases j <;> cases hj
end

set_option maxHeartbeats 16000000 in
set_option maxRecDepth 1000000 in
theorem once_any (sa sb sc : ByteArray) (w : World) (hM : MaxOk w) (za : sa.size ≤ 140737488351232) (zb : sb.size ≤ 140737488351232) (zc : sc.size ≤ 140737488351232) :
    Calls Tryd.prog 4 #[.string sa, .string sb, .string sc] w fun e w' => e = .returned (.bool true) ∧ Below w.heap.size w w' := by
  have HFx := Lib.hid (fixed_any w hM)
  have HM := Lib.hid hM
  clear hM
  have hsz : (sa ++ sb ++ sc).size = sa.size + sb.size + sc.size := by simp [ByteArray.size_append]
  have hdat : (sa ++ sb ++ sc).data.toList = sa.data.toList ++ sb.data.toList ++ sc.data.toList := by simp [ByteArray.data_append]
  have HC1 := Lib.hid (fun W => Contains_c (sa ++ sb ++ sc) 64 W)
  have HC2 := Lib.hid (fun W => Contains_c (sa ++ sb ++ sc) 10 W)
  obtain ⟨k1, hk1⟩ : ∃ k, k = (sa ++ sb ++ sc).data.toList.contains 64 := ⟨_, rfl⟩
  obtain ⟨k2, hk2⟩ : ∃ k, k = (sa ++ sb ++ sc).data.toList.contains 10 := ⟨_, rfl⟩
  rw [← hk1] at HC1
  rw [← hk2] at HC2
  rw [hdat] at hk1 hk2
  have HK1 := Lib.hid hk1
  have HK2 := Lib.hid hk2
  clear hdat hk1 hk2 hsz
  by_cases hbig : 6000 < sa.size + sb.size + sc.size
  · have hbI : (6000 : Int) < (sa.size : Int) + (sb.size : Int) + (sc.size : Int) := by omega
    go_enter Tryd.func4, Tryd.ntmps4
    go_wp2_with fail
    refine HFx.out.mono ?_
    rintro e w1 ⟨rfl, hb1⟩
    have HB1 := Lib.hid hb1
    clear hb1 HFx
    go_wp2_with fail
    go_ret
    exact ⟨rfl, HB1.out⟩
  · have hbI : ¬ (6000 : Int) < (sa.size : Int) + (sb.size : Int) + (sc.size : Int) := by omega
    go_enter Tryd.func4, Tryd.ntmps4
    go_wp2_with fail
    refine HFx.out.mono ?_
    rintro e w1 ⟨rfl, hb1⟩
    have HB1 := Lib.hid hb1
    have HM1 := Lib.hid (HM.out.below hb1 HM.out.lt)
    clear hb1 HFx
    go_wp2_with fail
    refine (HC1.out _).mono ?_
    rintro e w1 ⟨rfl, rfl⟩
    cases k1 with
    | true =>
      go_wp2_with fail
      go_ret
      exact ⟨rfl, HB1.out⟩
    | false =>
      go_wp2_with fail
      refine (HC2.out _).mono ?_
      rintro e w1 ⟨rfl, rfl⟩
      cases k2 with
      | true =>
        go_wp2_with fail
        go_ret
        exact ⟨rfl, HB1.out⟩
      | false =>
        have hn1 : 64 ∉ sa.data.toList ++ sb.data.toList ++ sc.data.toList := by
          intro h; have := HK1.out; rw [List.contains_iff_mem.2 h] at this; cases this
        have hn2 : 10 ∉ sa.data.toList ++ sb.data.toList ++ sc.data.toList := by
          intro h; have := HK2.out; rw [List.contains_iff_mem.2 h] at this; cases this
        have HN := Lib.hid (And.intro hn1 hn2)
        clear hn1 hn2 HC1 HC2 HK1 HK2
        obtain ⟨w2, hw2⟩ : ∃ w2, w2 = ((w1.alloc (.cells #[.string sa, .string incLit, .string sb] 9)).alloc (.cells #[.string sc] 9)).alloc (.cells #[.string ⟨#[102]⟩, .slice (some ⟨w1.heap.size, 0, none⟩) 3 3, .string ⟨#[103]⟩, .slice (some ⟨w1.heap.size + 1, 0, none⟩) 1 1] 40) := ⟨_, rfl⟩
        have hb2 : Below w1.heap.size w1 w2 := hw2 ▸ ((((Below.refl _ _).alloc (Nat.le_refl _) _).alloc (by simp) _).alloc (by simp; omega) _)
        have hz2 : w2.heap.size = w1.heap.size + 1 + 1 + 1 := by rw [hw2]; simp
        have p2 : w2.heap[w1.heap.size]? = some (.cells #[.string sa, .string incLit, .string sb] 9 (0, 0)) := by
          rw [hw2, heap_alloc_lt _ _ _ (by simp; omega), heap_alloc_lt _ _ _ (by simp)]; exact heap_alloc_at w1 _
        have q2 : w2.heap[w1.heap.size + 1]? = some (.cells #[.string sc] 9 (0, 0)) := by
          rw [hw2, heap_alloc_lt _ _ _ (by simp)]
          have h := heap_alloc_at (w1.alloc (.cells #[.string sa, .string incLit, .string sb] 9)) (.cells #[.string sc] 9)
          rw [show (w1.alloc (Obj.cells #[Value.string sa, Value.string incLit, Value.string sb] 9)).heap.size = w1.heap.size + 1 from by simp] at h
          exact h
        have r2 : w2.heap[w1.heap.size + 1 + 1]? = some (.cells #[.string ⟨#[102]⟩, .slice (some ⟨w1.heap.size, 0, none⟩) 3 3, .string ⟨#[103]⟩, .slice (some ⟨w1.heap.size + 1, 0, none⟩) 1 1] 40 (0, 0)) := by
          rw [hw2]
          have h := heap_alloc_at ((w1.alloc (.cells #[.string sa, .string incLit, .string sb] 9)).alloc (.cells #[.string sc] 9)) (.cells #[.string ⟨#[102]⟩, .slice (some ⟨w1.heap.size, 0, none⟩) 3 3, .string ⟨#[103]⟩, .slice (some ⟨w1.heap.size + 1, 0, none⟩) 1 1] 40)
          rw [show ((w1.alloc (Obj.cells #[Value.string sa, Value.string incLit, Value.string sb] 9)).alloc (Obj.cells #[Value.string sc] 9)).heap.size = w1.heap.size + 1 + 1 from by simp] at h
          exact h
        have hlen : sa.size + sb.size + sc.size ≤ 6000 := by omega
        have hld : sa.data.toList.length + sb.data.toList.length + sc.data.toList.length ≤ 6000 := by simpa using hlen
        have hn1 := HN.out.1
        have hn2 := HN.out.2
        have na : 64 ∉ sa.data.toList := fun h => hn1 (by simp [h])
        have nb : 64 ∉ sb.data.toList := fun h => hn1 (by simp [h])
        have nc : 64 ∉ sc.data.toList := fun h => hn1 (by simp [h])
        have ma : 10 ∉ sa.data.toList := fun h => hn2 (by simp [h])
        have mb : 10 ∉ sb.data.toList := fun h => hn2 (by simp [h])
        have mc : 10 ∉ sc.data.toList := fun h => hn2 (by simp [h])
        obtain ⟨L1, d1, e1⟩ := once1 na ma nb mb nc mc hld
        obtain ⟨L2, d2, e2⟩ := once2 na ma nb mb nc mc hld
        obtain ⟨o1, ho1⟩ : ∃ o, o = sa.data.toList ++ [10] ++ lineE sc.data.toList ++ lineE sb.data.toList := ⟨_, rfl⟩
        obtain ⟨o2, ho2⟩ : ∃ o, o = lineE sc.data.toList ++ (sa.data.toList ++ [10]) ++ lineE sb.data.toList := ⟨_, rfl⟩
        rw [← ho1] at e1
        rw [← ho2] at e2
        have HO1 := Lib.hid ho1
        have HO2 := Lib.hid ho2
        have e3 := once3 sa.data.toList sb.data.toList sc.data.toList
        have hsz : ∀ x t, look (fs3 sa.data.toList sb.data.toList sc.data.toList) x = some t → t.length ≤ 1000000 := by
          intro x t h
          obtain ⟨k, p, g1, g2, g3, _⟩ := look_some h
          have hm := List.mem_of_getElem? g1
          simp [fs3] at hm
          rcases hm with rfl | rfl
          · subst g3; simp [gL]; omega
          · subst g3; simp; omega
        have hsz4 : ∀ x t, look (fs4 sa.data.toList sb.data.toList sc.data.toList) x = some t → t.length ≤ 1000000 := by
          intro x t h
          obtain ⟨k, p, g1, g2, g3, _⟩ := look_some h
          have hm := List.mem_of_getElem? g1
          simp [fs4] at hm
          rcases hm with rfl | rfl | rfl
          · subst g3; simp [gL]; omega
          · subst g3; simp; omega
          · subst g3; simp
        have hF2 := files3 p2 q2 r2 hlen
        have hM2 : MaxOk w2 := HM1.out.below hb2 HM1.out.lt
        have HL1 := Lib.hid (Load_any (fs3 sa.data.toList sb.data.toList sc.data.toList) (B t1) (.slice (some ⟨w1.heap.size + 1 + 1, 0, none⟩) 2 2) w2 ⟨_, _, _, rfl⟩ hM2 (by rw [B_size]; decide) (by simp [fs3]) (.inr ⟨hF2, hsz⟩))
        rw [B_list, show (List.map (fun x : Str × Str => x.1) (fs3 sa.data.toList sb.data.toList sc.data.toList)).length + 1 = 3 from rfl, e1] at HL1
        have HL2 := Lib.hid (fun W (h : MaxOk W) (hF : FilesV W (.slice (some ⟨w1.heap.size + 1 + 1, 0, none⟩) 2 2) (fs3 sa.data.toList sb.data.toList sc.data.toList)) => Load_any _ (B t2) _ W ⟨_, _, _, rfl⟩ h (by rw [B_size]; decide) (by simp [fs3]) (.inr ⟨hF, hsz⟩))
        have HL3 := Lib.hid (fun W g c (h : MaxOk W) (hF : FilesV W (.slice (some ⟨g, 0, none⟩) 3 c) (fs4 sa.data.toList sb.data.toList sc.data.toList)) => Load_any _ (B t3) _ W ⟨_, _, _, rfl⟩ h (by rw [B_size]; decide) (by simp [fs4]) (.inr ⟨hF, hsz4⟩))
        have hR2 : ∀ W, LoadR W (loadF (look (fs3 sa.data.toList sb.data.toList sc.data.toList)) ((List.map (fun x : Str × Str => x.1) (fs3 sa.data.toList sb.data.toList sc.data.toList)).length + 1) (B t2).data.toList) = LoadR W (.ok ⟨o2, L2, [], d2⟩) := by
          intro W
          rw [B_list, show (List.map (fun x : Str × Str => x.1) (fs3 sa.data.toList sb.data.toList sc.data.toList)).length + 1 = 3 from rfl, e2]
        have hR3 : ∀ W, LoadR W (loadF (look (fs4 sa.data.toList sb.data.toList sc.data.toList)) ((List.map (fun x : Str × Str => x.1) (fs4 sa.data.toList sb.data.toList sc.data.toList)).length + 1) (B t3).data.toList) = LoadR W (.bad [104] 3 191) := by
          intro W
          rw [B_list, show (List.map (fun x : Str × Str => x.1) (fs4 sa.data.toList sb.data.toList sc.data.toList)).length + 1 = 4 from rfl, e3]
        have HR2 := Lib.hid hR2
        have HR3 := Lib.hid hR3
        have HF2 := Lib.hid hF2
        have HM2 := Lib.hid hM2
        have HB2 := Lib.hid (HB1.out.trans (hb2.mono HB1.out.size))
        have hT1 : B t1 = ⟨#[64, 105, 110, 99, 108, 117, 100, 101, 32, 34, 102, 34, 10, 64, 105, 110, 99, 108, 117, 100, 101, 32, 34, 103, 34, 10, 64, 105, 110, 99, 108, 117, 100, 101, 9, 34, 102, 34, 32, 10]⟩ := by kernel_rfl
        have hT2 : B t2 = ⟨#[64, 105, 110, 99, 108, 117, 100, 101, 32, 34, 103, 34, 10, 64, 105, 110, 99, 108, 117, 100, 101, 32, 34, 102, 34, 10]⟩ := by kernel_rfl
        have hT3 : B t3 = ⟨#[64, 105, 110, 99, 108, 117, 100, 101, 32, 34, 104, 34]⟩ := by kernel_rfl
        rw [hT1] at HL1
        have HT2 := Lib.hid hT2
        have HT3 := Lib.hid hT3
        have HP2 := Lib.hid p2
        have HQ2 := Lib.hid q2
        have HRR2 := Lib.hid r2
        have HZ2 := Lib.hid hz2
        have HLn := Lib.hid hlen
        clear hb2 hz2 p2 q2 r2 hlen hld hn1 hn2 na nb nc ma mb mc e1 e2 e3 hsz hsz4 hF2 hM2 hR2 hR3 hT1 hT2 hT3 HM1 HN ho1 ho2
        unfold incLit at hw2
        subst hw2
        go_wp2_with fail
        refine HL1.out.mono ?_
        rintro e w3 ⟨lv1, rfl, hrow1, hb3⟩
        have HB3 := Lib.hid hb3
        obtain ⟨la1, lc1, rfl⟩ := (Pls.ofOwn hrow1).slice
        have HM3 := Lib.hid (HM2.out.below hb3 HM2.out.lt)
        have HF3 := Lib.hid (HF2.out.below hb3)
        have HZ3 := Lib.hid hb3.size
        have HB3' := Lib.hid (HB2.out.trans (hb3.mono HB2.out.size))
        have HP3 : Hid (w3.heap[w1.heap.size]? = _) := (hb3.block _ (by have := HZ2.out; omega)).trans HP2.out
        have HQ3 : Hid (w3.heap[w1.heap.size + 1]? = _) := (hb3.block _ (by have := HZ2.out; omega)).trans HQ2.out
        have HRR3 : Hid (w3.heap[w1.heap.size + 1 + 1]? = _) := (hb3.block _ (by have := HZ2.out; omega)).trans HRR2.out
        have hz3 : w1.heap.size + 1 + 1 < w3.heap.size := by have := hb3.size; have := HZ2.out; omega
        have HZ3' := Lib.hid hz3
        generalize L1.length = n1 at *
        clear hrow1 hb3 HL1 HZ3 HP2 HQ2 HRR2 HB3 HM2 HF2 HZ2 hz3
        obtain ⟨w4, hw4⟩ : ∃ w4, w4 = (w3.alloc (.cells #[.string (B o1), .slice la1 n1 lc1] 27)).alloc (.cells #[.string ⟨#[]⟩, .int .i64 0] 29) := ⟨_, rfl⟩
        have hb4 : Below w3.heap.size w3 w4 := hw4 ▸ (((Below.refl _ _).alloc (Nat.le_refl _) _).alloc (by simp) _)
        have hz4 : w4.heap.size = w3.heap.size + 1 + 1 := by rw [hw4]; simp
        have s4 : w4.heap[w3.heap.size]? = some (.cells #[.string (B o1), .slice la1 n1 lc1] 27 (0, 0)) := by
          rw [hw4, heap_alloc_lt _ _ _ (by simp)]; exact heap_alloc_at w3 _
        have HL2' := Lib.hid (HL2.out w4 (HM3.out.below hb4 HM3.out.lt) (HF3.out.below hb4))
        rw [HR2.out w4, HT2.out] at HL2'
        have HM4 := Lib.hid (HM3.out.below hb4 HM3.out.lt)
        have HB4 := Lib.hid (HB3'.out.trans (hb4.mono HB3'.out.size))
        have HP4 : Hid (w4.heap[w1.heap.size]? = _) := (hb4.block _ (by have := HZ3'.out; omega)).trans HP3.out
        have HQ4 : Hid (w4.heap[w1.heap.size + 1]? = _) := (hb4.block _ (by have := HZ3'.out; omega)).trans HQ3.out
        have HRR4 : Hid (w4.heap[w1.heap.size + 1 + 1]? = _) := (hb4.block _ HZ3'.out).trans HRR3.out
        have HS4 := Lib.hid s4
        have HZ4 := Lib.hid hz4
        clear hb4 hz4 s4 HL2 HR2 HP3 HQ3 HRR3 HM3 HF3 HB3'
        subst hw4
        go_wp2_with fail
        refine HL2'.out.mono ?_
        rintro e w5 ⟨lv2, rfl, hrow2, hb5⟩
        obtain ⟨la2, lc2, rfl⟩ := (Pls.ofOwn hrow2).slice
        have HZ5 := Lib.hid hb5.size
        have HB5 := Lib.hid (HB4.out.trans (hb5.mono HB4.out.size))
        have HM5 := Lib.hid (HM4.out.below hb5 HM4.out.lt)
        have HP5 : Hid (w5.heap[w1.heap.size]? = _) := (hb5.block _ (by have := HZ4.out; have := HZ3'.out; omega)).trans HP4.out
        have HQ5 : Hid (w5.heap[w1.heap.size + 1]? = _) := (hb5.block _ (by have := HZ4.out; have := HZ3'.out; omega)).trans HQ4.out
        have HRR5 : Hid (w5.heap[w1.heap.size + 1 + 1]? = _) := (hb5.block _ (by have := HZ4.out; have := HZ3'.out; omega)).trans HRR4.out
        have HS5 : Hid (w5.heap[w3.heap.size]? = _) := (hb5.block _ (by have := HZ4.out; omega)).trans HS4.out
        have HZ5' : Hid (w3.heap.size < w5.heap.size) := by have := hb5.size; have := HZ4.out; show _ < _; omega
        generalize L2.length = n2 at *
        clear hrow2 hb5 HL2' HP4 HQ4 HRR4 HS4 HM4 HB4 HZ4 HZ5
        obtain ⟨w7, hw7⟩ : ∃ w7, w7 = (((w5.alloc (.cells #[.string (B o2), .slice la2 n2 lc2] 27)).alloc (.cells #[.string ⟨#[]⟩, .int .i64 0] 29)).alloc (.cells #[.string ⟨#[10, 10, 64, 105, 110, 99, 108, 117, 100, 101, 32, 34, 104, 34]⟩] 9)).alloc (.cells #[.string ⟨#[104]⟩, .slice (some ⟨w5.heap.size + 1 + 1, 0, none⟩) 1 1] 40) := ⟨_, rfl⟩
        have hb7 : Below w5.heap.size w5 w7 := hw7 ▸ (((((Below.refl _ _).alloc (Nat.le_refl _) _).alloc (by simp) _).alloc (by simp; omega) _).alloc (by simp; omega) _)
        have hz7 : w7.heap.size = w5.heap.size + 1 + 1 + 1 + 1 := by rw [hw7]; simp
        have HS7 : Hid (w7.heap[w5.heap.size]? = some (.cells #[.string (B o2), .slice la2 n2 lc2] 27 (0, 0))) := by
          show _ = _
          rw [hw7, heap_alloc_lt _ _ _ (by simp; omega), heap_alloc_lt _ _ _ (by simp; omega), heap_alloc_lt _ _ _ (by simp)]; exact heap_alloc_at w5 _
        have HH7 : Hid (w7.heap[w5.heap.size + 1 + 1]? = some (.cells #[.string ⟨#[10, 10, 64, 105, 110, 99, 108, 117, 100, 101, 32, 34, 104, 34]⟩] 9 (0, 0))) := by
          show _ = _
          rw [hw7, heap_alloc_lt _ _ _ (by simp)]
          have h := heap_alloc_at ((w5.alloc (.cells #[.string (B o2), .slice la2 n2 lc2] 27)).alloc (.cells #[.string ⟨#[]⟩, .int .i64 0] 29)) (.cells #[.string ⟨#[10, 10, 64, 105, 110, 99, 108, 117, 100, 101, 32, 34, 104, 34]⟩] 9)
          rw [show ((w5.alloc (Obj.cells #[Value.string (B o2), Value.slice la2 n2 lc2] 27)).alloc (Obj.cells #[Value.string ⟨#[]⟩, Value.int .i64 0] 29)).heap.size = w5.heap.size + 1 + 1 from by simp] at h
          exact h
        have HN7 : Hid (w7.heap[w5.heap.size + 1 + 1 + 1]? = some (.cells #[.string ⟨#[104]⟩, .slice (some ⟨w5.heap.size + 1 + 1, 0, none⟩) 1 1] 40 (0, 0))) := by
          show _ = _
          rw [hw7]
          have h := heap_alloc_at (((w5.alloc (.cells #[.string (B o2), .slice la2 n2 lc2] 27)).alloc (.cells #[.string ⟨#[]⟩, .int .i64 0] 29)).alloc (.cells #[.string ⟨#[10, 10, 64, 105, 110, 99, 108, 117, 100, 101, 32, 34, 104, 34]⟩] 9)) (.cells #[.string ⟨#[104]⟩, .slice (some ⟨w5.heap.size + 1 + 1, 0, none⟩) 1 1] 40)
          rw [show (((w5.alloc (Obj.cells #[Value.string (B o2), Value.slice la2 n2 lc2] 27)).alloc (Obj.cells #[Value.string ⟨#[]⟩, Value.int .i64 0] 29)).alloc (Obj.cells #[Value.string ⟨#[10, 10, 64, 105, 110, 99, 108, 117, 100, 101, 32, 34, 104, 34]⟩] 9)).heap.size = w5.heap.size + 1 + 1 + 1 from by simp] at h
          exact h
        have HRow7 : Hid (w7.ownsRow 0 40 2 (.slice (some ⟨w1.heap.size + 1 + 1, 0, none⟩) 2 2) 2 [.string ⟨#[102]⟩, .slice (some ⟨w1.heap.size, 0, none⟩) 3 3, .string ⟨#[103]⟩, .slice (some ⟨w1.heap.size + 1, 0, none⟩) 1 1]) :=
          ⟨rfl, .inr ⟨w1.heap.size + 1 + 1, 2, _, rfl, Nat.zero_le _, (hb7.block _ (by have := HZ5'.out; have := HZ3'.out; omega)).trans HRR5.out, Nat.le_refl _, by decide, rfl, rfl⟩⟩
        have HP7 : Hid (w7.heap[w1.heap.size]? = _) := (hb7.block _ (by have := HZ5'.out; have := HZ3'.out; omega)).trans HP5.out
        have HQ7 : Hid (w7.heap[w1.heap.size + 1]? = _) := (hb7.block _ (by have := HZ5'.out; have := HZ3'.out; omega)).trans HQ5.out
        have HS73 : Hid (w7.heap[w3.heap.size]? = _) := (hb7.block _ HZ5'.out).trans HS5.out
        have HM7 := Lib.hid (HM5.out.below hb7 HM5.out.lt)
        have HB7 := Lib.hid (HB5.out.trans (hb7.mono HB5.out.size))
        have HZ7 := Lib.hid hz7
        clear hb7 hz7 HP5 HQ5 HRR5 HS5 HM5 HB5
        obtain ⟨i0, hi, hz0, hz1, hz2⟩ := info_parts infoFile
        go_wp2_with (at_builtin; rw [← hw7]; go_loud (refine wpList_append_lies _ rfl _ _ 22 rfl 0 40 i0 (.agg #[.string .empty, .slice none 0 0]) 2 40 undFiles hi hz0 hz1 hz2 rfl (by decide) _ 2 _ rfl HRow7.out ⟨w5.heap.size + 1 + 1 + 1, 0, none⟩ 1 1 [.string ⟨#[104]⟩, .slice (some ⟨w5.heap.size + 1 + 1, 0, none⟩) 1 1] rfl rfl (World.news_of_block HN7.out) (by simp [Value.oneCell']) (by decide) (by decide) (by decide) (Nat.zero_le _) _ rfl ?_))
        intro g cap w8 hown hgrow hat hlt8
        rw [← hw7] at hgrow
        have hr8 : ∀ k, k < w7.heap.size → k ≠ w1.heap.size + 1 + 1 → w8.heap[k]? = w7.heap[k]? := fun k hk hn => hgrow.block k hk (fun e => hn (Option.some.inj e))
        have hz7 := HZ7.out
        have hz5' := HZ5'.out
        have hz3' := HZ3'.out
        have hF8 := files4 ((hr8 _ (by omega) (by omega)).trans HP7.out) ((hr8 _ (by omega) (by omega)).trans HQ7.out) ((hr8 _ (by omega) (by omega)).trans HH7.out) hown HLn.out
        have hM8 : MaxOk w8 := by
          obtain ⟨m, hm⟩ := HM7.out
          refine ⟨m, ?_⟩
          have e := hr8 0 (by omega) (by omega)
          simp only [World.cell?, e]
          exact hm
        have hb8 : Below w.heap.size w w8 := HB7.out.grown hgrow HB7.out.size (fun k hk => by have := HB1.out.size; have h2 : w1.heap.size + 1 + 1 = k := Option.some.inj hk; omega)
        have HL3' := Lib.hid (HL3.out w8 g cap hM8 hF8)
        rw [HR3.out w8, HT3.out] at HL3'
        have HS81 : Hid (w8.heap[w3.heap.size]? = _) := (hr8 _ (by omega) (by omega)).trans HS73.out
        have HS82 : Hid (w8.heap[w5.heap.size]? = _) := (hr8 _ (by omega) (by omega)).trans HS7.out
        have hz8 := hgrow.size
        have HB8 := Lib.hid hb8
        have hc3 : w3.heap.size < w8.heap.size := by omega
        have hc5 : w5.heap.size < w8.heap.size := by omega
        clear hown hgrow hat hlt8 hF8 hM8 hb8 hr8 HL3 HR3 hi hz0 hz1 hz2 HP7 HQ7 HH7 HN7 HRow7 HM7 HB7 HS73 HS7 hz7 hz5' hz3' hz8 HZ7 HZ5' HZ3'
        go_wp2_with fail
        refine HL3'.out.mono ?_
        rintro e w9 ⟨rfl, hb9⟩
        have s10 : w9.cell? ⟨w3.heap.size, 0, none⟩ = some (.string (B o1)) := by rw [hb9.cell (p := ⟨w3.heap.size, 0, none⟩) hc3, Lib.cell_of_heap HS81.out]; rfl
        have s20 : w9.cell? ⟨w5.heap.size, 0, none⟩ = some (.string (B o2)) := by rw [hb9.cell (p := ⟨w5.heap.size, 0, none⟩) hc5, Lib.cell_of_heap HS82.out]; rfl
        have hd3 : w3.heap.size < w9.heap.size := Nat.lt_of_lt_of_le hc3 hb9.size
        have hd5 : w5.heap.size < w9.heap.size := Nat.lt_of_lt_of_le hc5 hb9.size
        have HB9 := Lib.hid (HB8.out.trans (hb9.mono HB8.out.size))
        have hBh : B ([104] : Str) = ⟨#[104]⟩ := rfl
        rw [hBh]
        clear hb9 HL3' hc3 hc5 HS81 HS82 HB8 hw7 hBh
        have hE : ∀ x : ByteArray, x.toList.isEmpty = decide (x.data.toList = []) := by intro x; rw [Lib.toList_data]; cases x.data.toList <;> rfl
        have hxx : ∀ x y : ByteArray, x.data.toList = y.data.toList → (x.toList == y.toList) = true := by intro x y h; rw [Lib.toList_data, Lib.toList_data, h]; simp
        by_cases hb0 : sb.data.toList = []
        · by_cases hc0 : sc.data.toList = []
          · have v1 : sb.toList.isEmpty = true := by rw [hE]; simpa using hb0
            have v2 : sc.toList.isEmpty = true := by rw [hE]; simpa using hc0
            have v3 : ((B o1).toList == (sa ++ ⟨#[10]⟩ ++ sc ++ ⟨#[]⟩ ++ sb ++ ⟨#[]⟩).toList) = true := hxx _ _ (by rw [B_list, HO1.out]; unfold lineE; rw [if_pos hb0, if_pos hc0]; simp [ByteArray.data_append, hb0, hc0])
            have v4 : ((B o2).toList == (sc ++ ⟨#[]⟩ ++ sa ++ ⟨#[10]⟩ ++ sb ++ ⟨#[]⟩).toList) = true := hxx _ _ (by rw [B_list, HO2.out]; unfold lineE; rw [if_pos hb0, if_pos hc0]; simp [ByteArray.data_append, hb0, hc0])
            clear hE hxx hb0 hc0 HO1 HO2
            go_wp2_with fail
            go_ret
            refine ⟨rfl, (HB9.out.alloc HB9.out.size _).alloc ?_ _⟩
            have := HB9.out.size
            simp
            omega
          · have v1 : sb.toList.isEmpty = true := by rw [hE]; simpa using hb0
            have v2 : sc.toList.isEmpty = false := by rw [hE]; simpa using hc0
            have v3 : ((B o1).toList == (sa ++ ⟨#[10]⟩ ++ sc ++ ⟨#[10]⟩ ++ sb ++ ⟨#[]⟩).toList) = true := hxx _ _ (by rw [B_list, HO1.out]; unfold lineE; rw [if_pos hb0, if_neg hc0]; simp [ByteArray.data_append, hb0])
            have v4 : ((B o2).toList == (sc ++ ⟨#[10]⟩ ++ sa ++ ⟨#[10]⟩ ++ sb ++ ⟨#[]⟩).toList) = true := hxx _ _ (by rw [B_list, HO2.out]; unfold lineE; rw [if_pos hb0, if_neg hc0]; simp [ByteArray.data_append, hb0])
            clear hE hxx hb0 hc0 HO1 HO2
            go_wp2_with fail
            go_ret
            refine ⟨rfl, (HB9.out.alloc HB9.out.size _).alloc ?_ _⟩
            have := HB9.out.size
            simp
            omega
        · by_cases hc0 : sc.data.toList = []
          · have v1 : sb.toList.isEmpty = false := by rw [hE]; simpa using hb0
            have v2 : sc.toList.isEmpty = true := by rw [hE]; simpa using hc0
            have v3 : ((B o1).toList == (sa ++ ⟨#[10]⟩ ++ sc ++ ⟨#[]⟩ ++ sb ++ ⟨#[10]⟩).toList) = true := hxx _ _ (by rw [B_list, HO1.out]; unfold lineE; rw [if_neg hb0, if_pos hc0]; simp [ByteArray.data_append, hc0])
            have v4 : ((B o2).toList == (sc ++ ⟨#[]⟩ ++ sa ++ ⟨#[10]⟩ ++ sb ++ ⟨#[10]⟩).toList) = true := hxx _ _ (by rw [B_list, HO2.out]; unfold lineE; rw [if_neg hb0, if_pos hc0]; simp [ByteArray.data_append, hc0])
            clear hE hxx hb0 hc0 HO1 HO2
            go_wp2_with fail
            go_ret
            refine ⟨rfl, (HB9.out.alloc HB9.out.size _).alloc ?_ _⟩
            have := HB9.out.size
            simp
            omega
          · have v1 : sb.toList.isEmpty = false := by rw [hE]; simpa using hb0
            have v2 : sc.toList.isEmpty = false := by rw [hE]; simpa using hc0
            have v3 : ((B o1).toList == (sa ++ ⟨#[10]⟩ ++ sc ++ ⟨#[10]⟩ ++ sb ++ ⟨#[10]⟩).toList) = true := hxx _ _ (by rw [B_list, HO1.out]; unfold lineE; rw [if_neg hb0, if_neg hc0]; simp [ByteArray.data_append])
            have v4 : ((B o2).toList == (sc ++ ⟨#[10]⟩ ++ sa ++ ⟨#[10]⟩ ++ sb ++ ⟨#[10]⟩).toList) = true := hxx _ _ (by rw [B_list, HO2.out]; unfold lineE; rw [if_neg hb0, if_neg hc0]; simp [ByteArray.data_append])
            clear hE hxx hb0 hc0 HO1 HO2
            go_wp2_with fail
            go_ret
            refine ⟨rfl, (HB9.out.alloc HB9.out.size _).alloc ?_ _⟩
            have := HB9.out.size
            simp
            omega
end Go.Proofs.YtmhjfdnpmfhmjaaDoor
