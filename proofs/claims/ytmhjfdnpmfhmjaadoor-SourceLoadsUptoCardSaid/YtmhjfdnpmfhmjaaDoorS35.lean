/- thresherlaw19.SourceLoads, walked. -/
import Derived.Test.YtmhjfdnpmfhmjaaDoorS34
import Derived.Test.YtmhjfdnpmfhmjaaDoorS11
import Derived.Test.YtmhjfdnpmfhmjaaDoorS18
namespace Go.Proofs.YtmhjfdnpmfhmjaaDoor
open Go.RowKit
set_option linter.unusedVariables false

theorem own_slice {w : World} {D : Nat} {e : TypeId} {v : Value} {n k : Nat} {xs : List Value} (h : w.ownsRow D e k v n xs) : ∃ a c, v = .slice a n c := by
  rcases h.2 with ⟨rfl, h0⟩ | ⟨g, cap, cur, rfl, _⟩
  · exact ⟨none, 0, by rw [h0]⟩
  · exact ⟨_, _, rfl⟩
/-- what both answer: text, the fault's file, line and number, places -/
def uni : R → Str × Str × Int × Int × List (Str × Nat)
  | .ok s => (s.out, [], 0, 0, s.lines)
  | .bad f m c => ([], f, (m : Int), (c : Int), [])
theorem LoadR.uni {w w' : World} {r : R} {e : Ending} (h : LoadR w r e w') : ∃ a c, e = .returned (.tuple #[.agg #[.string (B (uni r).1), .slice a (uni r).2.2.2.2.length c], .agg #[.string (B (uni r).2.1), .int .i64 (uni r).2.2.1], .int .i64 (uni r).2.2.2.1]) ∧ Pls w' (.slice a (uni r).2.2.2.2.length c) (uni r).2.2.2.2 ∧ Below w.heap.size w w' := by
  cases r with
  | ok s =>
    obtain ⟨lv, he, hown, hb⟩ := h
    obtain ⟨la, lc, rfl⟩ := own_slice hown
    exact ⟨la, lc, he, Pls.ofOwn hown, hb⟩
  | bad f m c => exact ⟨none, 0, h.1, .inl ⟨none, 0, rfl, rfl⟩, h.2⟩
theorem Ref19R.uni {w w' : World} {r : R} {e : Ending} (h : Ref19R w r e w') : ∃ a c, e = .returned (.tuple #[.string (B (uni r).1), .slice a (uni r).2.2.2.2.length c, .agg #[.string (B (uni r).2.1), .int .i64 (uni r).2.2.1], .int .i64 (uni r).2.2.2.1]) ∧ Pls w' (.slice a (uni r).2.2.2.2.length c) (uni r).2.2.2.2 ∧ Below w.heap.size w w' := by
  cases r with
  | ok s =>
    obtain ⟨lv, he, hown, hb⟩ := h
    obtain ⟨la, lc, rfl⟩ := own_slice hown
    exact ⟨la, lc, he, Pls.ofOwn hown, hb⟩
  | bad f m c => exact ⟨none, 0, h.1, .inl ⟨none, 0, rfl, rfl⟩, h.2⟩
theorem uni_len (F : Str → Option Str) {N : List Str} (hF : ∀ x t, F x = some t → x ∈ N) (n : Nat) (text : Str) : (uni (loadF F n text)).2.2.2.2.length ≤ 8192 := by
  cases h : loadF F n text with
  | bad f m c => exact Nat.zero_le _
  | ok s =>
    have hk := textF_keeps (incF_keeps (N := N) hF n) (linesL text) ⟨[], [], [], []⟩ 1 s ⟨(by simp), (fun x hx => by cases hx), Nat.le_refl _, Nat.zero_le _⟩ h
    exact Nat.le_trans hk.1.lines hk.1.out

set_option maxHeartbeats 16000000 in
set_option maxRecDepth 1000000 in
theorem sloads_any (s : ByteArray) (fv : Value) (L : List (ByteArray × List ByteArray)) (w : World) (hM : MaxOk w) (hF : FilesR w fv L) (hs : s.size + sizeF L ≤ 1050000) :
    Calls Tryd.prog 3 #[.string s, fv] w fun e w' => e = .returned (.bool true) ∧ Below w.heap.size w w' := by
  obtain ⟨fa, fc, hfv⟩ : ∃ a c, fv = .slice a L.length c := by
    rcases hF with ⟨a, c, rfl, rfl⟩ | ⟨bk, o, c, rfl, _⟩
    · exact ⟨a, c, rfl⟩
    · exact ⟨_, c, rfl⟩
  subst hfv
  have hsl := sizeL_le L
  have HF := Lib.hid hF
  have HMx := Lib.hid hM
  have HFx := Lib.hid (fixed_any w hM)
  have hsB : s.size ≤ 1050000 := by omega
  have hzB : sizeL L ≤ 1050000 := by omega
  obtain ⟨n, hn⟩ : ∃ n, n = L.length := ⟨_, rfl⟩
  have hnB : n ≤ 1050000 := by omega
  rw [← hn] at HF ⊢
  have HN := Lib.hid hn
  have HSF := Lib.hid hs
  clear hF hM hs hn hsl
  go_enter Tryd.func3, Tryd.ntmps3
  go_wp2_with fail
  refine HFx.out.mono ?_
  rintro e w1 ⟨rfl, hb1⟩
  clear HFx
  have HB1 := Lib.hid hb1
  have HF1 : Hid (FilesR w1 (.slice fa n fc) L) := HF.out.below hb1
  have HSz := Lib.hid (size_any _ L w1 HF1.out (by have := HSF.out; omega))
  clear hb1
  go_wp2_with fail
  refine HSz.out.mono ?_
  rintro e w2 ⟨rfl, hb2⟩
  clear HSz
  have HB2 := Lib.hid (HB1.out.trans (hb2.mono HB1.out.size))
  clear hb2
  obtain ⟨z, hz⟩ : ∃ z, z = sizeL L := ⟨_, rfl⟩
  rw [← hz] at hzB ⊢
  have HZ := Lib.hid hz
  clear hz
  by_cases h1 : 60000 < s.size + z
  · have h1I : (60000 : Int) < (s.size : Int) + (z : Int) := by omega
    go_wp2_with fail
    go_ret
    exact ⟨rfl, HB2.out⟩
  have h1I : (s.size : Int) + (z : Int) ≤ 60000 := by omega
  by_cases h2 : 100 < n
  · have h2I : (100 : Int) < (n : Int) := by omega
    go_wp2_with fail
    go_ret
    exact ⟨rfl, HB2.out⟩
  have h2I : (n : Int) ≤ 100 := by omega
  have hM2 : MaxOk w2 := HMx.out.below HB2.out HMx.out.lt
  have HF2 : Hid (FilesR w2 (.slice fa n fc) L) := HF.out.below HB2.out
  have hpl : (pairsF L).length = L.length := by simp [pairsF]
  have hml : ((pairsF L).map (·.1)).length = L.length := by simp [pairsF]
  have hsL : sizeL L ≤ 60000 := by rw [← HZ.out]; omega
  have HLo := Lib.hid (Load_any (pairsF L) s (.slice fa n fc) w2 ⟨_, _, _, rfl⟩ hM2 (by omega) (by rw [hml, ← HN.out]; omega) (.inr ⟨HF2.out.toV (by omega) (by have := HSF.out; omega) (by rw [← HN.out]; omega), fun x t h => by have := look_size h; omega⟩))
  rw [hml] at HLo
  obtain ⟨res, hres⟩ : ∃ res, res = loadF (look (pairsF L)) (L.length + 1) s.data.toList := ⟨_, rfl⟩
  rw [← hres] at HLo
  have HRs := Lib.hid hres
  clear h1 h2 hM2 hpl hml hsL hres
  have HLen : Hid ((uni res).2.2.2.2.length ≤ 8192) := by
    show _ ≤ _
    rw [HRs.out]
    exact uni_len _ (N := (pairsF L).map (·.1)) (fun x t h => look_mem h) _ _
  have HLd : Hid (∀ W, Below w.heap.size w W → Calls Tryd.prog 10 #[.string s, .slice fa n fc] W (Ref19R W res)) := by
    intro W hW
    rw [HRs.out]
    exact Load19_any s _ L W (HF.out.below hW) (by have := HZ.out; omega) (by have := HSF.out; omega) (by have := HN.out; omega)
  obtain ⟨o, ho⟩ : ∃ o, o = B (uni res).1 := ⟨_, rfl⟩
  obtain ⟨f, hf⟩ : ∃ f, f = B (uni res).2.1 := ⟨_, rfl⟩
  obtain ⟨m, hm⟩ : ∃ m, m = (uni res).2.2.1 := ⟨_, rfl⟩
  obtain ⟨c, hc⟩ : ∃ c, c = (uni res).2.2.2.1 := ⟨_, rfl⟩
  obtain ⟨PL, hP⟩ : ∃ PL, PL = (uni res).2.2.2.2 := ⟨_, rfl⟩
  obtain ⟨q, hq⟩ : ∃ q, q = PL.length := ⟨_, rfl⟩
  have HU := Lib.hid (show o = B (uni res).1 ∧ f = B (uni res).2.1 ∧ m = (uni res).2.2.1 ∧ c = (uni res).2.2.2.1 ∧ PL = (uni res).2.2.2.2 ∧ q = PL.length from ⟨ho, hf, hm, hc, hP, hq⟩)
  clear ho hf hm hc hP hq
  go_wp2_with fail
  refine HLo.out.mono ?_
  rintro e w3 hO
  clear HLo
  obtain ⟨va, vc, rfl, hp3, hb3⟩ := hO.uni
  obtain ⟨u1, u2, u3, u4, u5, u6⟩ := HU.out
  rw [← u5, ← u6] at hp3
  rw [← u1, ← u2, ← u3, ← u4, ← u5, ← u6]
  have HB3 := Lib.hid (HB2.out.trans (hb3.mono HB2.out.size))
  obtain ⟨w4, hw4⟩ : ∃ w4, w4 = (w3.alloc (.cells #[.string o, .slice va q vc] 27)).alloc (.cells #[.string f, .int .i64 m] 29) := ⟨_, rfl⟩
  have hb4 : Below w3.heap.size w3 w4 := hw4 ▸ (((Below.refl _ _).alloc (Nat.le_refl _) _).alloc (by simp) _)
  have s3 : w4.heap[w3.heap.size]? = some (.cells #[.string o, .slice va q vc] 27 (0, 0)) := by
    rw [hw4, heap_alloc_lt _ _ _ (by simp)]; exact heap_alloc_at w3 _
  have s4 : w4.heap[w3.heap.size + 1]? = some (.cells #[.string f, .int .i64 m] 29 (0, 0)) := by
    rw [hw4]
    have h := heap_alloc_at (w3.alloc (.cells #[.string o, .slice va q vc] 27)) (.cells #[.string f, .int .i64 m] 29)
    rw [show (w3.alloc (.cells #[.string o, .slice va q vc] 27)).heap.size = w3.heap.size + 1 from by simp] at h
    exact h
  have hz4 : w4.heap.size = w3.heap.size + 1 + 1 := by rw [hw4]; simp
  have HB4 := Lib.hid (HB3.out.trans (hb4.mono HB3.out.size))
  have HP4 := Lib.hid (hp3.below hb4)
  have HL4 := Lib.hid (HLd.out w4 HB4.out)
  have HS3 := Lib.hid s3
  have HS4 := Lib.hid s4
  have HZ4 := Lib.hid hz4
  have HW4 := Lib.hid hw4
  clear hO hp3 hb3 u1 u2 u3 u4 u5 u6 s3 s4 hb4 hw4 hz4 HLd
  go_wp2_with fail
  rw [← HW4.out]
  refine HL4.out.mono ?_
  rintro e w5 hO
  clear HL4
  obtain ⟨ra, rc, rfl, hp5, hb5⟩ := hO.uni
  obtain ⟨u1, u2, u3, u4, u5, u6⟩ := HU.out
  rw [← u5, ← u6] at hp5
  rw [← u1, ← u2, ← u3, ← u4, ← u5, ← u6]
  obtain ⟨w6, hw6⟩ : ∃ w6, w6 = w5.alloc (.cells #[.string f, .int .i64 m] 29) := ⟨_, rfl⟩
  have hb6 : Below w5.heap.size w5 w6 := hw6 ▸ (Below.refl _ _).alloc (Nat.le_refl _) _
  have hz6 : w6.heap.size = w5.heap.size + 1 := by rw [hw6]; simp
  have s6 : w6.heap[w5.heap.size]? = some (.cells #[.string f, .int .i64 m] 29 (0, 0)) := hw6 ▸ heap_alloc_at w5 _
  have hb46 : Below w4.heap.size w4 w6 := hb5.trans (hb6.mono hb5.size)
  have z4 := HZ4.out
  have t3 := (hb46.block w3.heap.size (by omega)).trans HS3.out
  have t4 := (hb46.block (w3.heap.size + 1) (by omega)).trans HS4.out
  have z5 := hb5.size
  have x0 : w6.cell? ⟨w3.heap.size, 0, none⟩ = some (.string o) := by rw [Lib.cell_of_heap t3]; rfl
  have x1 : w6.cell? ⟨w3.heap.size, 1, none⟩ = some (.slice va q vc) := by rw [Lib.cell_of_heap t3]; rfl
  have HSa := Lib.hid (Same_any (HP4.out.below hb46) (hp5.below hb6) (by rw [u5]; have := HLen.out; omega))
  have HT4 := Lib.hid t4
  have HS6 := Lib.hid s6
  have HZ6 := Lib.hid hz6
  have HB6 := Lib.hid (HB4.out.trans (hb46.mono HB4.out.size))
  have HX := Lib.hid (show w3.heap.size + 1 < w6.heap.size ∧ w5.heap.size < w6.heap.size by omega)
  clear hO hp5 hb5 hb6 hb46 u1 u2 u3 u4 u5 u6 t3 t4 s6 hz6 z4 z5
  have hlt5 : w3.heap.size < w5.heap.size := by have := HX.out; have := HZ6.out; omega
  subst hw6
  go_wp2_with fail
  refine HSa.out.mono ?_
  rintro e w7 ⟨rfl, hb7⟩
  clear HSa x0 x1
  have t4 := (hb7.block (w3.heap.size + 1) HX.out.1).trans HT4.out
  have t6 := (hb7.block w5.heap.size HX.out.2).trans HS6.out
  have y0 : w7.cell? ⟨w3.heap.size + 1, 0, none⟩ = some (.string f) := by rw [Lib.cell_of_heap t4]; rfl
  have y1 : w7.cell? ⟨w3.heap.size + 1, 1, none⟩ = some (.int .i64 m) := by rw [Lib.cell_of_heap t4]; rfl
  have y2 : w7.cell? ⟨w5.heap.size, 0, none⟩ = some (.string f) := by rw [Lib.cell_of_heap t6]; rfl
  have y3 : w7.cell? ⟨w5.heap.size, 1, none⟩ = some (.int .i64 m) := by rw [Lib.cell_of_heap t6]; rfl
  have HB7 := Lib.hid (HB6.out.trans (hb7.mono HB6.out.size))
  clear hb7 t4 t6
  go_wp2_with fail
  go_ret
  exact ⟨rfl, HB7.out⟩
end Go.Proofs.YtmhjfdnpmfhmjaaDoor
