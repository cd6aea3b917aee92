/- PrintfJoins, walked. -/
import Derived.Test.YtfdnhkjeoeffoaaGreatDoorI19
import Derived.Test.YtfdnhkjeoeffoaaGreatDoorZ3D
set_option linter.unusedVariables false
set_option linter.unusedSimpArgs false
namespace Go.Proofs.YtfdnhkjeoeffoaaGreatDoor
open Go.RowKit
set_option linter.unusedVariables false
theorem OnesR.take {w : World} {a : Option Addr} {n m c : Nat} {L : List CellT} (h : OnesR w a n L) (hm : m ≤ n) (hc : n ≤ c) : OnesR w a m (L.take m) := by
 refine ⟨by rw [List.length_take, ← h.1]; omega, fun h0 => ?_⟩
 obtain ⟨g, o, rfl, hl, hx⟩ := h.2 (by omega)
 refine ⟨g, o, rfl, hl, fun j x hj i u hu => hx j x ?_ i u hu⟩
 rw [List.getElem?_take] at hj
 split at hj
 ·exact hj
 ·cases hj
theorem OnesR.drop {w : World} {a : Option Addr} {n m c : Nat} {L : List CellT} (h : OnesR w a n L) (hm : m ≤ n) (hc : n ≤ c) : OnesR w (if c = m then a else a.map (·.add (m * 3))) (n - m) (L.drop m) := by
 refine ⟨by rw [List.length_drop, ← h.1], fun h0 => ?_⟩
 obtain ⟨g, o, rfl, hl, hx⟩ := h.2 (by omega)
 refine ⟨g, o + m * 3, ?_, hl, fun j x hj i u hu => ?_⟩
 ·rw [if_neg (by omega)]
  simp [Addr.add]
 ·rw [List.getElem?_drop] at hj
  have h1 := hx (m + j) x hj i u hu
  rwa [Nat.add_mul, ← Nat.add_assoc] at h1
theorem spr_short {sf : CellT → ByteArray} {by_ : Bool} {f : ByteArray} {L : List CellT} (h : (sprS sf by_ f 0 [] L).2 = 0) : (sprS sf by_ f 0 [] L).1.length ≤ 1024 := by
 refine (sprS_join (sf := sf) (by_ := by_) (f := f) (g := f) (h := f ++ f) (flat_app f f) f.size 0 [] L (sprS sf by_ f 0 [] L).1 (by omega) (by omega) (by decide) ?_).1
 rw [← h]
theorem spr_le (f : ByteArray) (L : List CellT) : sprF sfC false f (f.size + 1) 0 [] L = sprS sfC false f 0 [] L := rfl
def WayAt (w : World) (q : Nat) : Prop := w.heap[q]? = some (.cells #[.string ⟨#[37, 46, 54, 103]⟩, .bool false] 54 (0, 0))
theorem WayAt.below {w w' : World} {q : Nat} (h : WayAt w q) (hb : Below w.heap.size w w') : WayAt w' q := (hb.block q (lt_of_heap h)).trans h
set_option maxHeartbeats 32000000 in
set_option maxRecDepth 100000 in
theorem joins11_any {w : World} {ap : Option Addr} {n c : Nat} {L0 : List CellT} (f g : ByteArray) (hT : Tabs5 w) (hL : OnesR w ap n L0) (hn : n ≤ 4000000000000) (hnc : n ≤ c) (hOk : ∀ e ∈ L0, e.2.1 < 18446744073709551616) (hZ : sizeC L0 ≤ 1000000000000000000) (hfz : f.size ≤ 1000000000000000000) (hgz : g.size ≤ 1000000000000000000) :
 Calls Tryz.prog 8 #[.string f, .string g, .slice ap n c] w fun e w' => e = .returned (.bool true) ∧ Below w.heap.size w w' := by
 have HF := Lib.hid (fixed11_any w hT)
 have HT := Lib.hid hT
 have HSz : Hid (∀ W, Below w.heap.size w W → Calls Tryz.prog 33 #[.slice ap n c] W fun e w' => e = .returned (.int .i64 (sizeC L0 : Nat)) ∧ Below W.heap.size W w') := fun W hW => size11_any (hL.below hW (Nat.le_refl _)) hn hZ
 have HMd0 : Hid (∀ W, Below w.heap.size w W → Calls Tryz.prog 34 #[.slice ap n c] W fun e w' => (∃ v, e = .returned v ∧ CellsAt w' w'.heap.size v L0) ∧ Below W.heap.size W w') := fun W hW => made_at hL hn hOk W hW
 have HMd1 : Hid (∀ m W, m ≤ n → Below w.heap.size w W → Calls Tryz.prog 34 #[.slice ap m c] W fun e w' => (∃ v, e = .returned v ∧ CellsAt w' w'.heap.size v (L0.take m)) ∧ Below W.heap.size W w') := fun m W hm hW => made_at (hL.take hm hnc) (by omega) (fun e he => hOk e (List.mem_of_mem_take he)) W hW
 have HMd2 : Hid (∀ m W, m ≤ n → Below w.heap.size w W → Calls Tryz.prog 34 #[.slice (if c = m then ap else ap.map (·.add (m * 3))) (n - m) (c - m)] W fun e w' => (∃ v, e = .returned v ∧ CellsAt w' w'.heap.size v (L0.drop m)) ∧ Below W.heap.size W w') := fun m W hm hW => made_at (hL.drop hm hnc) (by omega) (fun e he => hOk e (List.mem_of_mem_drop he)) W hW
 obtain ⟨fn, hfn⟩ : ∃ fn, fn = f.size := ⟨_, rfl⟩
 obtain ⟨gn, hgn⟩ : ∃ gn, gn = g.size := ⟨_, rfl⟩
 have hf1 : f.size = fn := hfn.symm
 have hg1 : g.size = gn := hgn.symm
 obtain ⟨zn, hzn⟩ : ∃ zn, zn = sizeC L0 := ⟨_, rfl⟩
 rw [← hzn] at HSz hZ
 rw [hf1] at hfz
 rw [hg1] at hgz
 have w1 : IntKind.i64.wrap ((fn : Int) + (gn : Int)) = (fn : Int) + (gn : Int) := by rw [IntKind.wrap_i64]; omega
 have w2 : IntKind.i64.wrap ((fn : Int) + (gn : Int) + (zn : Int)) = (fn : Int) + (gn : Int) + (zn : Int) := by rw [IntKind.wrap_i64]; omega
 have HZn := Lib.hid hzn
 have HOk := Lib.hid hOk
 have HLn := Lib.hid hL.1
 clear hT hL hOk hfn hgn hzn
 by_cases h3000 : 3000 < fn + gn + zn
 ·have hI : (3000 : Int) < (fn : Int) + (gn : Int) + (zn : Int) := by omega
  go_enter Tryz.func8, Tryz.ntmps8
  go_wp2_with fail
  refine HF.out.mono ?_
  rintro e w1 ⟨rfl, hb1⟩
  have HB1 := Lib.hid hb1
  clear hb1
  go_wp2_with fail
  refine (HSz.out _ HB1.out).mono ?_
  rintro e w2 ⟨rfl, hb2⟩
  have HB2 := Lib.hid (HB1.out.trans (hb2.mono HB1.out.size))
  clear hb2
  go_wp2_with fail
  go_ret
  exact ⟨rfl, HB2.out⟩
 have hI : decide ((3000 : Int) < (fn : Int) + (gn : Int) + (zn : Int)) = false := by simp; omega
 have HFit : Hid (∀ W, Tabs5 W → ∀ e ∈ L0, CFit 100000 W ⟨#[37, 46, 54, 103]⟩ sfC e) := fun W hW e he => cfit6 (by decide) hW (HOk.out e he) (by
  have h1 : e.2.2.size ≤ sizeC L0 := size_le_sizeC he
  have h2 := HZn.out
  omega)
 have HSp : Hid (∀ (F : ByteArray) (M : List CellT) W v, F.size ≤ 3000 → (∀ e ∈ M, e ∈ L0) → Below w.heap.size w W → CellsAt W W.heap.size v M → Calls Tryz.prog 35 #[.string F, v, .agg #[.string ⟨#[37, 46, 54, 103]⟩, .bool false]] W fun e w' => e = .returned (.tuple #[.string ⟨(sprS sfC false F 0 [] M).1.toArray⟩, .int .i64 (sprS sfC false F 0 [] M).2]) ∧ Below W.heap.size W w') := fun F M W v hFz hM hW hv => by
  have hTW : Tabs5 W := ⟨HT.out.err.below hW, HT.out.pow.below hW, HT.out.utf.below hW⟩
  have hS := sprintf_any (NV := fun _ => True) (fun m p bl al z wd pr vb b W _ h1 h2 h3 => Number_any m p bl al z wd pr vb b W h1 h2 h3) (fun _ => True) F ⟨#[37, 46, 54, 103]⟩ false v M sfC W trivial (fun _ _ _ _ => ⟨fun _ => trivial, trivial⟩) hTW (M := 100000) (by decide) (by decide) (by omega) (by omega) hv (fun e he => HFit.out W hTW e (hM e he)) (cfit6 (by decide) hTW (by decide) (by decide))
  rw [spr_le] at hS
  exact hS
 clear hZ hfz hgz
 go_enter Tryz.func8, Tryz.ntmps8
 go_wp2_with fail
 refine HF.out.mono ?_
 rintro e w1 ⟨rfl, hb1⟩
 have HB1 := Lib.hid hb1
 clear hb1
 go_wp2_with fail
 refine (HSz.out _ HB1.out).mono ?_
 rintro e w2 ⟨rfl, hb2⟩
 have HB2 := Lib.hid (HB1.out.trans (hb2.mono HB1.out.size))
 clear hb2
 go_wp2_with fail
 have hbw := HB2.out.alloc HB2.out.size (.cells #[.string ⟨#[37, 46, 54, 103]⟩, .bool false] 54)
 have hway : WayAt (w2.alloc (.cells #[.string ⟨#[37, 46, 54, 103]⟩, .bool false] 54)) w2.heap.size := heap_alloc_at w2 _
 obtain ⟨q, hq⟩ : ∃ q, q = w2.heap.size := ⟨_, rfl⟩
 rw [← hq] at hway ⊢
 have HBW := Lib.hid hbw
 have HWY := Lib.hid hway
 clear hbw hway hq
 go_loopw [8] (fun v8 wr => ∃ m : Nat, v8 = .int .i64 (m : Int) ∧ m ≤ n + 1 ∧ m ≤ 12 ∧ Hid (∀ j, j < m → (sprS sfC false f 0 [] (L0.take j)).2 ≠ 0) ∧ Hid (WayAt wr q) ∧ Hid (Below w.heap.size w wr)) (fun v8 _ => n + 1 - (intOf v8).toNat)
 case atStart => exact ⟨0, rfl, Nat.zero_le _, Nat.zero_le _, fun j h => absurd h (by omega), HWY.out, HBW.out⟩
 case round =>
  obtain ⟨m, rfl, hm, hm12, HMin, HWy, HB⟩ := hrel
  by_cases hgo : m ≤ n ∧ m < 12
  ·obtain ⟨hmn, hm2⟩ := hgo
   have hmnI : (m : Int) ≤ (n : Int) := by omega
   have hm2I : (m : Int) < 12 := by omega
   have hmcI : (m : Int) ≤ (c : Int) := by omega
   have hmc : m ≤ c := by omega
   obtain ⟨R1, E1, hR1⟩ : ∃ R1 E1, sprS sfC false f 0 [] (L0.take m) = (R1, E1) := ⟨_, _, rfl⟩
   have HS1 : Hid (∀ W v, Below w.heap.size w W → CellsAt W W.heap.size v (L0.take m) → Calls Tryz.prog 35 #[.string f, v, .agg #[.string ⟨#[37, 46, 54, 103]⟩, .bool false]] W fun e w' => e = .returned (.tuple #[.string ⟨R1.toArray⟩, .int .i64 E1]) ∧ Below W.heap.size W w') := fun W v hW hv => by
    have h := HSp.out f (L0.take m) W v (by omega) (fun e he => List.mem_of_mem_take he) hW hv
    rw [hR1] at h
    exact h
   have x0 : wr.cell? ⟨q, 0, none⟩ = some (.string ⟨#[37, 46, 54, 103]⟩) := Lib.cell_of_heap HWy.out 0
   have x1 : wr.cell? ⟨q, 1, none⟩ = some (.bool false) := Lib.cell_of_heap HWy.out 1
   have hqz : q < wr.heap.size := lt_of_heap HWy.out
   have HB0 := HB
   by_cases hE1 : E1 = 0
   ·subst hE1
    have hsh0 := spr_short (f := f) (L := L0.take m) (by rw [hR1])
    rw [hR1] at hsh0
    have hsh : R1.length ≤ 1024 := hsh0
    clear hsh0
    have hj := joins_plain (sf := sfC) (by_ := false) (flat_app f g) L0 m (by have := HLn.out; omega) hR1 HMin.out
    obtain ⟨R2, E2, hR2⟩ : ∃ R2 E2, sprS sfC false g 0 [] (L0.drop m) = (R2, E2) := ⟨_, _, rfl⟩
    obtain ⟨R3, E3, hR3⟩ : ∃ R3 E3, sprS sfC false (f ++ g) 0 [] L0 = (R3, E3) := ⟨_, _, rfl⟩
    have hsh2 : E2 = 0 → R2.length ≤ 1024 := fun h => by
     have h2 := spr_short (f := g) (L := L0.drop m) (by rw [hR2]; exact h)
     rw [hR2] at h2
     exact h2
    have HS2 : Hid (∀ W v, Below w.heap.size w W → CellsAt W W.heap.size v (L0.drop m) → Calls Tryz.prog 35 #[.string g, v, .agg #[.string ⟨#[37, 46, 54, 103]⟩, .bool false]] W fun e w' => e = .returned (.tuple #[.string ⟨R2.toArray⟩, .int .i64 E2]) ∧ Below W.heap.size W w') := fun W v hW hv => by
     have h := HSp.out g (L0.drop m) W v (by omega) (fun e he => List.mem_of_mem_drop he) hW hv
     rw [hR2] at h
     exact h
    have HS3 : Hid (∀ W v, Below w.heap.size w W → CellsAt W W.heap.size v L0 → Calls Tryz.prog 35 #[.string (f ++ g), v, .agg #[.string ⟨#[37, 46, 54, 103]⟩, .bool false]] W fun e w' => e = .returned (.tuple #[.string ⟨R3.toArray⟩, .int .i64 E3]) ∧ Below W.heap.size W w') := fun W v hW hv => by
     have h := HSp.out (f ++ g) L0 W v (by rw [ByteArray.size_append]; omega) (fun e he => he) hW hv
     rw [hR3] at h
     exact h
    rw [hR2, hR3] at hj
    simp only [] at hj
    obtain ⟨r1, hr1⟩ : ∃ r1 : ByteArray, r1 = ⟨R1.toArray⟩ := ⟨_, rfl⟩
    obtain ⟨r2, hr2⟩ : ∃ r2 : ByteArray, r2 = ⟨R2.toArray⟩ := ⟨_, rfl⟩
    obtain ⟨r3, hr3⟩ : ∃ r3 : ByteArray, r3 = ⟨R3.toArray⟩ := ⟨_, rfl⟩
    have z1 : r1.size = R1.length := by rw [hr1]; rfl
    have z2 : r2.size = R2.length := by rw [hr2]; rfl
    rw [← hr1] at HS1
    rw [← hr2] at HS2
    rw [← hr3] at HS3
    have HJ := Lib.hid hj
    have HZ1 := Lib.hid z1
    have HZ2 := Lib.hid z2
    have HR := Lib.hid (And.intro hr1 (And.intro hr2 hr3))
    have hs1k : r1.size ≤ 1024 := by omega
    have HSh := Lib.hid hsh
    clear hR1 hR2 hR3 hj hr1 hr2 hr3 z1 z2 hsh
    go_wp2_with fail
    refine wp_region_guarded (by kernel_rfl) (by kernel_rfl) (fun a0 V0 L a W => ∃ (u : Nat → Value) (V : Value), a = { tmps := ((((((((((((a0.tmps.setIfInBounds 38 (u 0)).setIfInBounds 39 (u 1)).setIfInBounds 40 (u 2)).setIfInBounds 41 (u 3)).setIfInBounds 42 (u 4)).setIfInBounds 43 (u 5)).setIfInBounds 44 (u 6)).setIfInBounds 37 (u 7)).setIfInBounds 45 (u 8)).setIfInBounds 46 (u 9)).setIfInBounds 9 (u 10)).setIfInBounds 10 (u 11)), defers := a0.defers } ∧ Hid (Below V0.heap.size V0 W) ∧ Hid (∀ i, L i = true → u i = valAt [.string f, .slice ap n c, .int .i64 (m : Int), .slice ap m c, V, .agg #[.string ⟨#[37, 46, 54, 103]⟩, .bool false], .tuple #[.string r1, .int .i64 0], .tuple #[.string r1, .int .i64 0], .string r1, .int .i64 0, .string r1, .int .i64 0] i) ∧ Hid (L 4 = true → CellsAt W W.heap.size V (L0.take m))) ?h0 ?hstep ?hdone
    case h0 =>
     refine ⟨valAt [u38, u39, u40, u41, u42, u43, u44, u37, u45, u46, u9, u10], undef, ?_, (Below.refl _ _).drew, (fun _ h => (by cases h)), (fun h => (by cases h))⟩
     kernel_rfl
    case hstep =>
     refine ⟨?o0, ?o1, ?o2, ?o3, ?o4, ?o5, ?o6, ?o7, ?o8, ?o9, ?o10, ?o11, trivial⟩
     case o0 =>
      rintro L a' W ⟨u, V, rfl, HI, E, HP⟩ hL hd K hK
      simp only [List.setIfInBounds_toArray, List.set_cons_zero, List.set_cons_succ]
      refine ite_take rfl ?_
      clear hL hd
      go_simp
      refine hK _ _ ⟨withVal u 0 (.string f), V, ?_, HI, withVal_next E 0 _ rfl, (fun h => HP.out (by rwa [upd_other L (by decide)] at h))⟩
      kernel_rfl
     case o1 =>
      rintro L a' W ⟨u, V, rfl, HI, E, HP⟩ hL hd K hK
      simp only [List.setIfInBounds_toArray, List.set_cons_zero, List.set_cons_succ]
      refine ite_take rfl ?_
      clear hL hd
      go_simp
      refine hK _ _ ⟨withVal u 1 (.slice ap n c), V, ?_, HI, withVal_next E 1 _ rfl, (fun h => HP.out (by rwa [upd_other L (by decide)] at h))⟩
      kernel_rfl
     case o2 =>
      rintro L a' W ⟨u, V, rfl, HI, E, HP⟩ hL hd K hK
      simp only [List.setIfInBounds_toArray, List.set_cons_zero, List.set_cons_succ]
      refine ite_take rfl ?_
      clear hL hd
      go_simp
      refine hK _ _ ⟨withVal u 2 (.int .i64 (m : Int)), V, ?_, HI, withVal_next E 2 _ rfl, (fun h => HP.out (by rwa [upd_other L (by decide)] at h))⟩
      kernel_rfl
     case o3 =>
      rintro L a' W ⟨u, V, rfl, HI, E, HP⟩ hL hd K hK
      have e1 : u 1 = .slice ap n c := E.out 1 (hd 1 (List.elem_iff.1 (by kernel_rfl)))
      have e2 : u 2 = .int .i64 (m : Int) := E.out 2 (hd 2 (List.elem_iff.1 (by kernel_rfl)))
      simp only [List.setIfInBounds_toArray, List.set_cons_zero, List.set_cons_succ, e1, e2]
      refine ite_take rfl ?_
      clear hL hd
      go_simp
      refine hK _ _ ⟨withVal (withVal (withVal u 1 (.slice ap n c)) 2 (.int .i64 (m : Int))) 3 (.slice ap m c), V, ?_, HI, withVal_next (withVal_same (withVal_same E 1 _ rfl) 2 _ rfl) 3 _ rfl, (fun h => HP.out (by rwa [upd_other L (by decide)] at h))⟩
      kernel_rfl
     case o4 =>
      rintro L a' W ⟨u, V, rfl, HI, E, HP⟩ hL hd K hK
      have e3 : u 3 = .slice ap m c := E.out 3 (hd 3 (List.elem_iff.1 (by kernel_rfl)))
      simp only [List.setIfInBounds_toArray, List.set_cons_zero, List.set_cons_succ, e3]
      refine ite_take rfl ?_
      clear hd
      go_simp
      refine (HMd1.out m W hmn (HB0.out.trans (HI.out.mono HB0.out.size))).mono ?_
      rintro e W' ⟨⟨V', rfl, hp'⟩, hb⟩
      have E' : Hid (∀ i, L i = true → u i = valAt [.string f, .slice ap n c, .int .i64 (m : Int), .slice ap m c, V', .agg #[.string ⟨#[37, 46, 54, 103]⟩, .bool false], .tuple #[.string r1, .int .i64 0], .tuple #[.string r1, .int .i64 0], .string r1, .int .i64 0, .string r1, .int .i64 0] i) := fun i hi => by
       have hne : i ≠ 4 := fun h => by rw [h, hL] at hi; cases hi
       rw [E.out i hi]
       exact valAt_other 4 hne (by rfl)
      refine hK _ _ ⟨withVal (withVal u 3 (.slice ap m c)) 4 (V'), V', ?_, HI.out.trans (hb.mono HI.out.size), withVal_next (withVal_same E' 3 _ rfl) 4 _ rfl, (fun _ => hp')⟩
      kernel_rfl
     case o5 =>
      rintro L a' W ⟨u, V, rfl, HI, E, HP⟩ hL hd K hK
      have kx0 := cellNext HI.out x0
      have kx1 := cellNext HI.out x1
      simp only [List.setIfInBounds_toArray, List.set_cons_zero, List.set_cons_succ]
      refine ite_take rfl ?_
      clear hL hd
      go_simp
      refine hK _ _ ⟨withVal u 5 (.agg #[.string ⟨#[37, 46, 54, 103]⟩, .bool false]), V, ?_, HI, withVal_next E 5 _ rfl, (fun h => HP.out (by rwa [upd_other L (by decide)] at h))⟩
      kernel_rfl
     case o6 =>
      rintro L a' W ⟨u, V, rfl, HI, E, HP⟩ hL hd K hK
      have e0 : u 0 = .string f := E.out 0 (hd 0 (List.elem_iff.1 (by kernel_rfl)))
      have e4 : u 4 = V := E.out 4 (hd 4 (List.elem_iff.1 (by kernel_rfl)))
      have e5 : u 5 = .agg #[.string ⟨#[37, 46, 54, 103]⟩, .bool false] := E.out 5 (hd 5 (List.elem_iff.1 (by kernel_rfl)))
      have hp := HP.out (hd 4 (List.elem_iff.1 (by kernel_rfl)))
      have HQ := Lib.hid hp
      clear hp
      simp only [List.setIfInBounds_toArray, List.set_cons_zero, List.set_cons_succ, e0, e4, e5]
      refine ite_take rfl ?_
      clear hL hd
      go_simp
      refine (HS1.out W V (HB0.out.trans (HI.out.mono HB0.out.size)) HQ.out).mono ?_
      rintro e W' ⟨rfl, hb⟩
      refine hK _ _ ⟨withVal (withVal (withVal (withVal u 0 (.string f)) 4 (V)) 5 (.agg #[.string ⟨#[37, 46, 54, 103]⟩, .bool false])) 6 (.tuple #[.string r1, .int .i64 0]), V, ?_, HI.out.trans (hb.mono HI.out.size), withVal_next (withVal_same (withVal_same (withVal_same E 0 _ rfl) 4 _ rfl) 5 _ rfl) 6 _ rfl, (fun _ => (HQ.out).step hb)⟩
      kernel_rfl
     case o7 =>
      rintro L a' W ⟨u, V, rfl, HI, E, HP⟩ hL hd K hK
      have e6 : u 6 = .tuple #[.string r1, .int .i64 0] := E.out 6 (hd 6 (List.elem_iff.1 (by kernel_rfl)))
      simp only [List.setIfInBounds_toArray, List.set_cons_zero, List.set_cons_succ, e6]
      refine ite_take rfl ?_
      clear hL hd
      go_simp
      refine hK _ _ ⟨withVal (withVal u 6 (.tuple #[.string r1, .int .i64 0])) 7 (.tuple #[.string r1, .int .i64 0]), V, ?_, HI, withVal_next (withVal_same E 6 _ rfl) 7 _ rfl, (fun h => HP.out (by rwa [upd_other L (by decide)] at h))⟩
      kernel_rfl
     case o8 =>
      rintro L a' W ⟨u, V, rfl, HI, E, HP⟩ hL hd K hK
      have e7 : u 7 = .tuple #[.string r1, .int .i64 0] := E.out 7 (hd 7 (List.elem_iff.1 (by kernel_rfl)))
      simp only [List.setIfInBounds_toArray, List.set_cons_zero, List.set_cons_succ, e7]
      refine ite_take rfl ?_
      clear hL hd
      go_simp
      refine hK _ _ ⟨withVal (withVal u 7 (.tuple #[.string r1, .int .i64 0])) 8 (.string r1), V, ?_, HI, withVal_next (withVal_same E 7 _ rfl) 8 _ rfl, (fun h => HP.out (by rwa [upd_other L (by decide)] at h))⟩
      kernel_rfl
     case o9 =>
      rintro L a' W ⟨u, V, rfl, HI, E, HP⟩ hL hd K hK
      have e7 : u 7 = .tuple #[.string r1, .int .i64 0] := E.out 7 (hd 7 (List.elem_iff.1 (by kernel_rfl)))
      simp only [List.setIfInBounds_toArray, List.set_cons_zero, List.set_cons_succ, e7]
      refine ite_take rfl ?_
      clear hL hd
      go_simp
      refine hK _ _ ⟨withVal (withVal u 7 (.tuple #[.string r1, .int .i64 0])) 9 (.int .i64 0), V, ?_, HI, withVal_next (withVal_same E 7 _ rfl) 9 _ rfl, (fun h => HP.out (by rwa [upd_other L (by decide)] at h))⟩
      kernel_rfl
     case o10 =>
      rintro L a' W ⟨u, V, rfl, HI, E, HP⟩ hL hd K hK
      have e8 : u 8 = .string r1 := E.out 8 (hd 8 (List.elem_iff.1 (by kernel_rfl)))
      simp only [List.setIfInBounds_toArray, List.set_cons_zero, List.set_cons_succ, e8]
      refine ite_take rfl ?_
      clear hL hd
      go_simp
      refine hK _ _ ⟨withVal (withVal u 8 (.string r1)) 10 (.string r1), V, ?_, HI, withVal_next (withVal_same E 8 _ rfl) 10 _ rfl, (fun h => HP.out (by rwa [upd_other L (by decide)] at h))⟩
      kernel_rfl
     case o11 =>
      rintro L a' W ⟨u, V, rfl, HI, E, HP⟩ hL hd K hK
      have e9 : u 9 = .int .i64 0 := E.out 9 (hd 9 (List.elem_iff.1 (by kernel_rfl)))
      simp only [List.setIfInBounds_toArray, List.set_cons_zero, List.set_cons_succ, e9]
      refine ite_take rfl ?_
      clear hL hd
      go_simp
      refine hK _ _ ⟨withVal (withVal u 9 (.int .i64 0)) 11 (.int .i64 0), V, ?_, HI, withVal_next (withVal_same E 9 _ rfl) 11 _ rfl, (fun h => HP.out (by rwa [upd_other L (by decide)] at h))⟩
      kernel_rfl
    case hdone =>
     rintro L a' W1 hall ⟨u, V, rfl, HI, E, HP⟩
     have e0 : u 0 = .string f := E.out 0 (hall 0 (by decide))
     have e1 : u 1 = .slice ap n c := E.out 1 (hall 1 (by decide))
     have e2 : u 2 = .int .i64 (m : Int) := E.out 2 (hall 2 (by decide))
     have e3 : u 3 = .slice ap m c := E.out 3 (hall 3 (by decide))
     have e4 : u 4 = V := E.out 4 (hall 4 (by decide))
     have e5 : u 5 = .agg #[.string ⟨#[37, 46, 54, 103]⟩, .bool false] := E.out 5 (hall 5 (by decide))
     have e6 : u 6 = .tuple #[.string r1, .int .i64 0] := E.out 6 (hall 6 (by decide))
     have e7 : u 7 = .tuple #[.string r1, .int .i64 0] := E.out 7 (hall 7 (by decide))
     have e8 : u 8 = .string r1 := E.out 8 (hall 8 (by decide))
     have e9 : u 9 = .int .i64 0 := E.out 9 (hall 9 (by decide))
     have e10 : u 10 = .string r1 := E.out 10 (hall 10 (by decide))
     have e11 : u 11 = .int .i64 0 := E.out 11 (hall 11 (by decide))
     simp only [List.setIfInBounds_toArray, List.set_cons_zero, List.set_cons_succ, e0, e1, e2, e3, e4, e5, e6, e7, e8, e9, e10, e11]
     have hb9 := HI.out
     have HB9 := Lib.hid (HB0.out.trans (hb9.mono HB0.out.size))
     have hWz := hb9.size
     have HW9 := Lib.hid (HWy.out.below hb9)
     clear hall E HP HI x0 x1 hb9
     have y0 : W1.cell? ⟨q, 0, none⟩ = some (.string ⟨#[37, 46, 54, 103]⟩) := Lib.cell_of_heap HW9.out 0
     have y1 : W1.cell? ⟨q, 1, none⟩ = some (.bool false) := Lib.cell_of_heap HW9.out 1
     have hqz9 : q < W1.heap.size := lt_of_heap HW9.out
     clear hqz hWz hs1k
     go_wp2_with fail
     refine wp_region_guarded (by kernel_rfl) (by kernel_rfl) (fun a0 V0 L a W => ∃ (u : Nat → Value) (V : Value), a = { tmps := ((((((((((((a0.tmps.setIfInBounds 50 (u 0)).setIfInBounds 51 (u 1)).setIfInBounds 52 (u 2)).setIfInBounds 53 (u 3)).setIfInBounds 54 (u 4)).setIfInBounds 55 (u 5)).setIfInBounds 56 (u 6)).setIfInBounds 49 (u 7)).setIfInBounds 57 (u 8)).setIfInBounds 58 (u 9)).setIfInBounds 11 (u 10)).setIfInBounds 12 (u 11)), defers := a0.defers } ∧ Hid (Below V0.heap.size V0 W) ∧ Hid (∀ i, L i = true → u i = valAt [.string g, .slice ap n c, .int .i64 (m : Int), .slice (if c = m then ap else ap.map (·.add (m * 3))) (n - m) (c - m), V, .agg #[.string ⟨#[37, 46, 54, 103]⟩, .bool false], .tuple #[.string r2, .int .i64 E2], .tuple #[.string r2, .int .i64 E2], .string r2, .int .i64 E2, .string r2, .int .i64 E2] i) ∧ Hid (L 4 = true → CellsAt W W.heap.size V (L0.drop m))) ?h0 ?hstep ?hdone
     case h0 =>
      refine ⟨valAt [u50, u51, u52, u53, u54, u55, u56, u49, u57, u58, u11, u12], undef, ?_, (Below.refl _ _).drew, (fun _ h => (by cases h)), (fun h => (by cases h))⟩
      kernel_rfl
     case hstep =>
      refine ⟨?o0, ?o1, ?o2, ?o3, ?o4, ?o5, ?o6, ?o7, ?o8, ?o9, ?o10, ?o11, trivial⟩
      case o0 =>
       rintro L a' W ⟨u, V, rfl, HI, E, HP⟩ hL hd K hK
       simp only [List.setIfInBounds_toArray, List.set_cons_zero, List.set_cons_succ]
       refine ite_take rfl ?_
       clear hL hd
       go_simp
       refine hK _ _ ⟨withVal u 0 (.string g), V, ?_, HI, withVal_next E 0 _ rfl, (fun h => HP.out (by rwa [upd_other L (by decide)] at h))⟩
       kernel_rfl
      case o1 =>
       rintro L a' W ⟨u, V, rfl, HI, E, HP⟩ hL hd K hK
       simp only [List.setIfInBounds_toArray, List.set_cons_zero, List.set_cons_succ]
       refine ite_take rfl ?_
       clear hL hd
       go_simp
       refine hK _ _ ⟨withVal u 1 (.slice ap n c), V, ?_, HI, withVal_next E 1 _ rfl, (fun h => HP.out (by rwa [upd_other L (by decide)] at h))⟩
       kernel_rfl
      case o2 =>
       rintro L a' W ⟨u, V, rfl, HI, E, HP⟩ hL hd K hK
       simp only [List.setIfInBounds_toArray, List.set_cons_zero, List.set_cons_succ]
       refine ite_take rfl ?_
       clear hL hd
       go_simp
       refine hK _ _ ⟨withVal u 2 (.int .i64 (m : Int)), V, ?_, HI, withVal_next E 2 _ rfl, (fun h => HP.out (by rwa [upd_other L (by decide)] at h))⟩
       kernel_rfl
      case o3 =>
       rintro L a' W ⟨u, V, rfl, HI, E, HP⟩ hL hd K hK
       have e1 : u 1 = .slice ap n c := E.out 1 (hd 1 (List.elem_iff.1 (by kernel_rfl)))
       have e2 : u 2 = .int .i64 (m : Int) := E.out 2 (hd 2 (List.elem_iff.1 (by kernel_rfl)))
       simp only [List.setIfInBounds_toArray, List.set_cons_zero, List.set_cons_succ, e1, e2]
       refine ite_take rfl ?_
       clear hL hd
       go_simp
       refine hK _ _ ⟨withVal (withVal (withVal u 1 (.slice ap n c)) 2 (.int .i64 (m : Int))) 3 (.slice (if c = m then ap else ap.map (·.add (m * 3))) (n - m) (c - m)), V, ?_, HI, withVal_next (withVal_same (withVal_same E 1 _ rfl) 2 _ rfl) 3 _ rfl, (fun h => HP.out (by rwa [upd_other L (by decide)] at h))⟩
       kernel_rfl
      case o4 =>
       rintro L a' W ⟨u, V, rfl, HI, E, HP⟩ hL hd K hK
       have e3 : u 3 = .slice (if c = m then ap else ap.map (·.add (m * 3))) (n - m) (c - m) := E.out 3 (hd 3 (List.elem_iff.1 (by kernel_rfl)))
       simp only [List.setIfInBounds_toArray, List.set_cons_zero, List.set_cons_succ, e3]
       refine ite_take rfl ?_
       clear hd
       go_simp
       refine (HMd2.out m W hmn (HB9.out.trans (HI.out.mono HB9.out.size))).mono ?_
       rintro e W' ⟨⟨V', rfl, hp'⟩, hb⟩
       have E' : Hid (∀ i, L i = true → u i = valAt [.string g, .slice ap n c, .int .i64 (m : Int), .slice (if c = m then ap else ap.map (·.add (m * 3))) (n - m) (c - m), V', .agg #[.string ⟨#[37, 46, 54, 103]⟩, .bool false], .tuple #[.string r2, .int .i64 E2], .tuple #[.string r2, .int .i64 E2], .string r2, .int .i64 E2, .string r2, .int .i64 E2] i) := fun i hi => by
        have hne : i ≠ 4 := fun h => by rw [h, hL] at hi; cases hi
        rw [E.out i hi]
        exact valAt_other 4 hne (by rfl)
       refine hK _ _ ⟨withVal (withVal u 3 (.slice (if c = m then ap else ap.map (·.add (m * 3))) (n - m) (c - m))) 4 (V'), V', ?_, HI.out.trans (hb.mono HI.out.size), withVal_next (withVal_same E' 3 _ rfl) 4 _ rfl, (fun _ => hp')⟩
       kernel_rfl
      case o5 =>
       rintro L a' W ⟨u, V, rfl, HI, E, HP⟩ hL hd K hK
       have ky0 := cellNext HI.out y0
       have ky1 := cellNext HI.out y1
       simp only [List.setIfInBounds_toArray, List.set_cons_zero, List.set_cons_succ]
       refine ite_take rfl ?_
       clear hL hd
       go_simp
       refine hK _ _ ⟨withVal u 5 (.agg #[.string ⟨#[37, 46, 54, 103]⟩, .bool false]), V, ?_, HI, withVal_next E 5 _ rfl, (fun h => HP.out (by rwa [upd_other L (by decide)] at h))⟩
       kernel_rfl
      case o6 =>
       rintro L a' W ⟨u, V, rfl, HI, E, HP⟩ hL hd K hK
       have e0 : u 0 = .string g := E.out 0 (hd 0 (List.elem_iff.1 (by kernel_rfl)))
       have e4 : u 4 = V := E.out 4 (hd 4 (List.elem_iff.1 (by kernel_rfl)))
       have e5 : u 5 = .agg #[.string ⟨#[37, 46, 54, 103]⟩, .bool false] := E.out 5 (hd 5 (List.elem_iff.1 (by kernel_rfl)))
       have hp := HP.out (hd 4 (List.elem_iff.1 (by kernel_rfl)))
       have HQ := Lib.hid hp
       clear hp
       simp only [List.setIfInBounds_toArray, List.set_cons_zero, List.set_cons_succ, e0, e4, e5]
       refine ite_take rfl ?_
       clear hL hd
       go_simp
       refine (HS2.out W V (HB9.out.trans (HI.out.mono HB9.out.size)) HQ.out).mono ?_
       rintro e W' ⟨rfl, hb⟩
       refine hK _ _ ⟨withVal (withVal (withVal (withVal u 0 (.string g)) 4 (V)) 5 (.agg #[.string ⟨#[37, 46, 54, 103]⟩, .bool false])) 6 (.tuple #[.string r2, .int .i64 E2]), V, ?_, HI.out.trans (hb.mono HI.out.size), withVal_next (withVal_same (withVal_same (withVal_same E 0 _ rfl) 4 _ rfl) 5 _ rfl) 6 _ rfl, (fun _ => (HQ.out).step hb)⟩
       kernel_rfl
      case o7 =>
       rintro L a' W ⟨u, V, rfl, HI, E, HP⟩ hL hd K hK
       have e6 : u 6 = .tuple #[.string r2, .int .i64 E2] := E.out 6 (hd 6 (List.elem_iff.1 (by kernel_rfl)))
       simp only [List.setIfInBounds_toArray, List.set_cons_zero, List.set_cons_succ, e6]
       refine ite_take rfl ?_
       clear hL hd
       go_simp
       refine hK _ _ ⟨withVal (withVal u 6 (.tuple #[.string r2, .int .i64 E2])) 7 (.tuple #[.string r2, .int .i64 E2]), V, ?_, HI, withVal_next (withVal_same E 6 _ rfl) 7 _ rfl, (fun h => HP.out (by rwa [upd_other L (by decide)] at h))⟩
       kernel_rfl
      case o8 =>
       rintro L a' W ⟨u, V, rfl, HI, E, HP⟩ hL hd K hK
       have e7 : u 7 = .tuple #[.string r2, .int .i64 E2] := E.out 7 (hd 7 (List.elem_iff.1 (by kernel_rfl)))
       simp only [List.setIfInBounds_toArray, List.set_cons_zero, List.set_cons_succ, e7]
       refine ite_take rfl ?_
       clear hL hd
       go_simp
       refine hK _ _ ⟨withVal (withVal u 7 (.tuple #[.string r2, .int .i64 E2])) 8 (.string r2), V, ?_, HI, withVal_next (withVal_same E 7 _ rfl) 8 _ rfl, (fun h => HP.out (by rwa [upd_other L (by decide)] at h))⟩
       kernel_rfl
      case o9 =>
       rintro L a' W ⟨u, V, rfl, HI, E, HP⟩ hL hd K hK
       have e7 : u 7 = .tuple #[.string r2, .int .i64 E2] := E.out 7 (hd 7 (List.elem_iff.1 (by kernel_rfl)))
       simp only [List.setIfInBounds_toArray, List.set_cons_zero, List.set_cons_succ, e7]
       refine ite_take rfl ?_
       clear hL hd
       go_simp
       refine hK _ _ ⟨withVal (withVal u 7 (.tuple #[.string r2, .int .i64 E2])) 9 (.int .i64 E2), V, ?_, HI, withVal_next (withVal_same E 7 _ rfl) 9 _ rfl, (fun h => HP.out (by rwa [upd_other L (by decide)] at h))⟩
       kernel_rfl
      case o10 =>
       rintro L a' W ⟨u, V, rfl, HI, E, HP⟩ hL hd K hK
       have e8 : u 8 = .string r2 := E.out 8 (hd 8 (List.elem_iff.1 (by kernel_rfl)))
       simp only [List.setIfInBounds_toArray, List.set_cons_zero, List.set_cons_succ, e8]
       refine ite_take rfl ?_
       clear hL hd
       go_simp
       refine hK _ _ ⟨withVal (withVal u 8 (.string r2)) 10 (.string r2), V, ?_, HI, withVal_next (withVal_same E 8 _ rfl) 10 _ rfl, (fun h => HP.out (by rwa [upd_other L (by decide)] at h))⟩
       kernel_rfl
      case o11 =>
       rintro L a' W ⟨u, V, rfl, HI, E, HP⟩ hL hd K hK
       have e9 : u 9 = .int .i64 E2 := E.out 9 (hd 9 (List.elem_iff.1 (by kernel_rfl)))
       simp only [List.setIfInBounds_toArray, List.set_cons_zero, List.set_cons_succ, e9]
       refine ite_take rfl ?_
       clear hL hd
       go_simp
       refine hK _ _ ⟨withVal (withVal u 9 (.int .i64 E2)) 11 (.int .i64 E2), V, ?_, HI, withVal_next (withVal_same E 9 _ rfl) 11 _ rfl, (fun h => HP.out (by rwa [upd_other L (by decide)] at h))⟩
       kernel_rfl
     case hdone =>
      rintro L a' W1 hall ⟨u, V, rfl, HI, E, HP⟩
      have e0 : u 0 = .string g := E.out 0 (hall 0 (by decide))
      have e1 : u 1 = .slice ap n c := E.out 1 (hall 1 (by decide))
      have e2 : u 2 = .int .i64 (m : Int) := E.out 2 (hall 2 (by decide))
      have e3 : u 3 = .slice (if c = m then ap else ap.map (·.add (m * 3))) (n - m) (c - m) := E.out 3 (hall 3 (by decide))
      have e4 : u 4 = V := E.out 4 (hall 4 (by decide))
      have e5 : u 5 = .agg #[.string ⟨#[37, 46, 54, 103]⟩, .bool false] := E.out 5 (hall 5 (by decide))
      have e6 : u 6 = .tuple #[.string r2, .int .i64 E2] := E.out 6 (hall 6 (by decide))
      have e7 : u 7 = .tuple #[.string r2, .int .i64 E2] := E.out 7 (hall 7 (by decide))
      have e8 : u 8 = .string r2 := E.out 8 (hall 8 (by decide))
      have e9 : u 9 = .int .i64 E2 := E.out 9 (hall 9 (by decide))
      have e10 : u 10 = .string r2 := E.out 10 (hall 10 (by decide))
      have e11 : u 11 = .int .i64 E2 := E.out 11 (hall 11 (by decide))
      simp only [List.setIfInBounds_toArray, List.set_cons_zero, List.set_cons_succ, e0, e1, e2, e3, e4, e5, e6, e7, e8, e9, e10, e11]
      have hb11 := HI.out
      have HB11 := Lib.hid (HB9.out.trans (hb11.mono HB9.out.size))
      have HW11 := Lib.hid (HW9.out.below hb11)
      clear hall E HP HI y0 y1 hb11 hqz9
      have z0 : W1.cell? ⟨q, 0, none⟩ = some (.string ⟨#[37, 46, 54, 103]⟩) := Lib.cell_of_heap HW11.out 0
      have z1 : W1.cell? ⟨q, 1, none⟩ = some (.bool false) := Lib.cell_of_heap HW11.out 1
      have hqz11 : q < W1.heap.size := lt_of_heap HW11.out
      have hcc : ¬ 9223372036854775807 < fn + gn := by omega
      generalize (if c = m then ap else ap.map (·.add (m * 3))) = AP2
      go_wp2_with fail
      refine wp_region_guarded (by kernel_rfl) (by kernel_rfl) (fun a0 V0 L a W => ∃ (u : Nat → Value) (V : Value), a = { tmps := ((((((((((((a0.tmps.setIfInBounds 60 (u 0)).setIfInBounds 61 (u 1)).setIfInBounds 62 (u 2)).setIfInBounds 63 (u 3)).setIfInBounds 64 (u 4)).setIfInBounds 65 (u 5)).setIfInBounds 66 (u 6)).setIfInBounds 59 (u 7)).setIfInBounds 67 (u 8)).setIfInBounds 68 (u 9)).setIfInBounds 13 (u 10)).setIfInBounds 14 (u 11)), defers := a0.defers } ∧ Hid (Below V0.heap.size V0 W) ∧ Hid (∀ i, L i = true → u i = valAt [.string f, .string g, .string (f ++ g), .slice ap n c, V, .agg #[.string ⟨#[37, 46, 54, 103]⟩, .bool false], .tuple #[.string r3, .int .i64 E3], .tuple #[.string r3, .int .i64 E3], .string r3, .int .i64 E3, .string r3, .int .i64 E3] i) ∧ Hid (L 4 = true → CellsAt W W.heap.size V L0)) ?h0 ?hstep ?hdone
      case h0 =>
       refine ⟨valAt [u60, u61, u62, u63, u64, u65, u66, u59, u67, u68, u13, u14], undef, ?_, (Below.refl _ _).drew, (fun _ h => (by cases h)), (fun h => (by cases h))⟩
       kernel_rfl
      case hstep =>
       refine ⟨?o0, ?o1, ?o2, ?o3, ?o4, ?o5, ?o6, ?o7, ?o8, ?o9, ?o10, ?o11, trivial⟩
       case o0 =>
        rintro L a' W ⟨u, V, rfl, HI, E, HP⟩ hL hd K hK
        simp only [List.setIfInBounds_toArray, List.set_cons_zero, List.set_cons_succ]
        refine ite_take rfl ?_
        clear hL hd
        go_simp
        refine hK _ _ ⟨withVal u 0 (.string f), V, ?_, HI, withVal_next E 0 _ rfl, (fun h => HP.out (by rwa [upd_other L (by decide)] at h))⟩
        kernel_rfl
       case o1 =>
        rintro L a' W ⟨u, V, rfl, HI, E, HP⟩ hL hd K hK
        simp only [List.setIfInBounds_toArray, List.set_cons_zero, List.set_cons_succ]
        refine ite_take rfl ?_
        clear hL hd
        go_simp
        refine hK _ _ ⟨withVal u 1 (.string g), V, ?_, HI, withVal_next E 1 _ rfl, (fun h => HP.out (by rwa [upd_other L (by decide)] at h))⟩
        kernel_rfl
       case o2 =>
        rintro L a' W ⟨u, V, rfl, HI, E, HP⟩ hL hd K hK
        have e0 : u 0 = .string f := E.out 0 (hd 0 (List.elem_iff.1 (by kernel_rfl)))
        have e1 : u 1 = .string g := E.out 1 (hd 1 (List.elem_iff.1 (by kernel_rfl)))
        simp only [List.setIfInBounds_toArray, List.set_cons_zero, List.set_cons_succ, e0, e1]
        refine ite_take rfl ?_
        clear hL hd
        go_simp
        refine hK _ _ ⟨withVal (withVal (withVal u 0 (.string f)) 1 (.string g)) 2 (.string (f ++ g)), V, ?_, HI, withVal_next (withVal_same (withVal_same E 0 _ rfl) 1 _ rfl) 2 _ rfl, (fun h => HP.out (by rwa [upd_other L (by decide)] at h))⟩
        kernel_rfl
       case o3 =>
        rintro L a' W ⟨u, V, rfl, HI, E, HP⟩ hL hd K hK
        simp only [List.setIfInBounds_toArray, List.set_cons_zero, List.set_cons_succ]
        refine ite_take rfl ?_
        clear hL hd
        go_simp
        refine hK _ _ ⟨withVal u 3 (.slice ap n c), V, ?_, HI, withVal_next E 3 _ rfl, (fun h => HP.out (by rwa [upd_other L (by decide)] at h))⟩
        kernel_rfl
       case o4 =>
        rintro L a' W ⟨u, V, rfl, HI, E, HP⟩ hL hd K hK
        have e3 : u 3 = .slice ap n c := E.out 3 (hd 3 (List.elem_iff.1 (by kernel_rfl)))
        simp only [List.setIfInBounds_toArray, List.set_cons_zero, List.set_cons_succ, e3]
        refine ite_take rfl ?_
        clear hd
        go_simp
        refine (HMd0.out W (HB11.out.trans (HI.out.mono HB11.out.size))).mono ?_
        rintro e W' ⟨⟨V', rfl, hp'⟩, hb⟩
        have E' : Hid (∀ i, L i = true → u i = valAt [.string f, .string g, .string (f ++ g), .slice ap n c, V', .agg #[.string ⟨#[37, 46, 54, 103]⟩, .bool false], .tuple #[.string r3, .int .i64 E3], .tuple #[.string r3, .int .i64 E3], .string r3, .int .i64 E3, .string r3, .int .i64 E3] i) := fun i hi => by
         have hne : i ≠ 4 := fun h => by rw [h, hL] at hi; cases hi
         rw [E.out i hi]
         exact valAt_other 4 hne (by rfl)
        refine hK _ _ ⟨withVal (withVal u 3 (.slice ap n c)) 4 (V'), V', ?_, HI.out.trans (hb.mono HI.out.size), withVal_next (withVal_same E' 3 _ rfl) 4 _ rfl, (fun _ => hp')⟩
        kernel_rfl
       case o5 =>
        rintro L a' W ⟨u, V, rfl, HI, E, HP⟩ hL hd K hK
        have kz0 := cellNext HI.out z0
        have kz1 := cellNext HI.out z1
        simp only [List.setIfInBounds_toArray, List.set_cons_zero, List.set_cons_succ]
        refine ite_take rfl ?_
        clear hL hd
        go_simp
        refine hK _ _ ⟨withVal u 5 (.agg #[.string ⟨#[37, 46, 54, 103]⟩, .bool false]), V, ?_, HI, withVal_next E 5 _ rfl, (fun h => HP.out (by rwa [upd_other L (by decide)] at h))⟩
        kernel_rfl
       case o6 =>
        rintro L a' W ⟨u, V, rfl, HI, E, HP⟩ hL hd K hK
        have e2 : u 2 = .string (f ++ g) := E.out 2 (hd 2 (List.elem_iff.1 (by kernel_rfl)))
        have e4 : u 4 = V := E.out 4 (hd 4 (List.elem_iff.1 (by kernel_rfl)))
        have e5 : u 5 = .agg #[.string ⟨#[37, 46, 54, 103]⟩, .bool false] := E.out 5 (hd 5 (List.elem_iff.1 (by kernel_rfl)))
        have hp := HP.out (hd 4 (List.elem_iff.1 (by kernel_rfl)))
        have HQ := Lib.hid hp
        clear hp
        simp only [List.setIfInBounds_toArray, List.set_cons_zero, List.set_cons_succ, e2, e4, e5]
        refine ite_take rfl ?_
        clear hL hd
        go_simp
        refine (HS3.out W V (HB11.out.trans (HI.out.mono HB11.out.size)) HQ.out).mono ?_
        rintro e W' ⟨rfl, hb⟩
        refine hK _ _ ⟨withVal (withVal (withVal (withVal u 2 (.string (f ++ g))) 4 (V)) 5 (.agg #[.string ⟨#[37, 46, 54, 103]⟩, .bool false])) 6 (.tuple #[.string r3, .int .i64 E3]), V, ?_, HI.out.trans (hb.mono HI.out.size), withVal_next (withVal_same (withVal_same (withVal_same E 2 _ rfl) 4 _ rfl) 5 _ rfl) 6 _ rfl, (fun _ => (HQ.out).step hb)⟩
        kernel_rfl
       case o7 =>
        rintro L a' W ⟨u, V, rfl, HI, E, HP⟩ hL hd K hK
        have e6 : u 6 = .tuple #[.string r3, .int .i64 E3] := E.out 6 (hd 6 (List.elem_iff.1 (by kernel_rfl)))
        simp only [List.setIfInBounds_toArray, List.set_cons_zero, List.set_cons_succ, e6]
        refine ite_take rfl ?_
        clear hL hd
        go_simp
        refine hK _ _ ⟨withVal (withVal u 6 (.tuple #[.string r3, .int .i64 E3])) 7 (.tuple #[.string r3, .int .i64 E3]), V, ?_, HI, withVal_next (withVal_same E 6 _ rfl) 7 _ rfl, (fun h => HP.out (by rwa [upd_other L (by decide)] at h))⟩
        kernel_rfl
       case o8 =>
        rintro L a' W ⟨u, V, rfl, HI, E, HP⟩ hL hd K hK
        have e7 : u 7 = .tuple #[.string r3, .int .i64 E3] := E.out 7 (hd 7 (List.elem_iff.1 (by kernel_rfl)))
        simp only [List.setIfInBounds_toArray, List.set_cons_zero, List.set_cons_succ, e7]
        refine ite_take rfl ?_
        clear hL hd
        go_simp
        refine hK _ _ ⟨withVal (withVal u 7 (.tuple #[.string r3, .int .i64 E3])) 8 (.string r3), V, ?_, HI, withVal_next (withVal_same E 7 _ rfl) 8 _ rfl, (fun h => HP.out (by rwa [upd_other L (by decide)] at h))⟩
        kernel_rfl
       case o9 =>
        rintro L a' W ⟨u, V, rfl, HI, E, HP⟩ hL hd K hK
        have e7 : u 7 = .tuple #[.string r3, .int .i64 E3] := E.out 7 (hd 7 (List.elem_iff.1 (by kernel_rfl)))
        simp only [List.setIfInBounds_toArray, List.set_cons_zero, List.set_cons_succ, e7]
        refine ite_take rfl ?_
        clear hL hd
        go_simp
        refine hK _ _ ⟨withVal (withVal u 7 (.tuple #[.string r3, .int .i64 E3])) 9 (.int .i64 E3), V, ?_, HI, withVal_next (withVal_same E 7 _ rfl) 9 _ rfl, (fun h => HP.out (by rwa [upd_other L (by decide)] at h))⟩
        kernel_rfl
       case o10 =>
        rintro L a' W ⟨u, V, rfl, HI, E, HP⟩ hL hd K hK
        have e8 : u 8 = .string r3 := E.out 8 (hd 8 (List.elem_iff.1 (by kernel_rfl)))
        simp only [List.setIfInBounds_toArray, List.set_cons_zero, List.set_cons_succ, e8]
        refine ite_take rfl ?_
        clear hL hd
        go_simp
        refine hK _ _ ⟨withVal (withVal u 8 (.string r3)) 10 (.string r3), V, ?_, HI, withVal_next (withVal_same E 8 _ rfl) 10 _ rfl, (fun h => HP.out (by rwa [upd_other L (by decide)] at h))⟩
        kernel_rfl
       case o11 =>
        rintro L a' W ⟨u, V, rfl, HI, E, HP⟩ hL hd K hK
        have e9 : u 9 = .int .i64 E3 := E.out 9 (hd 9 (List.elem_iff.1 (by kernel_rfl)))
        simp only [List.setIfInBounds_toArray, List.set_cons_zero, List.set_cons_succ, e9]
        refine ite_take rfl ?_
        clear hL hd
        go_simp
        refine hK _ _ ⟨withVal (withVal u 9 (.int .i64 E3)) 11 (.int .i64 E3), V, ?_, HI, withVal_next (withVal_same E 9 _ rfl) 11 _ rfl, (fun h => HP.out (by rwa [upd_other L (by decide)] at h))⟩
        kernel_rfl
      case hdone =>
       rintro L a' W1 hall ⟨u, V, rfl, HI, E, HP⟩
       have e0 : u 0 = .string f := E.out 0 (hall 0 (by decide))
       have e1 : u 1 = .string g := E.out 1 (hall 1 (by decide))
       have e2 : u 2 = .string (f ++ g) := E.out 2 (hall 2 (by decide))
       have e3 : u 3 = .slice ap n c := E.out 3 (hall 3 (by decide))
       have e4 : u 4 = V := E.out 4 (hall 4 (by decide))
       have e5 : u 5 = .agg #[.string ⟨#[37, 46, 54, 103]⟩, .bool false] := E.out 5 (hall 5 (by decide))
       have e6 : u 6 = .tuple #[.string r3, .int .i64 E3] := E.out 6 (hall 6 (by decide))
       have e7 : u 7 = .tuple #[.string r3, .int .i64 E3] := E.out 7 (hall 7 (by decide))
       have e8 : u 8 = .string r3 := E.out 8 (hall 8 (by decide))
       have e9 : u 9 = .int .i64 E3 := E.out 9 (hall 9 (by decide))
       have e10 : u 10 = .string r3 := E.out 10 (hall 10 (by decide))
       have e11 : u 11 = .int .i64 E3 := E.out 11 (hall 11 (by decide))
       simp only [List.setIfInBounds_toArray, List.set_cons_zero, List.set_cons_succ, e0, e1, e2, e3, e4, e5, e6, e7, e8, e9, e10, e11]
       have hb12 := HI.out
       have HB12 := Lib.hid (HB11.out.trans (hb12.mono HB11.out.size))
       clear hall E HP HI z0 z1 hb12 hqz11
       by_cases hE2 : E2 = 0
       ·subst hE2
        have hj := HJ.out.2 rfl
        have hz1 := HZ1.out
        have hz2 := HZ2.out
        have hl2 := hsh2 rfl
        have hl1 := HSh.out
        obtain ⟨k1, hk1⟩ : ∃ k1, k1 = r1.size := ⟨_, rfl⟩
        obtain ⟨k2, hk2⟩ : ∃ k2, k2 = r2.size := ⟨_, rfl⟩
        have g1 : r1.size = k1 := hk1.symm
        have g2 : r2.size = k2 := hk2.symm
        have hadd : IntKind.i64.wrap ((k1 : Int) + (k2 : Int)) = (k1 : Int) + (k2 : Int) := by rw [IntKind.wrap_i64]; omega
        by_cases hbig : 1024 < (R1 ++ R2).length
        ·rw [if_pos hbig] at hj
         have h1 := (Prod.mk.inj hj).1
         have h2 := (Prod.mk.inj hj).2
         have h3 : r3 = ⟨#[]⟩ := by rw [HR.out.2.2, h1]
         subst h2 h3
         have hI5 : (1024 : Int) < (k1 : Int) + (k2 : Int) := by rw [List.length_append] at hbig; omega
         clear hj hz1 hz2 hl1 hl2 hk1 hk2 hbig h1 hsh2
         go_wp2_with fail
         go_ret
         exact ⟨rfl, HB12.out⟩
        ·rw [if_neg hbig] at hj
         have h1 := (Prod.mk.inj hj).1
         have h2 := (Prod.mk.inj hj).2
         have h3 : r3 = r1 ++ r2 := by
          rw [HR.out.2.2, h1, HR.out.1, HR.out.2.1]
          refine bytes_ext ?_
          simp
         subst h2 h3
         have hcc2 : ¬ 9223372036854775807 < k1 + k2 := by omega
         have hI5 : decide ((1024 : Int) < (k1 : Int) + (k2 : Int)) = false := by rw [List.length_append] at hbig; simp; omega
         clear hj hz1 hz2 hl1 hl2 hk1 hk2 hbig h1 hsh2
         go_wp2_with fail
         go_ret
         exact ⟨by simp, HB12.out⟩
       ·have hj := HJ.out.1 hE2
        have hE2b : (E2 != 0) = true := by simpa using hE2
        clear hsh2
        rcases hj with hj | hj
        ·have hEE : (E3 == E2) = true := by rw [hj]; simp
         clear hj
         go_wp2_with fail
         all_goals go_ret
         all_goals exact ⟨by simp, HB12.out⟩
        ·have hEE : (E3 == 3) = true := by rw [hj]; simp
         clear hj
         cases h : (E3 == E2)
         ·go_wp2_with fail
          all_goals go_ret
          all_goals exact ⟨by simp, HB12.out⟩
         ·go_wp2_with fail
          all_goals go_ret
          all_goals exact ⟨by simp, HB12.out⟩
   ·have hE1b : (E1 != 0) = true := by simpa using hE1
    have HMin2 : Hid (∀ j, j < m + 1 → (sprS sfC false f 0 [] (L0.take j)).2 ≠ 0) := fun j hj => by
     rcases Nat.lt_or_ge j m with h | h
     ·exact HMin.out j h
     ·obtain rfl : j = m := by omega
      rw [hR1]; exact hE1
    obtain ⟨r1, hr1⟩ : ∃ r1 : ByteArray, r1 = ⟨R1.toArray⟩ := ⟨_, rfl⟩
    rw [← hr1] at HS1
    clear hR1 hr1 hE1
    go_wp2_with fail
    refine wp_region_guarded (by kernel_rfl) (by kernel_rfl) (fun a0 V0 L a W => ∃ (u : Nat → Value) (V : Value), a = { tmps := ((((((((((((a0.tmps.setIfInBounds 38 (u 0)).setIfInBounds 39 (u 1)).setIfInBounds 40 (u 2)).setIfInBounds 41 (u 3)).setIfInBounds 42 (u 4)).setIfInBounds 43 (u 5)).setIfInBounds 44 (u 6)).setIfInBounds 37 (u 7)).setIfInBounds 45 (u 8)).setIfInBounds 46 (u 9)).setIfInBounds 9 (u 10)).setIfInBounds 10 (u 11)), defers := a0.defers } ∧ Hid (Below V0.heap.size V0 W) ∧ Hid (∀ i, L i = true → u i = valAt [.string f, .slice ap n c, .int .i64 (m : Int), .slice ap m c, V, .agg #[.string ⟨#[37, 46, 54, 103]⟩, .bool false], .tuple #[.string r1, .int .i64 E1], .tuple #[.string r1, .int .i64 E1], .string r1, .int .i64 E1, .string r1, .int .i64 E1] i) ∧ Hid (L 4 = true → CellsAt W W.heap.size V (L0.take m))) ?h0 ?hstep ?hdone
    case h0 =>
     refine ⟨valAt [u38, u39, u40, u41, u42, u43, u44, u37, u45, u46, u9, u10], undef, ?_, (Below.refl _ _).drew, (fun _ h => (by cases h)), (fun h => (by cases h))⟩
     kernel_rfl
    case hstep =>
     refine ⟨?o0, ?o1, ?o2, ?o3, ?o4, ?o5, ?o6, ?o7, ?o8, ?o9, ?o10, ?o11, trivial⟩
     case o0 =>
      rintro L a' W ⟨u, V, rfl, HI, E, HP⟩ hL hd K hK
      simp only [List.setIfInBounds_toArray, List.set_cons_zero, List.set_cons_succ]
      refine ite_take rfl ?_
      clear hL hd
      go_simp
      refine hK _ _ ⟨withVal u 0 (.string f), V, ?_, HI, withVal_next E 0 _ rfl, (fun h => HP.out (by rwa [upd_other L (by decide)] at h))⟩
      kernel_rfl
     case o1 =>
      rintro L a' W ⟨u, V, rfl, HI, E, HP⟩ hL hd K hK
      simp only [List.setIfInBounds_toArray, List.set_cons_zero, List.set_cons_succ]
      refine ite_take rfl ?_
      clear hL hd
      go_simp
      refine hK _ _ ⟨withVal u 1 (.slice ap n c), V, ?_, HI, withVal_next E 1 _ rfl, (fun h => HP.out (by rwa [upd_other L (by decide)] at h))⟩
      kernel_rfl
     case o2 =>
      rintro L a' W ⟨u, V, rfl, HI, E, HP⟩ hL hd K hK
      simp only [List.setIfInBounds_toArray, List.set_cons_zero, List.set_cons_succ]
      refine ite_take rfl ?_
      clear hL hd
      go_simp
      refine hK _ _ ⟨withVal u 2 (.int .i64 (m : Int)), V, ?_, HI, withVal_next E 2 _ rfl, (fun h => HP.out (by rwa [upd_other L (by decide)] at h))⟩
      kernel_rfl
     case o3 =>
      rintro L a' W ⟨u, V, rfl, HI, E, HP⟩ hL hd K hK
      have e1 : u 1 = .slice ap n c := E.out 1 (hd 1 (List.elem_iff.1 (by kernel_rfl)))
      have e2 : u 2 = .int .i64 (m : Int) := E.out 2 (hd 2 (List.elem_iff.1 (by kernel_rfl)))
      simp only [List.setIfInBounds_toArray, List.set_cons_zero, List.set_cons_succ, e1, e2]
      refine ite_take rfl ?_
      clear hL hd
      go_simp
      refine hK _ _ ⟨withVal (withVal (withVal u 1 (.slice ap n c)) 2 (.int .i64 (m : Int))) 3 (.slice ap m c), V, ?_, HI, withVal_next (withVal_same (withVal_same E 1 _ rfl) 2 _ rfl) 3 _ rfl, (fun h => HP.out (by rwa [upd_other L (by decide)] at h))⟩
      kernel_rfl
     case o4 =>
      rintro L a' W ⟨u, V, rfl, HI, E, HP⟩ hL hd K hK
      have e3 : u 3 = .slice ap m c := E.out 3 (hd 3 (List.elem_iff.1 (by kernel_rfl)))
      simp only [List.setIfInBounds_toArray, List.set_cons_zero, List.set_cons_succ, e3]
      refine ite_take rfl ?_
      clear hd
      go_simp
      refine (HMd1.out m W hmn (HB0.out.trans (HI.out.mono HB0.out.size))).mono ?_
      rintro e W' ⟨⟨V', rfl, hp'⟩, hb⟩
      have E' : Hid (∀ i, L i = true → u i = valAt [.string f, .slice ap n c, .int .i64 (m : Int), .slice ap m c, V', .agg #[.string ⟨#[37, 46, 54, 103]⟩, .bool false], .tuple #[.string r1, .int .i64 E1], .tuple #[.string r1, .int .i64 E1], .string r1, .int .i64 E1, .string r1, .int .i64 E1] i) := fun i hi => by
       have hne : i ≠ 4 := fun h => by rw [h, hL] at hi; cases hi
       rw [E.out i hi]
       exact valAt_other 4 hne (by rfl)
      refine hK _ _ ⟨withVal (withVal u 3 (.slice ap m c)) 4 (V'), V', ?_, HI.out.trans (hb.mono HI.out.size), withVal_next (withVal_same E' 3 _ rfl) 4 _ rfl, (fun _ => hp')⟩
      kernel_rfl
     case o5 =>
      rintro L a' W ⟨u, V, rfl, HI, E, HP⟩ hL hd K hK
      have kx0 := cellNext HI.out x0
      have kx1 := cellNext HI.out x1
      simp only [List.setIfInBounds_toArray, List.set_cons_zero, List.set_cons_succ]
      refine ite_take rfl ?_
      clear hL hd
      go_simp
      refine hK _ _ ⟨withVal u 5 (.agg #[.string ⟨#[37, 46, 54, 103]⟩, .bool false]), V, ?_, HI, withVal_next E 5 _ rfl, (fun h => HP.out (by rwa [upd_other L (by decide)] at h))⟩
      kernel_rfl
     case o6 =>
      rintro L a' W ⟨u, V, rfl, HI, E, HP⟩ hL hd K hK
      have e0 : u 0 = .string f := E.out 0 (hd 0 (List.elem_iff.1 (by kernel_rfl)))
      have e4 : u 4 = V := E.out 4 (hd 4 (List.elem_iff.1 (by kernel_rfl)))
      have e5 : u 5 = .agg #[.string ⟨#[37, 46, 54, 103]⟩, .bool false] := E.out 5 (hd 5 (List.elem_iff.1 (by kernel_rfl)))
      have hp := HP.out (hd 4 (List.elem_iff.1 (by kernel_rfl)))
      have HQ := Lib.hid hp
      clear hp
      simp only [List.setIfInBounds_toArray, List.set_cons_zero, List.set_cons_succ, e0, e4, e5]
      refine ite_take rfl ?_
      clear hL hd
      go_simp
      refine (HS1.out W V (HB0.out.trans (HI.out.mono HB0.out.size)) HQ.out).mono ?_
      rintro e W' ⟨rfl, hb⟩
      refine hK _ _ ⟨withVal (withVal (withVal (withVal u 0 (.string f)) 4 (V)) 5 (.agg #[.string ⟨#[37, 46, 54, 103]⟩, .bool false])) 6 (.tuple #[.string r1, .int .i64 E1]), V, ?_, HI.out.trans (hb.mono HI.out.size), withVal_next (withVal_same (withVal_same (withVal_same E 0 _ rfl) 4 _ rfl) 5 _ rfl) 6 _ rfl, (fun _ => (HQ.out).step hb)⟩
      kernel_rfl
     case o7 =>
      rintro L a' W ⟨u, V, rfl, HI, E, HP⟩ hL hd K hK
      have e6 : u 6 = .tuple #[.string r1, .int .i64 E1] := E.out 6 (hd 6 (List.elem_iff.1 (by kernel_rfl)))
      simp only [List.setIfInBounds_toArray, List.set_cons_zero, List.set_cons_succ, e6]
      refine ite_take rfl ?_
      clear hL hd
      go_simp
      refine hK _ _ ⟨withVal (withVal u 6 (.tuple #[.string r1, .int .i64 E1])) 7 (.tuple #[.string r1, .int .i64 E1]), V, ?_, HI, withVal_next (withVal_same E 6 _ rfl) 7 _ rfl, (fun h => HP.out (by rwa [upd_other L (by decide)] at h))⟩
      kernel_rfl
     case o8 =>
      rintro L a' W ⟨u, V, rfl, HI, E, HP⟩ hL hd K hK
      have e7 : u 7 = .tuple #[.string r1, .int .i64 E1] := E.out 7 (hd 7 (List.elem_iff.1 (by kernel_rfl)))
      simp only [List.setIfInBounds_toArray, List.set_cons_zero, List.set_cons_succ, e7]
      refine ite_take rfl ?_
      clear hL hd
      go_simp
      refine hK _ _ ⟨withVal (withVal u 7 (.tuple #[.string r1, .int .i64 E1])) 8 (.string r1), V, ?_, HI, withVal_next (withVal_same E 7 _ rfl) 8 _ rfl, (fun h => HP.out (by rwa [upd_other L (by decide)] at h))⟩
      kernel_rfl
     case o9 =>
      rintro L a' W ⟨u, V, rfl, HI, E, HP⟩ hL hd K hK
      have e7 : u 7 = .tuple #[.string r1, .int .i64 E1] := E.out 7 (hd 7 (List.elem_iff.1 (by kernel_rfl)))
      simp only [List.setIfInBounds_toArray, List.set_cons_zero, List.set_cons_succ, e7]
      refine ite_take rfl ?_
      clear hL hd
      go_simp
      refine hK _ _ ⟨withVal (withVal u 7 (.tuple #[.string r1, .int .i64 E1])) 9 (.int .i64 E1), V, ?_, HI, withVal_next (withVal_same E 7 _ rfl) 9 _ rfl, (fun h => HP.out (by rwa [upd_other L (by decide)] at h))⟩
      kernel_rfl
     case o10 =>
      rintro L a' W ⟨u, V, rfl, HI, E, HP⟩ hL hd K hK
      have e8 : u 8 = .string r1 := E.out 8 (hd 8 (List.elem_iff.1 (by kernel_rfl)))
      simp only [List.setIfInBounds_toArray, List.set_cons_zero, List.set_cons_succ, e8]
      refine ite_take rfl ?_
      clear hL hd
      go_simp
      refine hK _ _ ⟨withVal (withVal u 8 (.string r1)) 10 (.string r1), V, ?_, HI, withVal_next (withVal_same E 8 _ rfl) 10 _ rfl, (fun h => HP.out (by rwa [upd_other L (by decide)] at h))⟩
      kernel_rfl
     case o11 =>
      rintro L a' W ⟨u, V, rfl, HI, E, HP⟩ hL hd K hK
      have e9 : u 9 = .int .i64 E1 := E.out 9 (hd 9 (List.elem_iff.1 (by kernel_rfl)))
      simp only [List.setIfInBounds_toArray, List.set_cons_zero, List.set_cons_succ, e9]
      refine ite_take rfl ?_
      clear hL hd
      go_simp
      refine hK _ _ ⟨withVal (withVal u 9 (.int .i64 E1)) 11 (.int .i64 E1), V, ?_, HI, withVal_next (withVal_same E 9 _ rfl) 11 _ rfl, (fun h => HP.out (by rwa [upd_other L (by decide)] at h))⟩
      kernel_rfl
    case hdone =>
     rintro L a' W1 hall ⟨u, V, rfl, HI, E, HP⟩
     have e0 : u 0 = .string f := E.out 0 (hall 0 (by decide))
     have e1 : u 1 = .slice ap n c := E.out 1 (hall 1 (by decide))
     have e2 : u 2 = .int .i64 (m : Int) := E.out 2 (hall 2 (by decide))
     have e3 : u 3 = .slice ap m c := E.out 3 (hall 3 (by decide))
     have e4 : u 4 = V := E.out 4 (hall 4 (by decide))
     have e5 : u 5 = .agg #[.string ⟨#[37, 46, 54, 103]⟩, .bool false] := E.out 5 (hall 5 (by decide))
     have e6 : u 6 = .tuple #[.string r1, .int .i64 E1] := E.out 6 (hall 6 (by decide))
     have e7 : u 7 = .tuple #[.string r1, .int .i64 E1] := E.out 7 (hall 7 (by decide))
     have e8 : u 8 = .string r1 := E.out 8 (hall 8 (by decide))
     have e9 : u 9 = .int .i64 E1 := E.out 9 (hall 9 (by decide))
     have e10 : u 10 = .string r1 := E.out 10 (hall 10 (by decide))
     have e11 : u 11 = .int .i64 E1 := E.out 11 (hall 11 (by decide))
     simp only [List.setIfInBounds_toArray, List.set_cons_zero, List.set_cons_succ, e0, e1, e2, e3, e4, e5, e6, e7, e8, e9, e10, e11]
     have hb9 := HI.out
     have HB9 := Lib.hid (HB0.out.trans (hb9.mono HB0.out.size))
     have HW9 := Lib.hid (HWy.out.below hb9)
     clear hall E HP HI x0 x1 hb9 hqz
     go_wp2_with fail
     go_roundw
     case rel => exact ⟨m + 1, by go_num, by omega, by omega, HMin2.out, HW9.out, HB9.out⟩
     case measure => simp only [intOf]; omega
  ·have HB0 := HB
   rcases Nat.lt_or_ge n m with hgt | hle
   ·have hmnI : decide ((m : Int) ≤ (n : Int)) = false := by simp; omega
    have hmnI' : ¬ (m : Int) ≤ (n : Int) := by omega
    clear hgo
    go_wp2_with fail
    go_ret
    exact ⟨rfl, HB0.out⟩
   ·have hmnI : (m : Int) ≤ (n : Int) := by omega
    obtain rfl : m = 12 := by omega
    clear hgo
    go_wp2_with fail
    go_ret
    exact ⟨rfl, HB0.out⟩
theorem joins11_law {a : Option Addr} {n c : Nat} (f g : ByteArray) (L : List CellT) (w : World) (hT : Tabs5 w) (hf : f.size ≤ 900000000) (hg : g.size ≤ 900000000) (rs : OnesR w a n L) (nc : n ≤ c) (ok : ∀ e ∈ L, e.2.1 < 18446744073709551616) (bz : sizeC L + n ≤ 1048576) :
 Calls Tryz.prog 8 #[.string f, .string g, .slice a n c] w fun e w' => e = .returned (.bool true) ∧ Below w.heap.size w w' := joins11_any f g hT rs (by omega) nc ok (by omega) (by omega) (by omega)
end Go.Proofs.YtfdnhkjeoeffoaaGreatDoor
