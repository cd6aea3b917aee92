
import Derived.Test.YtfdnhkjeoeffoaaGreatDoorM9
import Derived.Test.YtfdnhkjeoeffoaaGreatDoorM3
import Derived.Test.YtfdnhkjeoeffoaaGreatDoorM6
import Derived.Deep.AppendLies
section

namespace Go.Proofs.YtfdnhkjeoeffoaaGreatDoor
open Go.RowKit
set_option linter.unusedVariables false
theorem apart_freeze (w : World) (g n : Nat) : Apart [g] w (w.freeze ⟨g, 0, none⟩ n) := by
 unfold World.freeze
 split
 ·exact Apart.refl _ _
 ·refine ⟨rfl, rfl, rfl, by simp, fun k hk hn => ?_⟩
  have : g ≠ k := fun e => hn (by simp [e])
  simp [Array.getElem?_modify, this]
theorem lenL {w : World} {B b : Nat} {conv : ByteArray} {by_ : Bool} {L : List CellT} {out : List UInt8} (h : WrL w B b conv by_ L out) :
 Calls Tryz.prog 90 #[.pointer (some ⟨b, 3, none⟩)] w fun e w' => e = .returned (.int .i64 (out.length : Nat)) ∧ w' = w := by
 obtain ⟨av, p, v, h1, h2⟩ := h
 have h3 := LenE_any h1
 rw [Lib.byteCells_length] at h3
 exact h3
theorem stringL {w : World} {B b : Nat} {conv : ByteArray} {by_ : Bool} {L : List CellT} {out : List UInt8} (h : WrL w B b conv by_ L out) :
 Calls Tryz.prog 91 #[.pointer (some ⟨b, 3, none⟩)] w fun e w' => e = .returned (.string ⟨out.toArray⟩) ∧ Below B w w' := by
 have hlt := h.lt
 obtain ⟨av, p, v, h1, h2⟩ := h
 refine (StringE_any h1 (by omega)).mono ?_
 rintro e w' ⟨rfl, W0, h0, h3⟩
 refine ⟨rfl, ?_⟩
 have A0 : Apart v.ownBlock.toList w W0 := by
  rcases h0 with rfl | ⟨o, rfl⟩
  ·exact Apart.refl _ _
  ·exact (Apart.refl _ _).alloc o
 have A1 : Apart v.ownBlock.toList w w' := by
  rcases h3 with rfl | ⟨g, n, hg, rfl⟩
  ·exact A0.drew
  ·exact A0.drew.trans (apart_freeze W0.drew g n) (fun x hx => .inl (by simp at hx; subst hx; simp [hg]))
 exact A1.below (by omega) (fun x hx => own_lo h1 x (List.mem_cons_of_mem _ hx))
/-- one part of a format, at a place -/
noncomputable def stepF (sf : CellT → ByteArray) (by_ : Bool) (f : ByteArray) (k : Nat) (L : List CellT) : Option (List UInt8 × List CellT) :=
 if okP f k = true then partF sf by_ (hasF 45 f (k + 1) (flagN f (k + 1))) (hasF 43 f (k + 1) (flagN f (k + 1))) (hasF 32 f (k + 1) (flagN f (k + 1))) (hasF 35 f (k + 1) (flagN f (k + 1))) (hasF 48 f (k + 1) (flagN f (k + 1)))
  (fw f k).1 (fp f k).1 (ch f (pv f k)) (fw f k).2.1 (fp f k).2.1 L else none
/-- the bytes ahead of the next percent sign -/
def runN (f : ByteArray) (k : Nat) : Nat := if Lib.indexByte (f.data.toList.drop k) 37 < 0 then f.size - k else (Lib.indexByte (f.data.toList.drop k) 37).toNat
/-- what Sprintf answers, from a place on: the text, the error -/
noncomputable def sprF (sf : CellT → ByteArray) (by_ : Bool) (f : ByteArray) : Nat → Nat → List UInt8 → List CellT → List UInt8 × Int
 | 0, _, _, _ => ([], 3)
 | n + 1, k, out, L =>
   if f.size ≤ k then (out, 0) else
   if k + runN f k < f.size then
    match stepF sf by_ f (k + runN f k) L with
    | none => ([], 50)
    | some (o, L') => if 1024 < (out ++ ((f.data.toList.drop k).take (runN f k) ++ o)).length then ([], 3) else sprF sf by_ f n (pv f (k + runN f k) + 1) (out ++ ((f.data.toList.drop k).take (runN f k) ++ o)) L'
   else if 1024 < (out ++ (f.data.toList.drop k).take (runN f k)).length then ([], 3) else sprF sf by_ f n (k + runN f k) (out ++ (f.data.toList.drop k).take (runN f k)) L
theorem pv_gt (f : ByteArray) (k : Nat) : k < pv f k := by
 have h1 : k + 1 ≤ pw f k := by unfold pw; omega
 have h2 : pw f k ≤ pd f k := by unfold pd; omega
 unfold pv
 split <;> omega
theorem pv_in {f : ByteArray} {k : Nat} (h : okP f k = true) : pv f k < f.size := by
 rcases Nat.lt_or_ge (pv f k) f.size with h1 | h1
 ·exact h1
 ·exfalso
  unfold okP at h
  rw [ch_out h1] at h
  simp at h
theorem partF_sub {sf : CellT → ByteArray} {by_ m p bl al z : Bool} {wd pr : Int} {vb : Nat} {sw sp : Bool} {L : List CellT} {o : List UInt8} {L' : List CellT} (h : partF sf by_ m p bl al z wd pr vb sw sp L = some (o, L')) : ∀ c ∈ L', c ∈ L := by
 intro x hx
 unfold partF at h
 split at h
 ·cases h
 ·rename_i m' wd' pr' L1 hS
  split at h
  ·cases h
  ·split at h
   ·injection h with h; injection h with h1 h2; subst h2
    exact starsF_sub hS x hx
   ·split at h
    ·cases h
    ·split at h
     ·injection h with h; injection h with h1 h2; subst h2
      exact starsF_sub hS x (List.mem_cons_of_mem _ hx)
     ·cases h
theorem ext_drop (f : ByteArray) (k : Nat) : (f.extract k f.size).data.toList = f.data.toList.drop k := by
 rw [ext_list, List.take_of_length_le]
 rw [List.length_drop, ← size_list]; omega
theorem index_lt {l : List UInt8} {c : UInt8} (h : 0 ≤ Lib.indexByte l c) : (Lib.indexByte l c).toNat < l.length := by
 have h1 := (Lib.indexByte_some (l := l) (c := c) (o := (Lib.indexByte l c).toNat) (by omega)).1
 exact (List.getElem?_eq_some_iff.1 h1).1
theorem sprF_end {sf : CellT → ByteArray} {by_ : Bool} {f : ByteArray} {n k : Nat} {out : List UInt8} {L : List CellT} (hn : 0 < n) (h : f.size ≤ k) : sprF sf by_ f n k out L = (out, 0) := by
 obtain ⟨n, rfl⟩ : ∃ m, n = m + 1 := ⟨n - 1, by omega⟩
 unfold sprF
 rw [if_pos h]
theorem sprF_run {sf : CellT → ByteArray} {by_ : Bool} {f : ByteArray} {n k : Nat} {out : List UInt8} {L : List CellT} (h : k < f.size) (h2 : ¬ k + runN f k < f.size) : sprF sf by_ f (n + 1) k out L = if 1024 < (out ++ (f.data.toList.drop k).take (runN f k)).length then ([], 3) else sprF sf by_ f n (k + runN f k) (out ++ (f.data.toList.drop k).take (runN f k)) L := by
 rw [sprF, if_neg (by omega), if_neg h2]
theorem sprF_part {sf : CellT → ByteArray} {by_ : Bool} {f : ByteArray} {n k : Nat} {out : List UInt8} {L : List CellT} (h : k < f.size) (h2 : k + runN f k < f.size) : sprF sf by_ f (n + 1) k out L = match stepF sf by_ f (k + runN f k) L with
 | none => ([], 50)
 | some (o, L') => if 1024 < (out ++ ((f.data.toList.drop k).take (runN f k) ++ o)).length then ([], 3) else sprF sf by_ f n (pv f (k + runN f k) + 1) (out ++ ((f.data.toList.drop k).take (runN f k) ++ o)) L' := by
 rw [sprF, if_neg (by omega), if_pos h2]
set_option maxHeartbeats 16000000 in
set_option maxRecDepth 100000 in
theorem sprintf_any {M : Nat} {NV : Nat → Prop} (hNum : NumOk NV) (Q : Nat → Prop) (f conv : ByteArray) (by_ : Bool) (av : Value) (L : List CellT) (sf : CellT → ByteArray) (w0 : World) (hQ0 : Q 0) (hQ : ∀ k, Q k → k + runN f k < f.size → okP f (k + runN f k) = true → (isNum (ch f (pv f (k + runN f k))) = true → NV (ch f (pv f (k + runN f k)))) ∧ Q (pv f (k + runN f k) + 1)) (hT : Tabs5 w0) (hM : 4 ≤ M) (hM2 : M ≤ 140737488351232) (hf : f.size ≤ 1000000) (hfM : f.size + M + 2048 ≤ 140737488355328) (hA : CellsAt w0 w0.heap.size av L) (hC : ∀ c ∈ L, CFit M w0 conv sf c) (hZ : CFit M w0 conv sf (0, 0, ⟨#[]⟩)) :
 Calls Tryz.prog 35 #[.string f, av, .agg #[.string conv, .bool by_]] w0 fun e w' => e = .returned (.tuple #[.string ⟨(sprF sf by_ f (f.size + 1) 0 [] L).1.toArray⟩, .int .i64 (sprF sf by_ f (f.size + 1) 0 [] L).2]) ∧ Below w0.heap.size w0 w' := by
 obtain ⟨R, E, hRE⟩ : ∃ R E, sprF sf by_ f (f.size + 1) 0 [] L = (R, E) := ⟨_, _, rfl⟩
 rw [hRE]
 have HNum := Lib.hid hNum
 have HQS := Lib.hid hQ
 have HQ0 := Lib.hid hQ0
 clear hNum hQ hQ0
 have HT := Lib.hid hT
 have HC := Lib.hid hC
 have HZ := Lib.hid hZ
 have hB1 : Below w0.heap.size w0 ((w0.alloc (.cells #[.string conv, .bool by_] 54)).alloc (.cells #[.string conv, .bool by_, av, .pointer none, .slice none 0 0] 124)) := ((Below.refl _ _).alloc (Nat.le_refl _) _).alloc (by simp) _
 have hW1 : WrL ((w0.alloc (.cells #[.string conv, .bool by_] 54)).alloc (.cells #[.string conv, .bool by_, av, .pointer none, .slice none 0 0] 124)) w0.heap.size (w0.heap.size + 1) conv by_ L [] := by
  refine ⟨av, .pointer none, .slice none 0 0, ⟨by omega, ?_, rfl, rfl, rfl, .inl rfl, World.ownsRow_nil ..⟩, hA.below (Nat.le_refl _) hB1⟩
  have := heap_alloc_at (w0.alloc (.cells #[.string conv, .bool by_] 54)) (.cells #[.string conv, .bool by_, av, .pointer none, .slice none 0 0] 124)
  rwa [World.size_alloc] at this
 obtain ⟨a, cap, rfl, _⟩ := hA
 obtain ⟨fs, hfs⟩ : ∃ fs, fs = f.size := ⟨_, rfl⟩
 have HFS := Lib.hid hfs
 have hfN : f.size = fs := hfs.symm
 obtain ⟨b, hbe⟩ : ∃ b, b = w0.heap.size + 1 := ⟨_, rfl⟩
 have HBE := Lib.hid hbe
 have HS0 : Hid (sprF sf by_ f (fs + 1) 0 [] L = (R, E)) := by show _ = _; rw [hfs]; exact hRE
 rw [← hbe] at hW1
 have HW1 := Lib.hid hW1
 have HB1 := Lib.hid hB1
 have HIx := Lib.hid (fun (s : ByteArray) (W : World) => Tryz.strings_IndexByte s 37 W)
 have hfs6 : fs ≤ 1000000 := by omega
 have hfs7 : fs + M + 2048 ≤ 140737488355328 := by omega
 clear hW1 hB1 hRE hT hC hZ hf hfs hbe
 go_enter Tryz.func35, Tryz.ntmps35
 go_wp2_with fail
 rw [← HBE.out]
 go_loopw [9] (fun v9 wr => ∃ (n k : Nat) (out : List UInt8) (L' : List CellT), v9 = .int .i64 (k : Int) ∧ k ≤ fs ∧ Hid (fs - k < n) ∧ Hid (WrL wr w0.heap.size b conv by_ L' out) ∧ Hid (Below w0.heap.size w0 wr) ∧ Hid (∀ c ∈ L', c ∈ L) ∧ out.length ≤ 1024 ∧ Hid (k < fs → Q k) ∧ Hid (sprF sf by_ f n k out L' = (R, E))) (fun v9 _ => fs - (intOf v9).toNat)
 case atStart => exact ⟨fs + 1, 0, [], L, rfl, Nat.zero_le _, by show _ < _; omega, HW1.out, HB1.out, fun c hc => hc, by decide, fun _ => HQ0.out, HS0.out⟩
 case round =>
  obtain ⟨n, k, out, L', rfl, hk, HN, HW, HB, HSub, hol, HQk, HR⟩ := hrel
  have hbz := HW.out.lt.1
  have hn0 : 0 < n := by have := HN.out; omega
  by_cases hkf : k < fs
  ·obtain ⟨n1, rfl⟩ : ∃ n1, n = n1 + 1 := ⟨n - 1, by omega⟩
   have hkI : (k : Int) < (fs : Int) := by omega
   have hkfz : k < f.size := by have := HFS.out; omega
   obtain ⟨j, hj⟩ : ∃ j, j = runN f k := ⟨_, rfl⟩
   have hjk : k + j ≤ fs := by
    have hz := HFS.out
    have hl : (f.data.toList.drop k).length = f.size - k := by rw [List.length_drop, ← size_list]
    rw [hj]; unfold runN
    split
    ·omega
    ·have := index_lt (l := f.data.toList.drop k) (c := 37) (by omega)
     omega
   have hpl : ((f.extract k (k + j)).data.toList) = (f.data.toList.drop k).take j := by rw [ext_list, Nat.add_sub_cancel_left]
   have hpz : (f.extract k (k + j)).size = j := by have := HFS.out; rw [ByteArray.size_extract]; omega
   by_cases hin : k + j < fs
   ·-- a percent sign
    have hix : Lib.indexByte (f.extract k f.size).data.toList 37 = (j : Int) := by
     rw [ext_drop]
     have : ¬ Lib.indexByte (f.data.toList.drop k) 37 < 0 := fun hneg => by
      have hz := HFS.out
      rw [hj] at hin; unfold runN at hin; rw [if_pos hneg] at hin; omega
     rw [hj]; unfold runN; rw [if_neg this]; omega
    have hch : ch f (k + j) = 37 := by
     have h := (Lib.indexByte_some (l := f.data.toList.drop k) (c := 37) (o := j) (by rw [← ext_drop]; exact hix)).1
     exact ch_get h
    have hchr : chr f ((k : Int) + (j : Int)) = 37 := by
     have e : (k : Int) + (j : Int) = ((k + j : Nat) : Int) := by omega
     rw [e, chr_nat]; exact hch
    obtain ⟨WI, hWI⟩ : ∃ WI : Bool → World → Prop, WI = fun c W => Below w0.heap.size w0 W ∧ WrL W w0.heap.size b conv by_ L' (if c = true then out ++ (f.extract k (k + j)).data.toList else out) := ⟨_, rfl⟩
    have HWI0 : ∀ W, (W = wr ∨ W = wr.drew) → WI false W := fun W hW => by
     have hd : Below wr.heap.size wr W := by
      rcases hW with rfl | rfl
      ·exact Below.refl _ _
      ·exact (Below.refl _ _).drew
     rw [hWI]
     exact ⟨HB.out.trans (hd.mono HB.out.size), HW.out.below hd⟩
    have HWc : ∀ W, WI false W → Calls Tryz.prog 88 #[.pointer (some ⟨b, 3, none⟩), .string (f.extract k (k + j))] W fun e w' => e = .returned (.tuple #[.int .i64 (f.extract k (k + j)).size, .nilIface]) ∧ WI true w' := fun W hW => by
     rw [hWI] at hW ⊢
     refine (writeStrL (f.extract k (k + j)) hW.2 (by show out.length + _ ≤ _; omega)).mono ?_
     rintro e w' ⟨h1, h2, h3, _⟩
     exact ⟨h1, hW.1.trans h3, h2⟩
    have HWI := Lib.hid hWI
    have HWC := Lib.hid HWc
    have HW0 := Lib.hid HWI0
    clear hWI HWc HWI0
    have hRR := HR.out
    rw [sprF_part hkfz (by rw [← hj, ← HFS.out]; exact hin), ← hj, ← hpl] at hRR
    have hx : Hid (∀ W, Calls Tryz.prog 69 #[.string (f.extract k fs), .int .u8 37] W fun e w' => e = .returned (.int .i64 (j : Int)) ∧ w' = W) := fun W => by
     have h := HIx.out (f.extract k fs) W
     rw [← hfN] at h ⊢
     have h2 : Lib.indexByte (f.extract k f.size).data.toList (Int.toNat 37).toUInt8 = (j : Int) := hix
     rw [h2] at h
     exact h
    have hjkI : (k : Int) + (j : Int) < (fs : Int) := by omega
    have hjkL : (k : Int) + (j : Int) ≤ (fs : Int) := by omega
    have hp0 : (0 : Int) ≤ (k : Int) + (j : Int) := by omega
    have hkw : IntKind.i64.wrap ((k : Int) + (j : Int)) = (k : Int) + (j : Int) := by rw [IntKind.wrap_i64]; omega
    have hp1 : (k : Int) ≤ (k : Int) + (j : Int) := by omega
    have hp2 : ((k : Int) + (j : Int)).toNat = k + j := by omega
    have hjn : decide ((j : Int) < 0) = false := by simp
    have HPs := Lib.hid (fun W h => FParse_any f ((k : Int) + (j : Int)) W (by omega) h)
    cases hok : okP f (k + j)
    ·have hA : parseA f ((k : Int) + (j : Int)) = zeroA := by unfold parseA; rw [hp2, hok]; exact if_neg (fun h => by cases h.2)
     have hE : parseE f ((k : Int) + (j : Int)) = 50 := by unfold parseE; rw [hp2, hok]; exact if_neg (fun h => by cases h.2)
     rw [hA, hE] at HPs
     unfold zeroA pieceA at HPs
     have hst : stepF sf by_ f (k + j) L' = none := by unfold stepF; rw [hok]; exact if_neg Bool.false_ne_true
     rw [hst] at hRR
     have HR3 := Lib.hid (Prod.mk.inj hRR)
     clear hRR HR hj hpl hpz hix hkf hin HN hok hst hA hE hch hchr
     go_wp2_with fail
     refine (hx.out _).mono ?_
     rintro e _ ⟨rfl, rfl⟩
     go_wp2_with fail
     refine wp_region_guarded (by kernel_rfl) (by kernel_rfl) (fun a0 V0 L a W => ∃ u : Nat → Value, a = { tmps := ((((((((((a0.tmps.setIfInBounds 31 (u 0)).setIfInBounds 32 (u 1)).setIfInBounds 33 (u 2)).setIfInBounds 34 (u 3)).setIfInBounds 35 (u 4)).setIfInBounds 36 (u 5)).setIfInBounds 37 (u 6)).setIfInBounds 38 (u 7)).setIfInBounds 39 (u 8)).setIfInBounds 40 (u 9)), defers := a0.defers } ∧ Hid (WI (L 9) W) ∧ Hid (∀ i, L i = true → u i = valAt [.pointer (some ⟨b, 0, none⟩), .pointer (some ⟨b, 0, none⟩), .pointer (some ⟨b, 3, none⟩), .string f, .int .i64 (k : Int), .int .i64 (k : Int), .int .i64 (j : Int), .int .i64 ((k : Int) + (j : Int)), .string (f.extract k (k + j)), .tuple #[.int .i64 (f.extract k (k + j)).size, .nilIface]] i)) ?h0 ?hstep ?hdone
     case h0 =>
      refine ⟨valAt [u31, u32, u33, u34, u35, u36, u37, u38, u39, u40], ?_, HW0.out _ (.inr rfl), fun _ h => (by cases h)⟩
      kernel_rfl
     case hstep =>
      refine ⟨?o0, ?o1, ?o2, ?o3, ?o4, ?o5, ?o6, ?o7, ?o8, ?o9, trivial⟩
      case o0 =>
       rintro L a' W ⟨u, rfl, HI, E⟩ hL hd K hK
       simp only [List.setIfInBounds_toArray, List.set_cons_zero, List.set_cons_succ]
       refine ite_take rfl ?_
       clear hL hd
       go_simp
       refine hK _ _ ⟨withVal u 0 (.pointer (some ⟨b, 0, none⟩)), ?_, (by show WI (upd L 0 9) W; rw [upd_other L (by decide)]; exact HI.out), withVal_next E 0 _ rfl⟩
       kernel_rfl
      case o1 =>
       rintro L a' W ⟨u, rfl, HI, E⟩ hL hd K hK
       have e0 : u 0 = .pointer (some ⟨b, 0, none⟩) := E.out 0 (hd 0 (List.elem_iff.1 (by kernel_rfl)))
       simp only [List.setIfInBounds_toArray, List.set_cons_zero, List.set_cons_succ, e0]
       refine ite_take rfl ?_
       clear hL hd
       go_simp
       refine hK _ _ ⟨withVal (withVal u 0 (.pointer (some ⟨b, 0, none⟩))) 1 (.pointer (some ⟨b, 0, none⟩)), ?_, (by show WI (upd L 1 9) W; rw [upd_other L (by decide)]; exact HI.out), withVal_next (withVal_same E 0 _ rfl) 1 _ rfl⟩
       kernel_rfl
      case o2 =>
       rintro L a' W ⟨u, rfl, HI, E⟩ hL hd K hK
       have e1 : u 1 = .pointer (some ⟨b, 0, none⟩) := E.out 1 (hd 1 (List.elem_iff.1 (by kernel_rfl)))
       simp only [List.setIfInBounds_toArray, List.set_cons_zero, List.set_cons_succ, e1]
       refine ite_take rfl ?_
       clear hL hd
       go_simp
       refine hK _ _ ⟨withVal (withVal u 1 (.pointer (some ⟨b, 0, none⟩))) 2 (.pointer (some ⟨b, 3, none⟩)), ?_, (by show WI (upd L 2 9) W; rw [upd_other L (by decide)]; exact HI.out), withVal_next (withVal_same E 1 _ rfl) 2 _ rfl⟩
       kernel_rfl
      case o3 =>
       rintro L a' W ⟨u, rfl, HI, E⟩ hL hd K hK
       simp only [List.setIfInBounds_toArray, List.set_cons_zero, List.set_cons_succ]
       refine ite_take rfl ?_
       clear hL hd
       go_simp
       refine hK _ _ ⟨withVal u 3 (.string f), ?_, (by show WI (upd L 3 9) W; rw [upd_other L (by decide)]; exact HI.out), withVal_next E 3 _ rfl⟩
       kernel_rfl
      case o4 =>
       rintro L a' W ⟨u, rfl, HI, E⟩ hL hd K hK
       simp only [List.setIfInBounds_toArray, List.set_cons_zero, List.set_cons_succ]
       refine ite_take rfl ?_
       clear hL hd
       go_simp
       refine hK _ _ ⟨withVal u 4 (.int .i64 (k : Int)), ?_, (by show WI (upd L 4 9) W; rw [upd_other L (by decide)]; exact HI.out), withVal_next E 4 _ rfl⟩
       kernel_rfl
      case o5 =>
       rintro L a' W ⟨u, rfl, HI, E⟩ hL hd K hK
       simp only [List.setIfInBounds_toArray, List.set_cons_zero, List.set_cons_succ]
       refine ite_take rfl ?_
       clear hL hd
       go_simp
       refine hK _ _ ⟨withVal u 5 (.int .i64 (k : Int)), ?_, (by show WI (upd L 5 9) W; rw [upd_other L (by decide)]; exact HI.out), withVal_next E 5 _ rfl⟩
       kernel_rfl
      case o6 =>
       rintro L a' W ⟨u, rfl, HI, E⟩ hL hd K hK
       simp only [List.setIfInBounds_toArray, List.set_cons_zero, List.set_cons_succ]
       refine ite_take rfl ?_
       clear hL hd
       go_simp
       refine hK _ _ ⟨withVal u 6 (.int .i64 (j : Int)), ?_, (by show WI (upd L 6 9) W; rw [upd_other L (by decide)]; exact HI.out), withVal_next E 6 _ rfl⟩
       kernel_rfl
      case o7 =>
       rintro L a' W ⟨u, rfl, HI, E⟩ hL hd K hK
       have e5 : u 5 = .int .i64 (k : Int) := E.out 5 (hd 5 (List.elem_iff.1 (by kernel_rfl)))
       have e6 : u 6 = .int .i64 (j : Int) := E.out 6 (hd 6 (List.elem_iff.1 (by kernel_rfl)))
       simp only [List.setIfInBounds_toArray, List.set_cons_zero, List.set_cons_succ, e5, e6]
       refine ite_take rfl ?_
       clear hL hd
       go_simp
       refine hK _ _ ⟨withVal (withVal (withVal u 5 (.int .i64 (k : Int))) 6 (.int .i64 (j : Int))) 7 (.int .i64 ((k : Int) + (j : Int))), ?_, (by show WI (upd L 7 9) W; rw [upd_other L (by decide)]; exact HI.out), withVal_next (withVal_same (withVal_same E 5 _ rfl) 6 _ rfl) 7 _ rfl⟩
       kernel_rfl
      case o8 =>
       rintro L a' W ⟨u, rfl, HI, E⟩ hL hd K hK
       have e3 : u 3 = .string f := E.out 3 (hd 3 (List.elem_iff.1 (by kernel_rfl)))
       have e4 : u 4 = .int .i64 (k : Int) := E.out 4 (hd 4 (List.elem_iff.1 (by kernel_rfl)))
       have e7 : u 7 = .int .i64 ((k : Int) + (j : Int)) := E.out 7 (hd 7 (List.elem_iff.1 (by kernel_rfl)))
       simp only [List.setIfInBounds_toArray, List.set_cons_zero, List.set_cons_succ, e3, e4, e7]
       refine ite_take rfl ?_
       clear hL hd
       go_simp
       refine hK _ _ ⟨withVal (withVal (withVal (withVal u 3 (.string f)) 4 (.int .i64 (k : Int))) 7 (.int .i64 ((k : Int) + (j : Int)))) 8 (.string (f.extract k (k + j))), ?_, (by show WI (upd L 8 9) W; rw [upd_other L (by decide)]; exact HI.out), withVal_next (withVal_same (withVal_same (withVal_same E 3 _ rfl) 4 _ rfl) 7 _ rfl) 8 _ rfl⟩
       kernel_rfl
      case o9 =>
       rintro L a' W ⟨u, rfl, HI, E⟩ hL hd K hK
       have e2 : u 2 = .pointer (some ⟨b, 3, none⟩) := E.out 2 (hd 2 (List.elem_iff.1 (by kernel_rfl)))
       have e8 : u 8 = .string (f.extract k (k + j)) := E.out 8 (hd 8 (List.elem_iff.1 (by kernel_rfl)))
       simp only [List.setIfInBounds_toArray, List.set_cons_zero, List.set_cons_succ, e2, e8]
       refine ite_take rfl ?_
       rw [hL] at HI
       clear hL hd
       go_simp
       refine (HWC.out W HI.out).mono ?_
       rintro e W' ⟨rfl, hw'⟩
       refine hK _ _ ⟨withVal (withVal (withVal u 2 (.pointer (some ⟨b, 3, none⟩))) 8 (.string (f.extract k (k + j)))) 9 (.tuple #[.int .i64 (f.extract k (k + j)).size, .nilIface]), ?_, (by show WI (upd L 9 9) W'; rw [upd_self]; exact hw'), withVal_next (withVal_same (withVal_same E 2 _ rfl) 8 _ rfl) 9 _ rfl⟩
       kernel_rfl
     case hdone =>
      rintro L a' W1 hall ⟨u, rfl, HI, E⟩
      rw [hall 9 (by decide)] at HI
      have e0 : u 0 = .pointer (some ⟨b, 0, none⟩) := E.out 0 (hall 0 (by decide))
      have e1 : u 1 = .pointer (some ⟨b, 0, none⟩) := E.out 1 (hall 1 (by decide))
      have e2 : u 2 = .pointer (some ⟨b, 3, none⟩) := E.out 2 (hall 2 (by decide))
      have e3 : u 3 = .string f := E.out 3 (hall 3 (by decide))
      have e4 : u 4 = .int .i64 (k : Int) := E.out 4 (hall 4 (by decide))
      have e5 : u 5 = .int .i64 (k : Int) := E.out 5 (hall 5 (by decide))
      have e6 : u 6 = .int .i64 (j : Int) := E.out 6 (hall 6 (by decide))
      have e7 : u 7 = .int .i64 ((k : Int) + (j : Int)) := E.out 7 (hall 7 (by decide))
      have e8 : u 8 = .string (f.extract k (k + j)) := E.out 8 (hall 8 (by decide))
      have e9 : u 9 = .tuple #[.int .i64 (f.extract k (k + j)).size, .nilIface] := E.out 9 (hall 9 (by decide))
      simp only [List.setIfInBounds_toArray, List.set_cons_zero, List.set_cons_succ, e0, e1, e2, e3, e4, e5, e6, e7, e8, e9]
      have HI1 : Hid (Below w0.heap.size w0 W1) := by have h := HI.out; rw [HWI.out] at h; exact h.1
      clear hall E HI
      go_wp2_with fail
      refine (HPs.out _ (HT.out.err.below HI1.out)).mono ?_
      rintro e w6 ⟨rfl, hb6⟩
      have HB6 := Lib.hid (HI1.out.trans (hb6.mono HI1.out.size))
      clear hb6
      go_wp2_with fail
      go_ret2
      exact ⟨by rw [← HR3.out.1, ← HR3.out.2]; rfl, HB6.out.alloc HB6.out.size _⟩
    ·have hA : parseA f ((k : Int) + (j : Int)) = pieceP f (k + j) := by unfold parseA; rw [hp2]; exact if_pos ⟨hchr, hok⟩
     have hE : parseE f ((k : Int) + (j : Int)) = 0 := by unfold parseE; rw [hp2]; exact if_pos ⟨hchr, hok⟩
     rw [hA, hE] at HPs
     have hpv : pv f (k + j) < fs := by have h1 := pv_in hok; have h2 := HFS.out; omega
     have hpg := pv_gt f (k + j)
     have hvb : ch f (pv f (k + j)) < 256 := by unfold ch; exact UInt8.toNat_lt _
     obtain ⟨hNV, hQn⟩ : (isNum (ch f (pv f (k + j))) = true → NV (ch f (pv f (k + j)))) ∧ Q (pv f (k + j) + 1) := by
      have h := HQS.out k (HQk.out hkf) (by rw [← hj, HFS.out.symm]; exact hin) (by rw [← hj]; exact hok)
      rw [← hj] at h
      exact h
     have hst : stepF sf by_ f (k + j) L' = partF sf by_ (hasF 45 f (k + j + 1) (flagN f (k + j + 1))) (hasF 43 f (k + j + 1) (flagN f (k + j + 1))) (hasF 32 f (k + j + 1) (flagN f (k + j + 1))) (hasF 35 f (k + j + 1) (flagN f (k + j + 1))) (hasF 48 f (k + j + 1) (flagN f (k + j + 1)))
      (fw f (k + j)).1 (fp f (k + j)).1 (ch f (pv f (k + j))) (fw f (k + j)).2.1 (fp f (k + j)).2.1 L' := by unfold stepF; exact if_pos hok
     rw [hst] at hRR
     unfold pieceP at HPs
     generalize hasF 45 f (k + j + 1) (flagN f (k + j + 1)) = fm at HPs hRR
     generalize hasF 43 f (k + j + 1) (flagN f (k + j + 1)) = fpl at HPs hRR
     generalize hasF 32 f (k + j + 1) (flagN f (k + j + 1)) = fbl at HPs hRR
     generalize hasF 35 f (k + j + 1) (flagN f (k + j + 1)) = fal at HPs hRR
     generalize hasF 48 f (k + j + 1) (flagN f (k + j + 1)) = fz at HPs hRR
     generalize (fw f (k + j)).1 = wd at HPs hRR
     generalize (fp f (k + j)).1 = pr at HPs hRR
     generalize (fw f (k + j)).2.1 = sw at HPs hRR
     generalize (fp f (k + j)).2.1 = sp at HPs hRR
     generalize ch f (pv f (k + j)) = vb at HPs hRR hvb hNV
     generalize pv f (k + j) = P at HPs hRR hpv hpg hQn
     have HQn := Lib.hid hQn
     clear hQn
     obtain ⟨VB, hVB⟩ : ∃ VB : Int, VB = (vb : Int) := ⟨_, rfl⟩
     obtain ⟨nx, hnx⟩ : ∃ nx : Int, nx = ((P + 1 : Nat) : Int) := ⟨_, rfl⟩
     rw [← hVB, ← hnx] at HPs
     obtain ⟨PF, hPF⟩ : ∃ PF, PF = partF sf by_ fm fpl fbl fal fz wd pr vb sw sp L' := ⟨_, rfl⟩
     have hlr : (out ++ (f.extract k (k + j)).data.toList).length ≤ 10000000 := by rw [List.length_append, ← size_list, hpz]; omega
     have hlr2 : (out ++ (f.extract k (k + j)).data.toList).length + M + 1024 ≤ 140737488355328 := by rw [List.length_append, ← size_list, hpz]; omega
     have hPt : ∀ W, Below w0.heap.size w0 W → WrL W w0.heap.size b conv by_ L' (out ++ (f.extract k (k + j)).data.toList) → Calls Tryz.prog 89 #[.pointer (some ⟨b, 0, none⟩), .agg (pieceA fm fpl fbl fal fz wd pr VB sw sp nx)] W fun e w' => e = .returned (.bool PF.isSome) ∧ Bw w0 W b w' ∧
      ∀ o Lr, PF = some (o, Lr) → WrL w' w0.heap.size b conv by_ Lr ((out ++ (f.extract k (k + j)).data.toList) ++ o) := fun W h1 h2 => by
      rw [hPF]
      exact part_any HNum.out sf fm fpl fbl fal fz sw sp wd pr vb VB nx hvb hNV hVB HT.out.pow HT.out.utf h1 h2 (fun c hc => HC.out c (HSub.out c hc)) HZ.out hM hM2 hlr hlr2
     have hSub2 : ∀ o Lr, PF = some (o, Lr) → ∀ c ∈ Lr, c ∈ L := fun o Lr h c hc => HSub.out c (partF_sub (hPF.symm.trans h) c hc)
     rw [← hPF] at hRR
     cases PF with
     | none =>
       have HPt : Hid (∀ W, Below w0.heap.size w0 W → WrL W w0.heap.size b conv by_ L' (out ++ (f.extract k (k + j)).data.toList) → Calls Tryz.prog 89 #[.pointer (some ⟨b, 0, none⟩), .agg (pieceA fm fpl fbl fal fz wd pr VB sw sp nx)] W fun e w' => e = .returned (.bool false) ∧ Below w0.heap.size w0 w') := fun W h1 h2 => (hPt W h1 h2).mono fun e w' hh => ⟨by rw [hh.1]; rfl, hh.2.1.1⟩
       have HR3 := Lib.hid (Prod.mk.inj hRR)
       unfold pieceA at HPt HPs
       clear hRR HR hj hpl hpz hix hkf hin HN hok hst hA hE hch hchr hPt hSub2 hPF hVB hnx hvb hNV hlr hlr2 hpg hpv
       go_wp2_with fail
       refine (hx.out _).mono ?_
       rintro e _ ⟨rfl, rfl⟩
       go_wp2_with fail
       refine wp_region_guarded (by kernel_rfl) (by kernel_rfl) (fun a0 V0 L a W => ∃ u : Nat → Value, a = { tmps := ((((((((((a0.tmps.setIfInBounds 31 (u 0)).setIfInBounds 32 (u 1)).setIfInBounds 33 (u 2)).setIfInBounds 34 (u 3)).setIfInBounds 35 (u 4)).setIfInBounds 36 (u 5)).setIfInBounds 37 (u 6)).setIfInBounds 38 (u 7)).setIfInBounds 39 (u 8)).setIfInBounds 40 (u 9)), defers := a0.defers } ∧ Hid (WI (L 9) W) ∧ Hid (∀ i, L i = true → u i = valAt [.pointer (some ⟨b, 0, none⟩), .pointer (some ⟨b, 0, none⟩), .pointer (some ⟨b, 3, none⟩), .string f, .int .i64 (k : Int), .int .i64 (k : Int), .int .i64 (j : Int), .int .i64 ((k : Int) + (j : Int)), .string (f.extract k (k + j)), .tuple #[.int .i64 (f.extract k (k + j)).size, .nilIface]] i)) ?h0 ?hstep ?hdone
       case h0 =>
        refine ⟨valAt [u31, u32, u33, u34, u35, u36, u37, u38, u39, u40], ?_, HW0.out _ (.inr rfl), fun _ h => (by cases h)⟩
        kernel_rfl
       case hstep =>
        refine ⟨?o0, ?o1, ?o2, ?o3, ?o4, ?o5, ?o6, ?o7, ?o8, ?o9, trivial⟩
        case o0 =>
         rintro L a' W ⟨u, rfl, HI, E⟩ hL hd K hK
         simp only [List.setIfInBounds_toArray, List.set_cons_zero, List.set_cons_succ]
         refine ite_take rfl ?_
         clear hL hd
         go_simp
         refine hK _ _ ⟨withVal u 0 (.pointer (some ⟨b, 0, none⟩)), ?_, (by show WI (upd L 0 9) W; rw [upd_other L (by decide)]; exact HI.out), withVal_next E 0 _ rfl⟩
         kernel_rfl
        case o1 =>
         rintro L a' W ⟨u, rfl, HI, E⟩ hL hd K hK
         have e0 : u 0 = .pointer (some ⟨b, 0, none⟩) := E.out 0 (hd 0 (List.elem_iff.1 (by kernel_rfl)))
         simp only [List.setIfInBounds_toArray, List.set_cons_zero, List.set_cons_succ, e0]
         refine ite_take rfl ?_
         clear hL hd
         go_simp
         refine hK _ _ ⟨withVal (withVal u 0 (.pointer (some ⟨b, 0, none⟩))) 1 (.pointer (some ⟨b, 0, none⟩)), ?_, (by show WI (upd L 1 9) W; rw [upd_other L (by decide)]; exact HI.out), withVal_next (withVal_same E 0 _ rfl) 1 _ rfl⟩
         kernel_rfl
        case o2 =>
         rintro L a' W ⟨u, rfl, HI, E⟩ hL hd K hK
         have e1 : u 1 = .pointer (some ⟨b, 0, none⟩) := E.out 1 (hd 1 (List.elem_iff.1 (by kernel_rfl)))
         simp only [List.setIfInBounds_toArray, List.set_cons_zero, List.set_cons_succ, e1]
         refine ite_take rfl ?_
         clear hL hd
         go_simp
         refine hK _ _ ⟨withVal (withVal u 1 (.pointer (some ⟨b, 0, none⟩))) 2 (.pointer (some ⟨b, 3, none⟩)), ?_, (by show WI (upd L 2 9) W; rw [upd_other L (by decide)]; exact HI.out), withVal_next (withVal_same E 1 _ rfl) 2 _ rfl⟩
         kernel_rfl
        case o3 =>
         rintro L a' W ⟨u, rfl, HI, E⟩ hL hd K hK
         simp only [List.setIfInBounds_toArray, List.set_cons_zero, List.set_cons_succ]
         refine ite_take rfl ?_
         clear hL hd
         go_simp
         refine hK _ _ ⟨withVal u 3 (.string f), ?_, (by show WI (upd L 3 9) W; rw [upd_other L (by decide)]; exact HI.out), withVal_next E 3 _ rfl⟩
         kernel_rfl
        case o4 =>
         rintro L a' W ⟨u, rfl, HI, E⟩ hL hd K hK
         simp only [List.setIfInBounds_toArray, List.set_cons_zero, List.set_cons_succ]
         refine ite_take rfl ?_
         clear hL hd
         go_simp
         refine hK _ _ ⟨withVal u 4 (.int .i64 (k : Int)), ?_, (by show WI (upd L 4 9) W; rw [upd_other L (by decide)]; exact HI.out), withVal_next E 4 _ rfl⟩
         kernel_rfl
        case o5 =>
         rintro L a' W ⟨u, rfl, HI, E⟩ hL hd K hK
         simp only [List.setIfInBounds_toArray, List.set_cons_zero, List.set_cons_succ]
         refine ite_take rfl ?_
         clear hL hd
         go_simp
         refine hK _ _ ⟨withVal u 5 (.int .i64 (k : Int)), ?_, (by show WI (upd L 5 9) W; rw [upd_other L (by decide)]; exact HI.out), withVal_next E 5 _ rfl⟩
         kernel_rfl
        case o6 =>
         rintro L a' W ⟨u, rfl, HI, E⟩ hL hd K hK
         simp only [List.setIfInBounds_toArray, List.set_cons_zero, List.set_cons_succ]
         refine ite_take rfl ?_
         clear hL hd
         go_simp
         refine hK _ _ ⟨withVal u 6 (.int .i64 (j : Int)), ?_, (by show WI (upd L 6 9) W; rw [upd_other L (by decide)]; exact HI.out), withVal_next E 6 _ rfl⟩
         kernel_rfl
        case o7 =>
         rintro L a' W ⟨u, rfl, HI, E⟩ hL hd K hK
         have e5 : u 5 = .int .i64 (k : Int) := E.out 5 (hd 5 (List.elem_iff.1 (by kernel_rfl)))
         have e6 : u 6 = .int .i64 (j : Int) := E.out 6 (hd 6 (List.elem_iff.1 (by kernel_rfl)))
         simp only [List.setIfInBounds_toArray, List.set_cons_zero, List.set_cons_succ, e5, e6]
         refine ite_take rfl ?_
         clear hL hd
         go_simp
         refine hK _ _ ⟨withVal (withVal (withVal u 5 (.int .i64 (k : Int))) 6 (.int .i64 (j : Int))) 7 (.int .i64 ((k : Int) + (j : Int))), ?_, (by show WI (upd L 7 9) W; rw [upd_other L (by decide)]; exact HI.out), withVal_next (withVal_same (withVal_same E 5 _ rfl) 6 _ rfl) 7 _ rfl⟩
         kernel_rfl
        case o8 =>
         rintro L a' W ⟨u, rfl, HI, E⟩ hL hd K hK
         have e3 : u 3 = .string f := E.out 3 (hd 3 (List.elem_iff.1 (by kernel_rfl)))
         have e4 : u 4 = .int .i64 (k : Int) := E.out 4 (hd 4 (List.elem_iff.1 (by kernel_rfl)))
         have e7 : u 7 = .int .i64 ((k : Int) + (j : Int)) := E.out 7 (hd 7 (List.elem_iff.1 (by kernel_rfl)))
         simp only [List.setIfInBounds_toArray, List.set_cons_zero, List.set_cons_succ, e3, e4, e7]
         refine ite_take rfl ?_
         clear hL hd
         go_simp
         refine hK _ _ ⟨withVal (withVal (withVal (withVal u 3 (.string f)) 4 (.int .i64 (k : Int))) 7 (.int .i64 ((k : Int) + (j : Int)))) 8 (.string (f.extract k (k + j))), ?_, (by show WI (upd L 8 9) W; rw [upd_other L (by decide)]; exact HI.out), withVal_next (withVal_same (withVal_same (withVal_same E 3 _ rfl) 4 _ rfl) 7 _ rfl) 8 _ rfl⟩
         kernel_rfl
        case o9 =>
         rintro L a' W ⟨u, rfl, HI, E⟩ hL hd K hK
         have e2 : u 2 = .pointer (some ⟨b, 3, none⟩) := E.out 2 (hd 2 (List.elem_iff.1 (by kernel_rfl)))
         have e8 : u 8 = .string (f.extract k (k + j)) := E.out 8 (hd 8 (List.elem_iff.1 (by kernel_rfl)))
         simp only [List.setIfInBounds_toArray, List.set_cons_zero, List.set_cons_succ, e2, e8]
         refine ite_take rfl ?_
         rw [hL] at HI
         clear hL hd
         go_simp
         refine (HWC.out W HI.out).mono ?_
         rintro e W' ⟨rfl, hw'⟩
         refine hK _ _ ⟨withVal (withVal (withVal u 2 (.pointer (some ⟨b, 3, none⟩))) 8 (.string (f.extract k (k + j)))) 9 (.tuple #[.int .i64 (f.extract k (k + j)).size, .nilIface]), ?_, (by show WI (upd L 9 9) W'; rw [upd_self]; exact hw'), withVal_next (withVal_same (withVal_same E 2 _ rfl) 8 _ rfl) 9 _ rfl⟩
         kernel_rfl
       case hdone =>
        rintro L a' W1 hall ⟨u, rfl, HI, E⟩
        rw [hall 9 (by decide)] at HI
        have e0 : u 0 = .pointer (some ⟨b, 0, none⟩) := E.out 0 (hall 0 (by decide))
        have e1 : u 1 = .pointer (some ⟨b, 0, none⟩) := E.out 1 (hall 1 (by decide))
        have e2 : u 2 = .pointer (some ⟨b, 3, none⟩) := E.out 2 (hall 2 (by decide))
        have e3 : u 3 = .string f := E.out 3 (hall 3 (by decide))
        have e4 : u 4 = .int .i64 (k : Int) := E.out 4 (hall 4 (by decide))
        have e5 : u 5 = .int .i64 (k : Int) := E.out 5 (hall 5 (by decide))
        have e6 : u 6 = .int .i64 (j : Int) := E.out 6 (hall 6 (by decide))
        have e7 : u 7 = .int .i64 ((k : Int) + (j : Int)) := E.out 7 (hall 7 (by decide))
        have e8 : u 8 = .string (f.extract k (k + j)) := E.out 8 (hall 8 (by decide))
        have e9 : u 9 = .tuple #[.int .i64 (f.extract k (k + j)).size, .nilIface] := E.out 9 (hall 9 (by decide))
        simp only [List.setIfInBounds_toArray, List.set_cons_zero, List.set_cons_succ, e0, e1, e2, e3, e4, e5, e6, e7, e8, e9]
        have HI1 : Hid (Below w0.heap.size w0 W1 ∧ WrL W1 w0.heap.size b conv by_ L' (out ++ (f.extract k (k + j)).data.toList)) := by have h := HI.out; rw [HWI.out] at h; exact h
        clear hall E HI
        go_wp2_with fail
        refine (HPs.out _ (HT.out.err.below HI1.out.1)).mono ?_
        rintro e w6 ⟨rfl, hb6⟩
        have hal6 : Below w6.heap.size w6 (w6.alloc (.cells #[.bool fm, .bool fpl, .bool fbl, .bool fal, .bool fz, .int .i64 wd, .int .i64 pr, .int .u8 VB, .bool sw, .bool sp, .int .i64 nx] 101)) := (Below.refl w6.heap.size w6).alloc (Nat.le_refl _) _
        have hb7 := (HI1.out.1.trans (hb6.mono HI1.out.1.size))
        have HB7 := Lib.hid (hb7.trans (hal6.mono hb7.size))
        have HPT := Lib.hid (HPt.out _ HB7.out ((HI1.out.2.below hb6).below hal6))
        clear hb6 hal6 hb7
        go_wp2_with fail
        refine HPT.out.mono ?_
        rintro e w8 ⟨rfl, hb8⟩
        have HB8 := Lib.hid hb8
        clear hb8
        go_wp2_with fail
        go_ret2
        exact ⟨by rw [← HR3.out.1, ← HR3.out.2]; rfl, HB8.out⟩
     | some pq =>
       obtain ⟨o, Lr⟩ := pq
       have HPt : Hid (∀ W, Below w0.heap.size w0 W → WrL W w0.heap.size b conv by_ L' (out ++ (f.extract k (k + j)).data.toList) → Calls Tryz.prog 89 #[.pointer (some ⟨b, 0, none⟩), .agg (pieceA fm fpl fbl fal fz wd pr VB sw sp nx)] W fun e w' => e = .returned (.bool true) ∧ Below w0.heap.size w0 w' ∧ KeptP b W w' ∧ WrL w' w0.heap.size b conv by_ Lr (out ++ ((f.extract k (k + j)).data.toList ++ o))) := fun W h1 h2 => (hPt W h1 h2).mono fun e w' hh => ⟨by rw [hh.1]; rfl, hh.2.1.1, hh.2.1.2, by rw [← List.append_assoc]; exact hh.2.2 o Lr rfl⟩
       have HSub2 := Lib.hid (hSub2 o Lr rfl)
       obtain ⟨ln, hln⟩ : ∃ ln, ln = (out ++ ((f.extract k (k + j)).data.toList ++ o)).length := ⟨_, rfl⟩
       have HLN := Lib.hid hln
       have HNX := Lib.hid hnx
       have HPV : Hid (P < fs ∧ k + j < P ∧ fs - k < n1 + 1 ∧ k < fs) := ⟨hpv, hpg, HN.out, hkf⟩
       have HRR : Hid ((if 1024 < ln then ([], 3) else sprF sf by_ f n1 (P + 1) (out ++ ((f.extract k (k + j)).data.toList ++ o)) Lr) = (R, E)) := by rw [hln]; exact hRR
       unfold pieceA at HPt HPs
       clear hRR HR hj hpl hpz hix hkf hin HN hok hst hA hE hch hchr hPt hSub2 hPF hVB hnx hvb hNV hlr hlr2 hpg hpv hln
       go_wp2_with fail
       refine (hx.out _).mono ?_
       rintro e _ ⟨rfl, rfl⟩
       go_wp2_with fail
       refine wp_region_guarded (by kernel_rfl) (by kernel_rfl) (fun a0 V0 L a W => ∃ u : Nat → Value, a = { tmps := ((((((((((a0.tmps.setIfInBounds 31 (u 0)).setIfInBounds 32 (u 1)).setIfInBounds 33 (u 2)).setIfInBounds 34 (u 3)).setIfInBounds 35 (u 4)).setIfInBounds 36 (u 5)).setIfInBounds 37 (u 6)).setIfInBounds 38 (u 7)).setIfInBounds 39 (u 8)).setIfInBounds 40 (u 9)), defers := a0.defers } ∧ Hid (WI (L 9) W) ∧ Hid (∀ i, L i = true → u i = valAt [.pointer (some ⟨b, 0, none⟩), .pointer (some ⟨b, 0, none⟩), .pointer (some ⟨b, 3, none⟩), .string f, .int .i64 (k : Int), .int .i64 (k : Int), .int .i64 (j : Int), .int .i64 ((k : Int) + (j : Int)), .string (f.extract k (k + j)), .tuple #[.int .i64 (f.extract k (k + j)).size, .nilIface]] i)) ?h0 ?hstep ?hdone
       case h0 =>
        refine ⟨valAt [u31, u32, u33, u34, u35, u36, u37, u38, u39, u40], ?_, HW0.out _ (.inr rfl), fun _ h => (by cases h)⟩
        kernel_rfl
       case hstep =>
        refine ⟨?o0, ?o1, ?o2, ?o3, ?o4, ?o5, ?o6, ?o7, ?o8, ?o9, trivial⟩
        case o0 =>
         rintro L a' W ⟨u, rfl, HI, E⟩ hL hd K hK
         simp only [List.setIfInBounds_toArray, List.set_cons_zero, List.set_cons_succ]
         refine ite_take rfl ?_
         clear hL hd
         go_simp
         refine hK _ _ ⟨withVal u 0 (.pointer (some ⟨b, 0, none⟩)), ?_, (by show WI (upd L 0 9) W; rw [upd_other L (by decide)]; exact HI.out), withVal_next E 0 _ rfl⟩
         kernel_rfl
        case o1 =>
         rintro L a' W ⟨u, rfl, HI, E⟩ hL hd K hK
         have e0 : u 0 = .pointer (some ⟨b, 0, none⟩) := E.out 0 (hd 0 (List.elem_iff.1 (by kernel_rfl)))
         simp only [List.setIfInBounds_toArray, List.set_cons_zero, List.set_cons_succ, e0]
         refine ite_take rfl ?_
         clear hL hd
         go_simp
         refine hK _ _ ⟨withVal (withVal u 0 (.pointer (some ⟨b, 0, none⟩))) 1 (.pointer (some ⟨b, 0, none⟩)), ?_, (by show WI (upd L 1 9) W; rw [upd_other L (by decide)]; exact HI.out), withVal_next (withVal_same E 0 _ rfl) 1 _ rfl⟩
         kernel_rfl
        case o2 =>
         rintro L a' W ⟨u, rfl, HI, E⟩ hL hd K hK
         have e1 : u 1 = .pointer (some ⟨b, 0, none⟩) := E.out 1 (hd 1 (List.elem_iff.1 (by kernel_rfl)))
         simp only [List.setIfInBounds_toArray, List.set_cons_zero, List.set_cons_succ, e1]
         refine ite_take rfl ?_
         clear hL hd
         go_simp
         refine hK _ _ ⟨withVal (withVal u 1 (.pointer (some ⟨b, 0, none⟩))) 2 (.pointer (some ⟨b, 3, none⟩)), ?_, (by show WI (upd L 2 9) W; rw [upd_other L (by decide)]; exact HI.out), withVal_next (withVal_same E 1 _ rfl) 2 _ rfl⟩
         kernel_rfl
        case o3 =>
         rintro L a' W ⟨u, rfl, HI, E⟩ hL hd K hK
         simp only [List.setIfInBounds_toArray, List.set_cons_zero, List.set_cons_succ]
         refine ite_take rfl ?_
         clear hL hd
         go_simp
         refine hK _ _ ⟨withVal u 3 (.string f), ?_, (by show WI (upd L 3 9) W; rw [upd_other L (by decide)]; exact HI.out), withVal_next E 3 _ rfl⟩
         kernel_rfl
        case o4 =>
         rintro L a' W ⟨u, rfl, HI, E⟩ hL hd K hK
         simp only [List.setIfInBounds_toArray, List.set_cons_zero, List.set_cons_succ]
         refine ite_take rfl ?_
         clear hL hd
         go_simp
         refine hK _ _ ⟨withVal u 4 (.int .i64 (k : Int)), ?_, (by show WI (upd L 4 9) W; rw [upd_other L (by decide)]; exact HI.out), withVal_next E 4 _ rfl⟩
         kernel_rfl
        case o5 =>
         rintro L a' W ⟨u, rfl, HI, E⟩ hL hd K hK
         simp only [List.setIfInBounds_toArray, List.set_cons_zero, List.set_cons_succ]
         refine ite_take rfl ?_
         clear hL hd
         go_simp
         refine hK _ _ ⟨withVal u 5 (.int .i64 (k : Int)), ?_, (by show WI (upd L 5 9) W; rw [upd_other L (by decide)]; exact HI.out), withVal_next E 5 _ rfl⟩
         kernel_rfl
        case o6 =>
         rintro L a' W ⟨u, rfl, HI, E⟩ hL hd K hK
         simp only [List.setIfInBounds_toArray, List.set_cons_zero, List.set_cons_succ]
         refine ite_take rfl ?_
         clear hL hd
         go_simp
         refine hK _ _ ⟨withVal u 6 (.int .i64 (j : Int)), ?_, (by show WI (upd L 6 9) W; rw [upd_other L (by decide)]; exact HI.out), withVal_next E 6 _ rfl⟩
         kernel_rfl
        case o7 =>
         rintro L a' W ⟨u, rfl, HI, E⟩ hL hd K hK
         have e5 : u 5 = .int .i64 (k : Int) := E.out 5 (hd 5 (List.elem_iff.1 (by kernel_rfl)))
         have e6 : u 6 = .int .i64 (j : Int) := E.out 6 (hd 6 (List.elem_iff.1 (by kernel_rfl)))
         simp only [List.setIfInBounds_toArray, List.set_cons_zero, List.set_cons_succ, e5, e6]
         refine ite_take rfl ?_
         clear hL hd
         go_simp
         refine hK _ _ ⟨withVal (withVal (withVal u 5 (.int .i64 (k : Int))) 6 (.int .i64 (j : Int))) 7 (.int .i64 ((k : Int) + (j : Int))), ?_, (by show WI (upd L 7 9) W; rw [upd_other L (by decide)]; exact HI.out), withVal_next (withVal_same (withVal_same E 5 _ rfl) 6 _ rfl) 7 _ rfl⟩
         kernel_rfl
        case o8 =>
         rintro L a' W ⟨u, rfl, HI, E⟩ hL hd K hK
         have e3 : u 3 = .string f := E.out 3 (hd 3 (List.elem_iff.1 (by kernel_rfl)))
         have e4 : u 4 = .int .i64 (k : Int) := E.out 4 (hd 4 (List.elem_iff.1 (by kernel_rfl)))
         have e7 : u 7 = .int .i64 ((k : Int) + (j : Int)) := E.out 7 (hd 7 (List.elem_iff.1 (by kernel_rfl)))
         simp only [List.setIfInBounds_toArray, List.set_cons_zero, List.set_cons_succ, e3, e4, e7]
         refine ite_take rfl ?_
         clear hL hd
         go_simp
         refine hK _ _ ⟨withVal (withVal (withVal (withVal u 3 (.string f)) 4 (.int .i64 (k : Int))) 7 (.int .i64 ((k : Int) + (j : Int)))) 8 (.string (f.extract k (k + j))), ?_, (by show WI (upd L 8 9) W; rw [upd_other L (by decide)]; exact HI.out), withVal_next (withVal_same (withVal_same (withVal_same E 3 _ rfl) 4 _ rfl) 7 _ rfl) 8 _ rfl⟩
         kernel_rfl
        case o9 =>
         rintro L a' W ⟨u, rfl, HI, E⟩ hL hd K hK
         have e2 : u 2 = .pointer (some ⟨b, 3, none⟩) := E.out 2 (hd 2 (List.elem_iff.1 (by kernel_rfl)))
         have e8 : u 8 = .string (f.extract k (k + j)) := E.out 8 (hd 8 (List.elem_iff.1 (by kernel_rfl)))
         simp only [List.setIfInBounds_toArray, List.set_cons_zero, List.set_cons_succ, e2, e8]
         refine ite_take rfl ?_
         rw [hL] at HI
         clear hL hd
         go_simp
         refine (HWC.out W HI.out).mono ?_
         rintro e W' ⟨rfl, hw'⟩
         refine hK _ _ ⟨withVal (withVal (withVal u 2 (.pointer (some ⟨b, 3, none⟩))) 8 (.string (f.extract k (k + j)))) 9 (.tuple #[.int .i64 (f.extract k (k + j)).size, .nilIface]), ?_, (by show WI (upd L 9 9) W'; rw [upd_self]; exact hw'), withVal_next (withVal_same (withVal_same E 2 _ rfl) 8 _ rfl) 9 _ rfl⟩
         kernel_rfl
       case hdone =>
        rintro L a' W1 hall ⟨u, rfl, HI, E⟩
        rw [hall 9 (by decide)] at HI
        have e0 : u 0 = .pointer (some ⟨b, 0, none⟩) := E.out 0 (hall 0 (by decide))
        have e1 : u 1 = .pointer (some ⟨b, 0, none⟩) := E.out 1 (hall 1 (by decide))
        have e2 : u 2 = .pointer (some ⟨b, 3, none⟩) := E.out 2 (hall 2 (by decide))
        have e3 : u 3 = .string f := E.out 3 (hall 3 (by decide))
        have e4 : u 4 = .int .i64 (k : Int) := E.out 4 (hall 4 (by decide))
        have e5 : u 5 = .int .i64 (k : Int) := E.out 5 (hall 5 (by decide))
        have e6 : u 6 = .int .i64 (j : Int) := E.out 6 (hall 6 (by decide))
        have e7 : u 7 = .int .i64 ((k : Int) + (j : Int)) := E.out 7 (hall 7 (by decide))
        have e8 : u 8 = .string (f.extract k (k + j)) := E.out 8 (hall 8 (by decide))
        have e9 : u 9 = .tuple #[.int .i64 (f.extract k (k + j)).size, .nilIface] := E.out 9 (hall 9 (by decide))
        simp only [List.setIfInBounds_toArray, List.set_cons_zero, List.set_cons_succ, e0, e1, e2, e3, e4, e5, e6, e7, e8, e9]
        have HI1 : Hid (Below w0.heap.size w0 W1 ∧ WrL W1 w0.heap.size b conv by_ L' (out ++ (f.extract k (k + j)).data.toList)) := by have h := HI.out; rw [HWI.out] at h; exact h
        clear hall E HI
        go_wp2_with fail
        refine (HPs.out _ (HT.out.err.below HI1.out.1)).mono ?_
        rintro e w6 ⟨rfl, hb6⟩
        have hal6 : Below w6.heap.size w6 (w6.alloc (.cells #[.bool fm, .bool fpl, .bool fbl, .bool fal, .bool fz, .int .i64 wd, .int .i64 pr, .int .u8 VB, .bool sw, .bool sp, .int .i64 nx] 101)) := (Below.refl w6.heap.size w6).alloc (Nat.le_refl _) _
        have hb7 := (HI1.out.1.trans (hb6.mono HI1.out.1.size))
        have HB7 := Lib.hid (hb7.trans (hal6.mono hb7.size))
        have hw6 := HI1.out.2.below hb6
        have hbq : b < w6.heap.size := hw6.lt.1
        have HPT := Lib.hid (HPt.out _ HB7.out (hw6.below hal6))
        clear hb6 hal6 hb7 hw6
        go_wp2_with fail
        refine HPT.out.mono ?_
        rintro e w8 ⟨rfl, hb8, hk8, hw8⟩
        have hp8 : PcAt w8 w6.heap.size #[.bool fm, .bool fpl, .bool fbl, .bool fal, .bool fz, .int .i64 wd, .int .i64 pr, .int .u8 VB, .bool sw, .bool sp, .int .i64 nx] := hk8 _ _ (by omega) (heap_alloc_at w6 _)
        have hq8 : w6.heap.size < w8.heap.size := hp8.lt
        have c10 : w8.cell? ⟨w6.heap.size, 10, none⟩ = some (.int .i64 nx) := hp8.cell 10
        have HLn := Lib.hid (lenL hw8)
        rw [← HLN.out] at HLn
        have HW8 := Lib.hid hw8
        have HB8 := Lib.hid hb8
        have hRR := HRR.out
        clear hb8 hk8 hw8 hp8
        by_cases hlen : 1024 < ln
        ·rw [if_pos hlen] at hRR
         have h1 := (Prod.mk.inj hRR).1
         have h2 := (Prod.mk.inj hRR).2
         have HR3 := Lib.hid (And.intro h1 h2)
         have hlI : (1024 : Int) < (ln : Int) := by omega
         clear hRR h1 h2 hlen
         go_wp2_with fail
         refine HLn.out.mono ?_
         rintro e _ ⟨rfl, rfl⟩
         go_wp2_with fail
         go_ret2
         exact ⟨by rw [← HR3.out.1, ← HR3.out.2]; rfl, HB8.out⟩
        ·rw [if_neg hlen] at hRR
         have HR3 := Lib.hid hRR
         have HLE : Hid (ln ≤ 1024) := by show _ ≤ _; omega
         have hlI : decide ((1024 : Int) < (ln : Int)) = false := by simp; omega
         have hlJ : decide (1024 < ln) = false := by simp; omega
         clear hRR hlen
         go_wp2_with fail
         refine HLn.out.mono ?_
         rintro e _ ⟨rfl, rfl⟩
         go_wp2_with fail
         go_roundw
         case rel => exact ⟨n1, P + 1, out ++ ((f.extract k (k + j)).data.toList ++ o), Lr, by rw [HNX.out], by have := HPV.out; omega, by have := HPV.out; show _ < _; omega, HW8.out, HB8.out, HSub2.out, by rw [← HLN.out]; exact HLE.out, fun _ => HQn.out, HR3.out⟩
         case measure => have := HPV.out; have := HNX.out; simp only [intOf]; omega
   ·-- none
    have hix : Lib.indexByte (f.extract k f.size).data.toList 37 < 0 := by
     rw [ext_drop]
     rcases Int.lt_or_le (Lib.indexByte (f.data.toList.drop k) 37) 0 with h | h
     ·exact h
     ·exfalso
      have hz := HFS.out
      have h2 := index_lt h
      rw [List.length_drop, ← size_list] at h2
      rw [hj] at hin; unfold runN at hin; rw [if_neg (by omega)] at hin; omega
    have hjf : k + j = fs := by omega
    have hjI : (fs : Int) - (k : Int) = (j : Int) := by omega
    have hRR := HR.out
    rw [sprF_run hkfz (by rw [← hj, ← HFS.out]; exact hin), ← hj, ← hpl] at hRR
    obtain ⟨WI, hWI⟩ : ∃ WI : Bool → World → Prop, WI = fun c W => Below w0.heap.size w0 W ∧ WrL W w0.heap.size b conv by_ L' (if c = true then out ++ (f.extract k (k + j)).data.toList else out) := ⟨_, rfl⟩
    have HWI0 : ∀ W, (W = wr ∨ W = wr.drew) → WI false W := fun W hW => by
     have hd : Below wr.heap.size wr W := by
      rcases hW with rfl | rfl
      ·exact Below.refl _ _
      ·exact (Below.refl _ _).drew
     rw [hWI]
     exact ⟨HB.out.trans (hd.mono HB.out.size), HW.out.below hd⟩
    have HWc : ∀ W, WI false W → Calls Tryz.prog 88 #[.pointer (some ⟨b, 3, none⟩), .string (f.extract k (k + j))] W fun e w' => e = .returned (.tuple #[.int .i64 (f.extract k (k + j)).size, .nilIface]) ∧ WI true w' := fun W hW => by
     rw [hWI] at hW ⊢
     refine (writeStrL (f.extract k (k + j)) hW.2 (by show out.length + _ ≤ _; omega)).mono ?_
     rintro e w' ⟨h1, h2, h3, _⟩
     exact ⟨h1, hW.1.trans h3, h2⟩
    have HWI := Lib.hid hWI
    have HWC := Lib.hid HWc
    have HW0 := Lib.hid HWI0
    clear hWI HWc HWI0
    obtain ⟨ix, hixe⟩ : ∃ ix, ix = Lib.indexByte (f.extract k f.size).data.toList 37 := ⟨_, rfl⟩
    have hx : Hid (∀ W, Calls Tryz.prog 69 #[.string (f.extract k fs), .int .u8 37] W fun e w' => e = .returned (.int .i64 ix) ∧ w' = W) := fun W => by rw [hixe, hfN]; exact HIx.out (f.extract k fs) W
    rw [← hixe] at hix
    have HP := Lib.hid hpl
    have HPz := Lib.hid hpz
    have HRR := Lib.hid hRR
    have HJ := Lib.hid hj
    have HJF := Lib.hid hjf
    have hjkI : (k : Int) + (j : Int) ≤ (fs : Int) := by omega
    have hp0 : (0 : Int) ≤ (k : Int) + (j : Int) := by omega
    have hkw : IntKind.i64.wrap ((k : Int) + (j : Int)) = (k : Int) + (j : Int) := by rw [IntKind.wrap_i64]; omega
    have hp1 : (k : Int) ≤ (k : Int) + (j : Int) := by omega
    have hp2 : ((k : Int) + (j : Int)).toNat = k + j := by omega
    have hkfs : k ≤ fs := hk
    have hkfsI : (k : Int) ≤ (fs : Int) := by omega
    have HN2 : Hid (fs - k < n1 + 1 ∧ k < fs ∧ 0 < n1 + 1) := ⟨HN.out, hkf, hn0⟩
    clear hRR HR hj hpl hpz hjf hixe hkf hin HN
    go_wp2_with fail
    refine (hx.out _).mono ?_
    rintro e _ ⟨rfl, rfl⟩
    go_wp2_with fail
    refine wp_region_guarded (by kernel_rfl) (by kernel_rfl) (fun a0 V0 L a W => ∃ u : Nat → Value, a = { tmps := ((((((((((a0.tmps.setIfInBounds 31 (u 0)).setIfInBounds 32 (u 1)).setIfInBounds 33 (u 2)).setIfInBounds 34 (u 3)).setIfInBounds 35 (u 4)).setIfInBounds 36 (u 5)).setIfInBounds 37 (u 6)).setIfInBounds 38 (u 7)).setIfInBounds 39 (u 8)).setIfInBounds 40 (u 9)), defers := a0.defers } ∧ Hid (WI (L 9) W) ∧ Hid (∀ i, L i = true → u i = valAt [.pointer (some ⟨b, 0, none⟩), .pointer (some ⟨b, 0, none⟩), .pointer (some ⟨b, 3, none⟩), .string f, .int .i64 (k : Int), .int .i64 (k : Int), .int .i64 (j : Int), .int .i64 ((k : Int) + (j : Int)), .string (f.extract k (k + j)), .tuple #[.int .i64 (f.extract k (k + j)).size, .nilIface]] i)) ?h0 ?hstep ?hdone
    case h0 =>
     refine ⟨valAt [u31, u32, u33, u34, u35, u36, u37, u38, u39, u40], ?_, HW0.out _ (.inr rfl), fun _ h => (by cases h)⟩
     kernel_rfl
    case hstep =>
     refine ⟨?o0, ?o1, ?o2, ?o3, ?o4, ?o5, ?o6, ?o7, ?o8, ?o9, trivial⟩
     case o0 =>
      rintro L a' W ⟨u, rfl, HI, E⟩ hL hd K hK
      simp only [List.setIfInBounds_toArray, List.set_cons_zero, List.set_cons_succ]
      refine ite_take rfl ?_
      clear hL hd
      go_simp
      refine hK _ _ ⟨withVal u 0 (.pointer (some ⟨b, 0, none⟩)), ?_, (by show WI (upd L 0 9) W; rw [upd_other L (by decide)]; exact HI.out), withVal_next E 0 _ rfl⟩
      kernel_rfl
     case o1 =>
      rintro L a' W ⟨u, rfl, HI, E⟩ hL hd K hK
      have e0 : u 0 = .pointer (some ⟨b, 0, none⟩) := E.out 0 (hd 0 (List.elem_iff.1 (by kernel_rfl)))
      simp only [List.setIfInBounds_toArray, List.set_cons_zero, List.set_cons_succ, e0]
      refine ite_take rfl ?_
      clear hL hd
      go_simp
      refine hK _ _ ⟨withVal (withVal u 0 (.pointer (some ⟨b, 0, none⟩))) 1 (.pointer (some ⟨b, 0, none⟩)), ?_, (by show WI (upd L 1 9) W; rw [upd_other L (by decide)]; exact HI.out), withVal_next (withVal_same E 0 _ rfl) 1 _ rfl⟩
      kernel_rfl
     case o2 =>
      rintro L a' W ⟨u, rfl, HI, E⟩ hL hd K hK
      have e1 : u 1 = .pointer (some ⟨b, 0, none⟩) := E.out 1 (hd 1 (List.elem_iff.1 (by kernel_rfl)))
      simp only [List.setIfInBounds_toArray, List.set_cons_zero, List.set_cons_succ, e1]
      refine ite_take rfl ?_
      clear hL hd
      go_simp
      refine hK _ _ ⟨withVal (withVal u 1 (.pointer (some ⟨b, 0, none⟩))) 2 (.pointer (some ⟨b, 3, none⟩)), ?_, (by show WI (upd L 2 9) W; rw [upd_other L (by decide)]; exact HI.out), withVal_next (withVal_same E 1 _ rfl) 2 _ rfl⟩
      kernel_rfl
     case o3 =>
      rintro L a' W ⟨u, rfl, HI, E⟩ hL hd K hK
      simp only [List.setIfInBounds_toArray, List.set_cons_zero, List.set_cons_succ]
      refine ite_take rfl ?_
      clear hL hd
      go_simp
      refine hK _ _ ⟨withVal u 3 (.string f), ?_, (by show WI (upd L 3 9) W; rw [upd_other L (by decide)]; exact HI.out), withVal_next E 3 _ rfl⟩
      kernel_rfl
     case o4 =>
      rintro L a' W ⟨u, rfl, HI, E⟩ hL hd K hK
      simp only [List.setIfInBounds_toArray, List.set_cons_zero, List.set_cons_succ]
      refine ite_take rfl ?_
      clear hL hd
      go_simp
      refine hK _ _ ⟨withVal u 4 (.int .i64 (k : Int)), ?_, (by show WI (upd L 4 9) W; rw [upd_other L (by decide)]; exact HI.out), withVal_next E 4 _ rfl⟩
      kernel_rfl
     case o5 =>
      rintro L a' W ⟨u, rfl, HI, E⟩ hL hd K hK
      simp only [List.setIfInBounds_toArray, List.set_cons_zero, List.set_cons_succ]
      refine ite_take rfl ?_
      clear hL hd
      go_simp
      refine hK _ _ ⟨withVal u 5 (.int .i64 (k : Int)), ?_, (by show WI (upd L 5 9) W; rw [upd_other L (by decide)]; exact HI.out), withVal_next E 5 _ rfl⟩
      kernel_rfl
     case o6 =>
      rintro L a' W ⟨u, rfl, HI, E⟩ hL hd K hK
      simp only [List.setIfInBounds_toArray, List.set_cons_zero, List.set_cons_succ]
      refine ite_take rfl ?_
      clear hL hd
      go_simp
      refine hK _ _ ⟨withVal u 6 (.int .i64 (j : Int)), ?_, (by show WI (upd L 6 9) W; rw [upd_other L (by decide)]; exact HI.out), withVal_next E 6 _ rfl⟩
      kernel_rfl
     case o7 =>
      rintro L a' W ⟨u, rfl, HI, E⟩ hL hd K hK
      have e5 : u 5 = .int .i64 (k : Int) := E.out 5 (hd 5 (List.elem_iff.1 (by kernel_rfl)))
      have e6 : u 6 = .int .i64 (j : Int) := E.out 6 (hd 6 (List.elem_iff.1 (by kernel_rfl)))
      simp only [List.setIfInBounds_toArray, List.set_cons_zero, List.set_cons_succ, e5, e6]
      refine ite_take rfl ?_
      clear hL hd
      go_simp
      refine hK _ _ ⟨withVal (withVal (withVal u 5 (.int .i64 (k : Int))) 6 (.int .i64 (j : Int))) 7 (.int .i64 ((k : Int) + (j : Int))), ?_, (by show WI (upd L 7 9) W; rw [upd_other L (by decide)]; exact HI.out), withVal_next (withVal_same (withVal_same E 5 _ rfl) 6 _ rfl) 7 _ rfl⟩
      kernel_rfl
     case o8 =>
      rintro L a' W ⟨u, rfl, HI, E⟩ hL hd K hK
      have e3 : u 3 = .string f := E.out 3 (hd 3 (List.elem_iff.1 (by kernel_rfl)))
      have e4 : u 4 = .int .i64 (k : Int) := E.out 4 (hd 4 (List.elem_iff.1 (by kernel_rfl)))
      have e7 : u 7 = .int .i64 ((k : Int) + (j : Int)) := E.out 7 (hd 7 (List.elem_iff.1 (by kernel_rfl)))
      simp only [List.setIfInBounds_toArray, List.set_cons_zero, List.set_cons_succ, e3, e4, e7]
      refine ite_take rfl ?_
      clear hL hd
      go_simp
      refine hK _ _ ⟨withVal (withVal (withVal (withVal u 3 (.string f)) 4 (.int .i64 (k : Int))) 7 (.int .i64 ((k : Int) + (j : Int)))) 8 (.string (f.extract k (k + j))), ?_, (by show WI (upd L 8 9) W; rw [upd_other L (by decide)]; exact HI.out), withVal_next (withVal_same (withVal_same (withVal_same E 3 _ rfl) 4 _ rfl) 7 _ rfl) 8 _ rfl⟩
      kernel_rfl
     case o9 =>
      rintro L a' W ⟨u, rfl, HI, E⟩ hL hd K hK
      have e2 : u 2 = .pointer (some ⟨b, 3, none⟩) := E.out 2 (hd 2 (List.elem_iff.1 (by kernel_rfl)))
      have e8 : u 8 = .string (f.extract k (k + j)) := E.out 8 (hd 8 (List.elem_iff.1 (by kernel_rfl)))
      simp only [List.setIfInBounds_toArray, List.set_cons_zero, List.set_cons_succ, e2, e8]
      refine ite_take rfl ?_
      rw [hL] at HI
      clear hL hd
      go_simp
      refine (HWC.out W HI.out).mono ?_
      rintro e W' ⟨rfl, hw'⟩
      refine hK _ _ ⟨withVal (withVal (withVal u 2 (.pointer (some ⟨b, 3, none⟩))) 8 (.string (f.extract k (k + j)))) 9 (.tuple #[.int .i64 (f.extract k (k + j)).size, .nilIface]), ?_, (by show WI (upd L 9 9) W'; rw [upd_self]; exact hw'), withVal_next (withVal_same (withVal_same E 2 _ rfl) 8 _ rfl) 9 _ rfl⟩
      kernel_rfl
    case hdone =>
     rintro L a' W1 hall ⟨u, rfl, HI, E⟩
     rw [hall 9 (by decide)] at HI
     have e0 : u 0 = .pointer (some ⟨b, 0, none⟩) := E.out 0 (hall 0 (by decide))
     have e1 : u 1 = .pointer (some ⟨b, 0, none⟩) := E.out 1 (hall 1 (by decide))
     have e2 : u 2 = .pointer (some ⟨b, 3, none⟩) := E.out 2 (hall 2 (by decide))
     have e3 : u 3 = .string f := E.out 3 (hall 3 (by decide))
     have e4 : u 4 = .int .i64 (k : Int) := E.out 4 (hall 4 (by decide))
     have e5 : u 5 = .int .i64 (k : Int) := E.out 5 (hall 5 (by decide))
     have e6 : u 6 = .int .i64 (j : Int) := E.out 6 (hall 6 (by decide))
     have e7 : u 7 = .int .i64 ((k : Int) + (j : Int)) := E.out 7 (hall 7 (by decide))
     have e8 : u 8 = .string (f.extract k (k + j)) := E.out 8 (hall 8 (by decide))
     have e9 : u 9 = .tuple #[.int .i64 (f.extract k (k + j)).size, .nilIface] := E.out 9 (hall 9 (by decide))
     simp only [List.setIfInBounds_toArray, List.set_cons_zero, List.set_cons_succ, e0, e1, e2, e3, e4, e5, e6, e7, e8, e9]
     have HI1 : Hid (Below w0.heap.size w0 W1 ∧ WrL W1 w0.heap.size b conv by_ L' (out ++ (f.extract k (k + j)).data.toList)) := by have h := HI.out; rw [HWI.out] at h; exact h
     clear hall E HI
     obtain ⟨ln, hln⟩ : ∃ ln, ln = (out ++ (f.extract k (k + j)).data.toList).length := ⟨_, rfl⟩
     have HLn := Lib.hid (lenL HI1.out.2)
     have hRR := HRR.out
     rw [← hln] at HLn hRR
     have hnl : decide ((k : Int) + (j : Int) < (fs : Int)) = false := by have := HJF.out; simp; omega
     by_cases hlen : 1024 < ln
     ·rw [if_pos hlen] at hRR
      have h1 := (Prod.mk.inj hRR).1
      have h2 := (Prod.mk.inj hRR).2
      have HR3 := Lib.hid (And.intro h1 h2)
      have hlI : (1024 : Int) < (ln : Int) := by omega
      clear hRR h1 h2 hln hlen
      go_wp2_with fail
      refine HLn.out.mono ?_
      rintro e _ ⟨rfl, rfl⟩
      go_wp2_with fail
      go_ret2
      exact ⟨by rw [← HR3.out.1, ← HR3.out.2]; rfl, HI1.out.1⟩
     ·rw [if_neg hlen] at hRR
      have HR3 := Lib.hid hRR
      have HLE : Hid (ln ≤ 1024) := by show _ ≤ _; omega
      have HLN := Lib.hid hln
      have hlI : decide ((1024 : Int) < (ln : Int)) = false := by simp; omega
      have hlJ : decide (1024 < ln) = false := by simp; omega
      clear hRR hln hlen
      go_wp2_with fail
      refine HLn.out.mono ?_
      rintro e _ ⟨rfl, rfl⟩
      go_wp2_with fail
      go_roundw
      case rel => exact ⟨n1, k + j, out ++ (f.extract k (k + j)).data.toList, L', by go_num, by have := HJF.out; omega, by have := HN2.out; have := HJF.out; show _ < _; omega, HI1.out.2, HI1.out.1, HSub.out, by rw [← HLN.out]; exact HLE.out, fun h => by have := HJF.out; omega, HR3.out⟩
      case measure => simp only [intOf]; have := HJF.out; omega
  ·have hkI : decide ((k : Int) < (fs : Int)) = false := by simp; omega
   have hkJ : decide (k < fs) = false := by simp; omega
   have hRR := HR.out
   rw [sprF_end hn0 (by have := HFS.out; omega)] at hRR
   obtain ⟨rfl, rfl⟩ := Prod.mk.inj hRR
   have HSt := Lib.hid (stringL HW.out)
   have HB2 := HB
   clear hRR HR HN hkf
   go_wp2_with fail
   refine HSt.out.mono ?_
   rintro e w5 ⟨rfl, hb5⟩
   have HB5 := Lib.hid (HB2.out.trans hb5)
   clear hb5
   go_wp2_with fail
   go_ret2
   exact ⟨rfl, HB5.out⟩
end Go.Proofs.YtfdnhkjeoeffoaaGreatDoor
end

section

namespace Go.Proofs.YtfdnhkjeoeffoaaGreatDoor
open Go.RowKit
set_option linter.unusedVariables false
theorem sprF_fuel {sf : CellT → ByteArray} {by_ : Bool} {f : ByteArray} : ∀ (n m k : Nat) (out : List UInt8) (L : List CellT), f.size - k < n → f.size - k < m → sprF sf by_ f n k out L = sprF sf by_ f m k out L := by
 intro n
 induction n with
 | zero => intro m k out L h; omega
 | succ n ih =>
   intro m k out L h1 h2
   obtain ⟨m, rfl⟩ : ∃ q, m = q + 1 := ⟨m - 1, by omega⟩
   by_cases hk : f.size ≤ k
   ·rw [sprF_end (by omega) hk, sprF_end (by omega) hk]
   ·by_cases hr : k + runN f k < f.size
    ·rw [sprF_part (by omega) hr, sprF_part (by omega) hr]
     cases stepF sf by_ f (k + runN f k) L with
     | none => rfl
     | some q =>
       have hp := pv_gt f (k + runN f k)
       simp only []
       rw [ih m (pv f (k + runN f k) + 1) _ q.2 (by omega) (by omega)]
    ·rw [sprF_run (by omega) hr, sprF_run (by omega) hr, ih m (k + runN f k) _ L (by omega) (by omega)]
/-- what Sprintf answers, from a place on -/
noncomputable def sprS (sf : CellT → ByteArray) (by_ : Bool) (f : ByteArray) (k : Nat) (out : List UInt8) (L : List CellT) : List UInt8 × Int := sprF sf by_ f (f.size + 1) k out L
theorem sprS_end {sf : CellT → ByteArray} {by_ : Bool} {f : ByteArray} {k : Nat} {out : List UInt8} {L : List CellT} (h : f.size ≤ k) : sprS sf by_ f k out L = (out, 0) := sprF_end (by omega) h
theorem sprS_run {sf : CellT → ByteArray} {by_ : Bool} {f : ByteArray} {k : Nat} {out : List UInt8} {L : List CellT} (h : k < f.size) (h2 : ¬ k + runN f k < f.size) : sprS sf by_ f k out L = if 1024 < (out ++ (f.data.toList.drop k).take (runN f k)).length then ([], 3) else (out ++ (f.data.toList.drop k).take (runN f k), 0) := by
 unfold sprS
 rw [sprF_run h h2, sprF_end (by omega) (by omega)]
theorem sprS_part {sf : CellT → ByteArray} {by_ : Bool} {f : ByteArray} {k : Nat} {out : List UInt8} {L : List CellT} (h : k < f.size) (h2 : k + runN f k < f.size) : sprS sf by_ f k out L = match stepF sf by_ f (k + runN f k) L with
 | none => ([], 50)
 | some (o, L') => if 1024 < (out ++ ((f.data.toList.drop k).take (runN f k) ++ o)).length then ([], 3) else sprS sf by_ f (pv f (k + runN f k) + 1) (out ++ ((f.data.toList.drop k).take (runN f k) ++ o)) L' := by
 have hp := pv_gt f (k + runN f k)
 unfold sprS
 rw [sprF_part h h2]
 cases stepF sf by_ f (k + runN f k) L with
 | none => rfl
 | some q =>
   simp only []
   rw [sprF_fuel f.size (f.size + 1) (pv f (k + runN f k) + 1) _ q.2 (by omega) (by omega)]
theorem ch_drop (f : ByteArray) (k : Nat) : ch f k = ((f.data.toList.drop k).getD 0 0).toNat := by
 unfold ch
 rw [List.getD_eq_getElem?_getD, List.getD_eq_getElem?_getD, List.getElem?_drop, Nat.add_zero]
theorem drop_len (f : ByteArray) (k : Nat) : (f.data.toList.drop k).length = f.size - k := by rw [List.length_drop, ← sz_list]
end Go.Proofs.YtfdnhkjeoeffoaaGreatDoor
end

section

namespace Go.Proofs.YtfdnhkjeoeffoaaGreatDoor
open Go.RowKit
set_option linter.unusedVariables false
theorem drop_next {l : List UInt8} {k : Nat} {a : UInt8} {R : List UInt8} (h : l.drop k = a :: R) : l.drop (k + 1) = R := by
 have h2 := congrArg (List.drop 1) h
 rwa [List.drop_drop] at h2
theorem drop_past {l : List UInt8} {k : Nat} {e R : List UInt8} (h : l.drop k = e ++ R) : l.drop (k + e.length) = R := by
 have h2 := congrArg (List.drop e.length) h
 rw [List.drop_drop, List.drop_left] at h2
 exact h2
theorem indexByte_not {l : List UInt8} {c : UInt8} (h : c ∉ l) : Lib.indexByte l c < 0 := by
 rcases Int.lt_or_le (Lib.indexByte l c) 0 with h1 | h1
 ·exact h1
 ·exfalso
  have h2 := (Lib.indexByte_some (l := l) (c := c) (o := (Lib.indexByte l c).toNat) (by omega)).1
  exact h (List.mem_of_getElem? h2)
theorem indexByte_at {l m : List UInt8} {c : UInt8} (h : c ∉ l) : Lib.indexByte (l ++ c :: m) c = (l.length : Int) := by
 have hge := Lib.indexByte_ge (l ++ c :: m) c
 rcases Int.lt_or_le (Lib.indexByte (l ++ c :: m) c) 0 with h1 | h1
 ·exfalso
  have h2 := Lib.indexByte_none (l := l ++ c :: m) (c := c) (by omega) l.length
  exact h2 (by simp)
 ·obtain ⟨h2, h3⟩ := Lib.indexByte_some (l := l ++ c :: m) (c := c) (o := (Lib.indexByte (l ++ c :: m) c).toNat) (by omega)
  obtain ⟨o, ho⟩ : ∃ o, o = (Lib.indexByte (l ++ c :: m) c).toNat := ⟨_, rfl⟩
  rw [← ho] at h2 h3
  have h4 : ¬ l.length < o := fun hlt => h3 l.length hlt (by simp)
  have h5 : ¬ o < l.length := fun hlt => by
   rw [List.getElem?_append_left hlt] at h2
   exact h (List.mem_of_getElem? h2)
  omega
/-- a run without a percent sign up to the end -/
theorem runN_all {f : ByteArray} {k : Nat} {R : List UInt8} (E : f.data.toList.drop k = R) (h : (37 : UInt8) ∉ R) : runN f k = R.length := by
 unfold runN
 have := drop_len f k
 rw [E] at this ⊢
 rw [if_pos (indexByte_not h)]
 omega
theorem runN_at {f : ByteArray} {k : Nat} {e R : List UInt8} (E : f.data.toList.drop k = e ++ 37 :: R) (h : (37 : UInt8) ∉ e) : runN f k = e.length := by
 unfold runN
 rw [E, indexByte_at h, if_neg (by omega)]
 omega
/-- a percent sign and a verb alone -/
theorem parse_two {f : ByteArray} {k : Nat} {v : UInt8} {R : List UInt8} (E : f.data.toList.drop k = 37 :: v :: R) (hv : v = 115 ∨ v = 37) :
 flagN f (k + 1) = 0 ∧ fw f k = (0, false, true, 0) ∧ fp f k = (-1, false, true, 0) ∧ pv f k = k + 1 ∧ ch f (pv f k) = v.toNat ∧ okP f k = true := by
 have E1 := drop_next E
 have h1 : flagN f (k + 1) = 0 := by
  unfold flagN
  rw [E1]
  rcases hv with rfl | rfl <;> rfl
 have h2 : ch f (k + 1) = v.toNat := by rw [ch_drop, E1]; rfl
 have p1 : pw f k = k + 1 := by unfold pw; rw [h1]
 have h3 : digN f (k + 1) = 0 := by
  unfold digN
  rw [E1]
  rcases hv with rfl | rfl <;> rfl
 have h4 : fw f k = (0, false, true, 0) := by
  unfold fw figV
  rw [p1, h2, h3, if_neg (by rcases hv with rfl | rfl <;> decide), if_neg (by decide)]
  rfl
 have p2 : pd f k = k + 1 := by unfold pd; rw [p1, h4]; rfl
 have h5 : dotP f k = false := by
  unfold dotP
  rw [p2, h2]
  rcases hv with rfl | rfl <;> rfl
 have h6 : fp f k = (-1, false, true, 0) := by
  unfold fp
  rw [h5, h4]
  rfl
 have p3 : pv f k = k + 1 := by unfold pv; rw [h5, p2]; rfl
 refine ⟨h1, h4, h6, p3, by rw [p3]; exact h2, ?_⟩
 unfold okP
 rw [h6, p3, h2]
 rcases hv with rfl | rfl <;> decide
theorem step_percent {sf : CellT → ByteArray} {by_ : Bool} {f : ByteArray} {k : Nat} {R : List UInt8} (E : f.data.toList.drop k = 37 :: 37 :: R) (L : List CellT) : stepF sf by_ f k L = some ([37], L) ∧ pv f k = k + 1 := by
 obtain ⟨h1, h2, h3, h4, h5, h6⟩ := parse_two E (.inr rfl)
 refine ⟨?_, h4⟩
 unfold stepF
 rw [if_pos h6, h1, h2, h3, h5]
 unfold partF starsF
 rfl
theorem textS_self (s : ByteArray) (by_ : Bool) : textS false 0 (-1) 115 s by_ = s ∧ textE 0 (-1) 115 = 0 := by
 have hk : okS 0 (-1) 115 = true := by decide
 constructor
 ·unfold textS
  rw [if_pos ⟨hk, .inl rfl⟩, if_neg Bool.false_ne_true]
  have hc : cutS (-1) 115 s by_ = s := if_neg (by omega)
  rw [hc]
  have hb : blanksB ((0 : Int) - ((chars s by_ 0).length : Nat)).toNat = ⟨#[]⟩ := by
   rw [show ((0 : Int) - ((chars s by_ 0).length : Nat)).toNat = 0 by omega]
   rfl
  rw [hb]
  exact ByteArray.empty_append
 ·unfold textE
  rw [if_pos ⟨hk, .inl rfl⟩]
theorem step_string {sf : CellT → ByteArray} {by_ : Bool} {f : ByteArray} {k : Nat} {R : List UInt8} (E : f.data.toList.drop k = 37 :: 115 :: R) (c : CellT) (L : List CellT) : stepF sf by_ f k (c :: L) = some ((sf c).data.toList, L) ∧ pv f k = k + 1 := by
 obtain ⟨h1, h2, h3, h4, h5, h6⟩ := parse_two E (.inl rfl)
 refine ⟨?_, h4⟩
 unfold stepF
 rw [if_pos h6, h1, h2, h3, h5, hasF_zero]
 obtain ⟨t1, t2⟩ := textS_self (sf c) by_
 have hO : partO sf by_ false (hasF 43 f (k + 1) 0) (hasF 32 f (k + 1) 0) (hasF 35 f (k + 1) 0) (hasF 48 f (k + 1) 0) 0 (-1) 115 c = (sf c, 0) := by
  unfold partO
  rw [if_neg (by decide), if_pos rfl, t1, t2]
 have hk : okS 0 (-1) 115 = true := by decide
 show partF sf by_ false _ _ _ _ 0 (-1) 115 false false (c :: L) = _
 unfold partF starsF
 simp only []
 rw [if_neg (by rw [hk]; decide), if_neg (by decide), hO]
 rfl
/-- strings by s, one behind the other -/
def strF (d : List UInt8) (l : List ByteArray) : List UInt8 := (l.map fun _ => [37, 115] ++ d).flatten
def strW (d : List UInt8) (l : List ByteArray) : List UInt8 := (l.map fun s => s.data.toList ++ d).flatten
theorem texts_spr {sf : CellT → ByteArray} {by_ : Bool} {f : ByteArray} {d : List UInt8} (hd : (37 : UInt8) ∉ d) (hsf : ∀ s, sf (2, 0, s) = s) : ∀ (l : List ByteArray) (e : List UInt8) (k : Nat) (out : List UInt8), (e = [] ∨ e = d) → f.data.toList.drop k = e ++ strF d l → k ≤ f.size → out.length ≤ 1024 →
 sprS sf by_ f k out (l.map fun s => (2, 0, s)) = if 1024 < (out ++ (e ++ strW d l)).length then ([], 3) else (out ++ (e ++ strW d l), 0) := by
 intro l
 induction l with
 | nil =>
   intro e k out he E hk ho
   have h1 := drop_len f k
   simp only [strF, strW, List.map_nil, List.flatten_nil, List.append_nil] at E ⊢
   have hne : (37 : UInt8) ∉ e := by rcases he with rfl | rfl; simp; exact hd
   rw [E] at h1
   by_cases h0 : f.size ≤ k
   ·have : e = [] := List.length_eq_zero_iff.1 (by omega)
    subst this
    rw [sprS_end h0, if_neg (by simpa using ho)]
    simp
   ·have hr := runN_all E hne
    rw [sprS_run (by omega) (by omega), hr, E, List.take_length]
 | cons s l ih =>
   intro e k out he E hk ho
   have h1 := drop_len f k
   have hne : (37 : UInt8) ∉ e := by rcases he with rfl | rfl; simp; exact hd
   have E2 : f.data.toList.drop k = e ++ 37 :: 115 :: (d ++ strF d l) := by rw [E]; simp [strF]
   have hr := runN_at E2 hne
   rw [E2] at h1
   simp only [List.length_append, List.length_cons] at h1
   have E3 := drop_past E2
   obtain ⟨hs, hp⟩ := step_string (sf := sf) (by_ := by_) E3 (2, 0, s) (l.map fun s => (2, 0, s))
   rw [sprS_part (by omega) (by omega), hr, List.map_cons, hs, hp]
   simp only []
   rw [hsf, E2, List.take_left]
   have hW : out ++ (e ++ strW d (s :: l)) = out ++ (e ++ s.data.toList) ++ (d ++ strW d l) := by simp [strW]
   rw [hW]
   by_cases h2 : 1024 < (out ++ (e ++ s.data.toList)).length
   ·rw [if_pos h2, if_pos (by rw [List.length_append]; omega)]
   ·rw [if_neg h2]
    exact ih d (k + e.length + 1 + 1) (out ++ (e ++ s.data.toList)) (.inr rfl) (drop_next (drop_next E3)) (by omega) (by omega)
/-- a text whose percent signs are doubled -/
def dblF (s : List UInt8) : List UInt8 := (s.map fun c => if c = 37 then [37, 37] else [c]).flatten
theorem dblF_plain : ∀ {e : List UInt8}, (37 : UInt8) ∉ e → dblF e = e := by
 intro e
 induction e with
 | nil => intro _; rfl
 | cons a e ih =>
   intro h
   have h1 : a ≠ 37 := fun h' => h (by simp [h'])
   have h2 : dblF e = e := ih (fun h' => h (List.mem_cons_of_mem _ h'))
   show (if a = 37 then [37, 37] else [a]) ++ dblF e = a :: e
   rw [if_neg h1, h2]
   rfl
theorem dblF_append (a b : List UInt8) : dblF (a ++ b) = dblF a ++ dblF b := by simp [dblF]
theorem split_at : ∀ (s : List UInt8), (37 : UInt8) ∉ s ∨ ∃ e r, s = e ++ 37 :: r ∧ (37 : UInt8) ∉ e := by
 intro s
 induction s with
 | nil => exact .inl (by simp)
 | cons a s ih =>
   by_cases h : a = 37
   ·exact .inr ⟨[], s, by rw [h]; rfl, by simp⟩
   ·rcases ih with h1 | ⟨e, r, rfl, h2⟩
    ·exact .inl (fun hm => by
      rcases List.mem_cons.1 hm with h3 | h3
      ·exact h h3.symm
      ·exact h1 h3)
    ·exact .inr ⟨a :: e, r, rfl, fun hm => by
      rcases List.mem_cons.1 hm with h3 | h3
      ·exact h h3.symm
      ·exact h2 h3⟩
theorem plain_spr {sf : CellT → ByteArray} {by_ : Bool} {f : ByteArray} (L : List CellT) : ∀ (n : Nat) (s : List UInt8) (k : Nat) (out : List UInt8), s.length ≤ n → f.data.toList.drop k = dblF s → k ≤ f.size → (out ++ s).length ≤ 1024 →
 sprS sf by_ f k out L = (out ++ s, 0) := by
 intro n
 induction n using Nat.strongRecOn with
 | ind n ih =>
   intro s k out hn E hk ho
   have h1 := drop_len f k
   rcases split_at s with hs | ⟨e, r, rfl, hs⟩
   ·rw [dblF_plain hs] at E
    rw [E] at h1
    by_cases h0 : f.size ≤ k
    ·have : s = [] := List.length_eq_zero_iff.1 (by omega)
     subst this
     rw [sprS_end h0, List.append_nil]
    ·have hr := runN_all E hs
     rw [sprS_run (by omega) (by omega), hr, E, List.take_length, if_neg (by omega)]
   ·have E2 : f.data.toList.drop k = e ++ 37 :: 37 :: dblF r := by rw [E, dblF_append, dblF_plain hs]; rfl
    have hr := runN_at E2 hs
    rw [E2] at h1
    simp only [List.length_append, List.length_cons] at h1 ho hn
    have E3 := drop_past E2
    obtain ⟨hst, hp⟩ := step_percent (sf := sf) (by_ := by_) E3 L
    rw [sprS_part (by omega) (by omega), hr, hst, hp]
    simp only []
    rw [E2, List.take_left, if_neg (by simp only [List.length_append, List.length_cons, List.length_nil]; omega)]
    rw [ih r.length (by omega) r (k + e.length + 1 + 1) _ (Nat.le_refl _) (drop_next (drop_next E3)) (by omega) (by simp only [List.length_append, List.length_cons, List.length_nil]; omega)]
    simp
end Go.Proofs.YtfdnhkjeoeffoaaGreatDoor
end

section

namespace Go.Proofs.YtfdnhkjeoeffoaaGreatDoor
open Go.RowKit
set_option linter.unusedVariables false
section
variable {f g h : ByteArray} (hh : h.data.toList = f.data.toList ++ g.data.toList)
include hh
end
end Go.Proofs.YtfdnhkjeoeffoaaGreatDoor
end

section

namespace Go.Proofs.YtfdnhkjeoeffoaaGreatDoor
open Go.RowKit
/-- the world of a region that lays one element and appends it -/
structure StA (V0 W : World) (D : Nat) (e : TypeId) (size : Nat) (m t : Bool) (obj : Obj) (u v : Value) (n : Nat) (xs : List Value) : Prop where
 raw : m = false → t = false ∧ W = V0.drew
 laid : m = true → t = false → W = V0.drew.alloc obj
 done : t = true → m = true ∧ (∃ g cap, v = .slice (some ⟨g, 0, none⟩) n cap) ∧ W.ownsRow D e size v n xs ∧ Below D V0 W
 ptr : m = true → u = .slice (some ⟨V0.heap.size, 0, none⟩) 1 1
theorem StA.start (V0 : World) (D : Nat) (e : TypeId) (size : Nat) (obj : Obj) (u v : Value) (n : Nat) (xs : List Value) : StA V0 V0.drew D e size false false obj u v n xs :=
 ⟨fun _ => ⟨rfl, rfl⟩, fun h => (by cases h), fun h => (by cases h), fun h => (by cases h)⟩
theorem StA.alloc {V0 W : World} {D : Nat} {e : TypeId} {size : Nat} {t : Bool} {obj : Obj} {u v : Value} {n : Nat} {xs : List Value} (h : StA V0 W D e size false t obj u v n xs) : StA V0 (W.alloc obj) D e size true t obj (.slice (some ⟨W.heap.size, 0, none⟩) 1 1) v n xs := by
 obtain ⟨rfl, rfl⟩ := h.raw rfl
 exact ⟨fun h => (by cases h), fun _ _ => rfl, fun h => (by cases h), fun _ => rfl⟩
/-- what has come up is closed -/
def Cl (D : List (List Nat)) (L : Nat → Bool) : Prop := ∀ j d, d ∈ D.getD j [] → L j = true → L d = true
theorem Cl.start (D : List (List Nat)) : Cl D (fun _ => false) := fun _ _ _ h => by cases h
theorem Cl.upd {D : List (List Nat)} {L : Nat → Bool} (h : Cl D L) (k : Nat) (hd : ∀ d ∈ D.getD k [], L d = true) : Cl D (upd L k) := by
 intro j d hm hj
 by_cases e : d = k
 ·subst e; exact upd_self L d
 ·rw [upd_other L e]
  by_cases e2 : j = k
  ·subst e2; exact hd d hm
  ·rw [upd_other L e2] at hj
   exact h j d hm hj
end Go.Proofs.YtfdnhkjeoeffoaaGreatDoor
end

section
set_option linter.unusedSimpArgs false
namespace Go.Proofs.YtfdnhkjeoeffoaaGreatDoor
open Go.RowKit
set_option linter.unusedVariables false
/-- an element of the law's, by its numbers, and as a value -/
def oneI (c : CellT) : List Value := [.int .i64 c.1, .int .u64 (c.2.1 : Int), .string c.2.2]
def cellE (c : CellT) : List Value := [.int .i64 c.1, .float .f64 c.2.1, .string c.2.2]
def OnesR (w : World) (a : Option Addr) (n : Nat) (L : List CellT) : Prop := n = L.length ∧ (0 < n → ∃ g o, a = some ⟨g, o, none⟩ ∧ g < w.heap.size ∧ ∀ (j : Nat) c, L[j]? = some c → ∀ (i : Nat) u, (oneI c)[i]? = some u → w.cell? ⟨g, o + j * 3 + i, none⟩ = some u)
theorem OnesR.below {w w' : World} {a : Option Addr} {n b : Nat} {L : List CellT} (h : OnesR w a n L) (hb : Below b w w') (hg : w.heap.size ≤ b) : OnesR w' a n L := by
 refine ⟨h.1, fun h0 => ?_⟩
 obtain ⟨g, o, e, hl, hc⟩ := h.2 h0
 exact ⟨g, o, e, Nat.lt_of_lt_of_le hl hb.size, fun j x hx i u hu => (hb.cell (p := ⟨g, o + j * 3 + i, none⟩) (by show g < b; omega)).trans (hc j x hx i u hu)⟩
def cellsCL (L : List CellT) : List Value := (L.map cellE).flatten
theorem cellsCL_snoc (L : List CellT) (c : CellT) : cellsCL (L ++ [c]) = cellsCL L ++ cellE c := by simp [cellsCL]
theorem cellsCL_at {L : List CellT} {j : Nat} {c : CellT} (h : L[j]? = some c) (i : Nat) (hi : i < 3) : (cellsCL L)[j * 3 + i]? = (cellE c)[i]? := by
 induction L generalizing j with
 | nil => cases h
 | cons a L ih =>
   have e3 : (cellE a).length = 3 := rfl
   show (cellE a ++ cellsCL L)[j * 3 + i]? = _
   cases j with
   | zero =>
     simp only [List.getElem?_cons_zero, Option.some.injEq] at h
     subst h
     rw [List.getElem?_append_left (by omega)]; simp
   | succ j =>
     rw [List.getElem?_append_right (by omega), e3, ← ih (j := j) (by simpa using h)]
     congr 1; omega
theorem CellsAt.ofOwn {w : World} {D n : Nat} {v : Value} {L : List CellT} (h : w.ownsRow D 48 3 v n (cellsCL L)) (hn : n = L.length) (hm : n ≤ 1000000000000000) : CellsAt w w.heap.size v L := by
 rcases h.2 with ⟨rfl, h0⟩ | ⟨g, cap, cur, rfl, hb, hgg, hnc, hcm, _⟩
 ·subst h0
  exact ⟨none, 0, by rw [← hn], by omega, by omega, fun i hi => by omega⟩
 ·refine ⟨some ⟨g, 0, none⟩, cap, by rw [hn], by omega, by unfold maxLen at hcm; omega, fun i hi => ⟨g, 0, rfl, lt_of_heap hgg, ?_, ?_, ?_⟩⟩
  ·have hc := h.cells (g := g) rfl (i * 3 + 0) _ (by rw [cellsCL_at (List.getElem?_eq_getElem hi) 0 (by decide)]; rfl)
   rw [Addr.add_lit] at hc
   exact hc
  ·have hc := h.cells (g := g) rfl (i * 3 + 1) _ (by rw [cellsCL_at (List.getElem?_eq_getElem hi) 1 (by decide)]; rfl)
   rw [Addr.add_lit] at hc
   exact hc
  ·have hc := h.cells (g := g) rfl (i * 3 + 2) _ (by rw [cellsCL_at (List.getElem?_eq_getElem hi) 2 (by decide)]; rfl)
   rw [Addr.add_lit] at hc
   exact hc
theorem infoCL : (Tryz.prog.info? 48).map (fun i => (i.zero, i.size, i.bytes)) = some (some (.agg #[.int .i64 0, .float .f64 0, .string .empty]), 3, 32) := by kernel_rfl
theorem undCL : Tryz.prog.underlying 56 = some (.slice 48) := by kernel_rfl
theorem newsCL (W : World) (a0 a1 a2 : Value) : ∀ (j : Nat) u, [a0, a1, a2][j]? = some u → (W.alloc (.cells #[a0, a1, a2] 48)).cell? ((⟨W.heap.size, 0, none⟩ : Addr).add j) = some u :=
 World.news_of_block (heap_alloc_at W (.cells #[a0, a1, a2] 48))
set_option maxHeartbeats 8000000 in
set_option maxRecDepth 100000 in
theorem made11_any {w : World} {a : Option Addr} {n c : Nat} {L0 : List CellT} (hL : OnesR w a n L0) (hn : n ≤ 4000000000000) (hOk : ∀ e ∈ L0, e.2.1 < 18446744073709551616) :
 Calls Tryz.prog 34 #[.slice a n c] w fun e w' => (∃ v, e = .returned v ∧ w'.ownsRow w.heap.size 48 3 v n (cellsCL L0)) ∧ Below w.heap.size w w' := by
 have HN := Lib.hid hL.1
 have HL := Lib.hid hL.2
 have HOk := Lib.hid hOk
 clear hL hOk
 obtain ⟨g, o, hg⟩ : ∃ g o, 0 < n → a = some ⟨g, o, none⟩ ∧ g < w.heap.size ∧ ∀ (j : Nat) e, L0[j]? = some e → ∀ (i : Nat) u, (oneI e)[i]? = some u → w.cell? ⟨g, o + j * 3 + i, none⟩ = some u := by
  rcases Nat.eq_zero_or_pos n with h | h
  ·exact ⟨0, 0, fun h2 => by omega⟩
  ·obtain ⟨g, o, x⟩ := HL.out h
   exact ⟨g, o, fun _ => x⟩
 have HG := Lib.hid hg
 clear hg
 rcases Nat.eq_zero_or_pos n with h0 | h0
 ·subst h0
  have hLn : L0 = [] := List.eq_nil_of_length_eq_zero HN.out.symm
  subst hLn
  go_enter Tryz.func34, Tryz.ntmps34
  go_wp2_with fail
  go_loop [3, 8] (fun v3 v8 => v3 = .slice none 0 0 ∧ v8 = .int .i64 0) (fun _ _ => 0)
  case atStart => exact ⟨rfl, rfl⟩
  case round =>
   obtain ⟨rfl, rfl⟩ := hrel
   go_wp2_with fail
   go_ret
   exact ⟨⟨_, rfl, World.ownsRow_nil _ _ _ _⟩, Below.refl _ _⟩
 obtain ⟨rfl, hgl, hc⟩ := HG.out h0
 have HC := Lib.hid hc
 obtain ⟨i0, hi, hz0, hz1, hz2⟩ := info_parts infoCL
 have HI0 := Lib.hid hi
 have HZ0 := Lib.hid hz0
 have HZ1 := Lib.hid hz1
 have HZ2 := Lib.hid hz2
 clear hc HG HL hi hz0 hz1 hz2
 go_enter Tryz.func34, Tryz.ntmps34
 go_wp2_with fail
 go_loopw [3, 8] (fun v3 v8 wr => ∃ k : Nat, v8 = .int .i64 (k : Int) ∧ k ≤ n ∧ Hid (Below w.heap.size w wr) ∧ Hid (wr.ownsRow w.heap.size 48 3 v3 k (cellsCL (L0.take k)))) (fun _ v8 _ => n - (intOf v8).toNat)
 case atStart => exact ⟨0, rfl, Nat.zero_le _, Below.refl _ _, World.ownsRow_nil _ _ _ _⟩
 case round =>
  obtain ⟨k, rfl, hk, HBr, HOw⟩ := hrel
  by_cases hlt : k < n
  ·have hltI : (k : Int) < (n : Int) := by omega
   obtain ⟨x, hx⟩ : ∃ x, L0[k]? = some x := ⟨_, List.getElem?_eq_getElem (by rw [← HN.out]; exact hlt)⟩
   have HX := Lib.hid hx
   have x0 := (HBr.out.cell (p := ⟨g, o + k * 3 + 0, none⟩) hgl).trans (HC.out k x hx 0 _ rfl)
   have x1 := (HBr.out.cell (p := ⟨g, o + k * 3 + 1, none⟩) hgl).trans (HC.out k x hx 1 _ rfl)
   have x2 := (HBr.out.cell (p := ⟨g, o + k * 3 + 2, none⟩) hgl).trans (HC.out k x hx 2 _ rfl)
   simp only [Nat.add_zero] at x0
   have hbx := HOk.out x (List.mem_of_getElem? hx)
   clear hx
   obtain ⟨xd, xb, xs⟩ := x
   dsimp only at x0 x1 x2 hbx
   go_wp2_with fail
   have zW : (wr.alloc (.cells #[.int .i64 xd, .int .u64 (xb : Int), .string xs] 118)).heap.size = wr.heap.size + 1 := by simp
   have HBW := Lib.hid (HBr.out.alloc HBr.out.size (.cells #[.int .i64 xd, .int .u64 (xb : Int), .string xs] 118))
   have HOW := Lib.hid (HOw.out.alloc (.cells #[.int .i64 xd, .int .u64 (xb : Int), .string xs] 118))
   have q0 : (wr.alloc (.cells #[.int .i64 xd, .int .u64 (xb : Int), .string xs] 118)).cell? ⟨wr.heap.size, 0, none⟩ = some (.int .i64 xd) := by simp [go_sem]
   have q1 : (wr.alloc (.cells #[.int .i64 xd, .int .u64 (xb : Int), .string xs] 118)).cell? ⟨wr.heap.size, 1, none⟩ = some (.int .u64 (xb : Int)) := by simp [go_sem]
   have q2 : (wr.alloc (.cells #[.int .i64 xd, .int .u64 (xb : Int), .string xs] 118)).cell? ⟨wr.heap.size, 2, none⟩ = some (.string xs) := by simp [go_sem]
   have hlt1 : wr.heap.size < wr.heap.size + 1 := by omega
   have hsz := HBr.out.size
   generalize hW : wr.alloc (.cells #[.int .i64 xd, .int .u64 (xb : Int), .string xs] 118) = W0 at *
   clear hW x0 x1 x2
   have hwW : w.heap.size ≤ W0.heap.size := by omega
   clear zW hlt1 hsz
   have HSN : Hid (cellsCL (L0.take (k + 1)) = cellsCL (L0.take k) ++ [.int .i64 xd, .float .f64 xb, .string xs]) := by
    show _ = _
    rw [List.take_add_one, HX.out]
    exact cellsCL_snoc _ (xd, xb, xs)
   refine wp_region_steps (by kernel_rfl) (by kernel_rfl) (by kernel_rfl) (fun a0 V0 L a W => ∃ (s3 s12 s13 s14 s15 s16 s17 s18 s19 s20 s21 s22 : Value), a = { tmps := ((((((((((((a0.tmps.setIfInBounds 3 s3).setIfInBounds 12 s12).setIfInBounds 13 s13).setIfInBounds 14 s14).setIfInBounds 15 s15).setIfInBounds 16 s16).setIfInBounds 17 s17).setIfInBounds 18 s18).setIfInBounds 19 s19).setIfInBounds 20 s20).setIfInBounds 21 s21).setIfInBounds 22 s22), defers := a0.defers } ∧
    Hid (StA V0 W w.heap.size 48 3 (L 9) (L 10) (.cells #[.int .i64 xd, .float .f64 xb, .string xs] 48) s21 s22 (k + 1) (cellsCL (L0.take (k + 1)))) ∧ Hid (Cl [[], [], [1], [], [3], [4], [], [6], [2, 5, 7], [8], [0, 9], [10]] L) ∧ Hid (L 0 = true → s12 = u3) ∧ Hid (L 1 = true → s13 = .pointer (some ⟨wr.heap.size, 0, none⟩)) ∧ Hid (L 2 = true → s14 = .int .i64 xd) ∧ Hid (L 3 = true → s15 = .pointer (some ⟨wr.heap.size, 1, none⟩)) ∧ Hid (L 4 = true → s16 = .int .u64 (xb : Int)) ∧ Hid (L 5 = true → s17 = .float .f64 xb) ∧ Hid (L 6 = true → s18 = .pointer (some ⟨wr.heap.size, 2, none⟩)) ∧ Hid (L 7 = true → s19 = .string xs) ∧ Hid (L 8 = true → s20 = .agg #[.int .i64 xd, .float .f64 xb, .string xs]) ∧ Hid (L 11 = true → s3 = s22) ∧ Hid (L 11 = false → s3 = u3)) ?h0 ?hstep ?hdone
   case h0 =>
    refine ⟨u3, u12, u13, u14, u15, u16, u17, u18, u19, u20, u21, u22, ?_, StA.start _ _ _ _ _ _ _ _ _, Cl.start _, fun h => (by cases h), fun h => (by cases h), fun h => (by cases h), fun h => (by cases h), fun h => (by cases h), fun h => (by cases h), fun h => (by cases h), fun h => (by cases h), fun h => (by cases h), fun h => (by cases h), fun _ => rfl⟩
    simp only [List.setIfInBounds_toArray, List.set_cons_zero, List.set_cons_succ]
   case hstep =>
    refine ⟨?o0, ?o1, ?o2, ?o3, ?o4, ?o5, ?o6, ?o7, ?o8, ?o9, ?o10, ?o11, trivial⟩
    case o0 =>
     rintro L a' W ⟨s3, s12, s13, s14, s15, s16, s17, s18, s19, s20, s21, s22, rfl, HI, HC, E0, E1, E2, E3, E4, E5, E6, E7, E8, EO, EI⟩ hL hd K hK
     have hcl := HC.out.upd 0 (by intro d hd9; simp only [List.getD_cons_zero, List.getD_cons_succ, List.not_mem_nil] at hd9)
     have HCL := Lib.hid hcl
     clear hcl
     have hn : L 11 = false := by
      cases h11 : L 11 with
      | false => rfl
      | true =>
        have h10 := HC.out 11 10 (by decide) h11
        have h0 := HC.out 10 0 (by decide) h10
        rw [hL] at h0; cases h0
     have es := (EI.out hn).symm
     subst es
     simp only [List.setIfInBounds_toArray, List.set_cons_zero, List.set_cons_succ]
     go_simp
     refine hK _ _ ⟨u3, u3, s13, s14, s15, s16, s17, s18, s19, s20, s21, s22, ?_, HI, HCL, fun _ => rfl, E1.out, E2.out, E3.out, E4.out, E5.out, E6.out, E7.out, E8.out, EO.out, EI.out⟩
     simp only [List.setIfInBounds_toArray, List.set_cons_zero, List.set_cons_succ]
    case o1 =>
     rintro L a' W ⟨s3, s12, s13, s14, s15, s16, s17, s18, s19, s20, s21, s22, rfl, HI, HC, E0, E1, E2, E3, E4, E5, E6, E7, E8, EO, EI⟩ hL hd K hK
     have hcl := HC.out.upd 1 (by intro d hd9; simp only [List.getD_cons_zero, List.getD_cons_succ, List.not_mem_nil] at hd9)
     have HCL := Lib.hid hcl
     clear hcl
     simp only [List.setIfInBounds_toArray, List.set_cons_zero, List.set_cons_succ]
     go_simp
     refine hK _ _ ⟨s3, s12, .pointer (some ⟨wr.heap.size, 0, none⟩), s14, s15, s16, s17, s18, s19, s20, s21, s22, ?_, HI, HCL, E0.out, fun _ => rfl, E2.out, E3.out, E4.out, E5.out, E6.out, E7.out, E8.out, EO.out, EI.out⟩
     simp only [List.setIfInBounds_toArray, List.set_cons_zero, List.set_cons_succ]
    case o2 =>
     rintro L a' W ⟨s3, s12, s13, s14, s15, s16, s17, s18, s19, s20, s21, s22, rfl, HI, HC, E0, E1, E2, E3, E4, E5, E6, E7, E8, EO, EI⟩ hL hd K hK
     have d1 : L 1 = true := hd 1 (List.elem_iff.1 (by kernel_rfl))
     have es := (E1.out d1).symm
     subst es
     have hcl := HC.out.upd 2 (by intro d hd9; simp only [List.getD_cons_zero, List.getD_cons_succ, List.mem_cons, List.not_mem_nil, or_false] at hd9; rcases hd9 with rfl <;> assumption)
     have HCL := Lib.hid hcl
     clear hcl
     have hr : L 9 = false := by
      cases h9 : L 9 with
      | false => rfl
      | true =>
        have h8 := HC.out 9 8 (by decide) h9
        have h2 := HC.out 8 2 (by decide) h8
        rw [hL] at h2; cases h2
     have hW := (HI.out.raw hr).2
     have cc0 : W.cell? ⟨wr.heap.size, 0, none⟩ = some (.int .i64 xd) := by rw [hW]; exact cellNext (Below.refl _ _).drew q0
     clear hW
     simp only [List.setIfInBounds_toArray, List.set_cons_zero, List.set_cons_succ]
     go_simp
     refine hK _ _ ⟨s3, s12, .pointer (some ⟨wr.heap.size, 0, none⟩), .int .i64 xd, s15, s16, s17, s18, s19, s20, s21, s22, ?_, HI, HCL, E0.out, E1.out, fun _ => rfl, E3.out, E4.out, E5.out, E6.out, E7.out, E8.out, EO.out, EI.out⟩
     simp only [List.setIfInBounds_toArray, List.set_cons_zero, List.set_cons_succ]
    case o3 =>
     rintro L a' W ⟨s3, s12, s13, s14, s15, s16, s17, s18, s19, s20, s21, s22, rfl, HI, HC, E0, E1, E2, E3, E4, E5, E6, E7, E8, EO, EI⟩ hL hd K hK
     have hcl := HC.out.upd 3 (by intro d hd9; simp only [List.getD_cons_zero, List.getD_cons_succ, List.not_mem_nil] at hd9)
     have HCL := Lib.hid hcl
     clear hcl
     simp only [List.setIfInBounds_toArray, List.set_cons_zero, List.set_cons_succ]
     go_simp
     refine hK _ _ ⟨s3, s12, s13, s14, .pointer (some ⟨wr.heap.size, 1, none⟩), s16, s17, s18, s19, s20, s21, s22, ?_, HI, HCL, E0.out, E1.out, E2.out, fun _ => rfl, E4.out, E5.out, E6.out, E7.out, E8.out, EO.out, EI.out⟩
     simp only [List.setIfInBounds_toArray, List.set_cons_zero, List.set_cons_succ]
    case o4 =>
     rintro L a' W ⟨s3, s12, s13, s14, s15, s16, s17, s18, s19, s20, s21, s22, rfl, HI, HC, E0, E1, E2, E3, E4, E5, E6, E7, E8, EO, EI⟩ hL hd K hK
     have d3 : L 3 = true := hd 3 (List.elem_iff.1 (by kernel_rfl))
     have es := (E3.out d3).symm
     subst es
     have hcl := HC.out.upd 4 (by intro d hd9; simp only [List.getD_cons_zero, List.getD_cons_succ, List.mem_cons, List.not_mem_nil, or_false] at hd9; rcases hd9 with rfl <;> assumption)
     have HCL := Lib.hid hcl
     clear hcl
     have hr : L 9 = false := by
      cases h9 : L 9 with
      | false => rfl
      | true =>
        have h8 := HC.out 9 8 (by decide) h9
        have h5 := HC.out 8 5 (by decide) h8
        have h4 := HC.out 5 4 (by decide) h5
        rw [hL] at h4; cases h4
     have hW := (HI.out.raw hr).2
     have cc0 : W.cell? ⟨wr.heap.size, 1, none⟩ = some (.int .u64 (xb : Int)) := by rw [hW]; exact cellNext (Below.refl _ _).drew q1
     clear hW
     simp only [List.setIfInBounds_toArray, List.set_cons_zero, List.set_cons_succ]
     go_simp
     refine hK _ _ ⟨s3, s12, s13, s14, .pointer (some ⟨wr.heap.size, 1, none⟩), .int .u64 (xb : Int), s17, s18, s19, s20, s21, s22, ?_, HI, HCL, E0.out, E1.out, E2.out, E3.out, fun _ => rfl, E5.out, E6.out, E7.out, E8.out, EO.out, EI.out⟩
     simp only [List.setIfInBounds_toArray, List.set_cons_zero, List.set_cons_succ]
    case o5 =>
     rintro L a' W ⟨s3, s12, s13, s14, s15, s16, s17, s18, s19, s20, s21, s22, rfl, HI, HC, E0, E1, E2, E3, E4, E5, E6, E7, E8, EO, EI⟩ hL hd K hK
     have d4 : L 4 = true := hd 4 (List.elem_iff.1 (by kernel_rfl))
     have es := (E4.out d4).symm
     subst es
     have hcl := HC.out.upd 5 (by intro d hd9; simp only [List.getD_cons_zero, List.getD_cons_succ, List.mem_cons, List.not_mem_nil, or_false] at hd9; rcases hd9 with rfl <;> assumption)
     have HCL := Lib.hid hcl
     clear hcl
     simp only [List.setIfInBounds_toArray, List.set_cons_zero, List.set_cons_succ]
     go_simp
     refine hK _ _ ⟨s3, s12, s13, s14, s15, .int .u64 (xb : Int), .float .f64 xb, s18, s19, s20, s21, s22, ?_, HI, HCL, E0.out, E1.out, E2.out, E3.out, E4.out, fun _ => rfl, E6.out, E7.out, E8.out, EO.out, EI.out⟩
     simp only [List.setIfInBounds_toArray, List.set_cons_zero, List.set_cons_succ]
    case o6 =>
     rintro L a' W ⟨s3, s12, s13, s14, s15, s16, s17, s18, s19, s20, s21, s22, rfl, HI, HC, E0, E1, E2, E3, E4, E5, E6, E7, E8, EO, EI⟩ hL hd K hK
     have hcl := HC.out.upd 6 (by intro d hd9; simp only [List.getD_cons_zero, List.getD_cons_succ, List.not_mem_nil] at hd9)
     have HCL := Lib.hid hcl
     clear hcl
     simp only [List.setIfInBounds_toArray, List.set_cons_zero, List.set_cons_succ]
     go_simp
     refine hK _ _ ⟨s3, s12, s13, s14, s15, s16, s17, .pointer (some ⟨wr.heap.size, 2, none⟩), s19, s20, s21, s22, ?_, HI, HCL, E0.out, E1.out, E2.out, E3.out, E4.out, E5.out, fun _ => rfl, E7.out, E8.out, EO.out, EI.out⟩
     simp only [List.setIfInBounds_toArray, List.set_cons_zero, List.set_cons_succ]
    case o7 =>
     rintro L a' W ⟨s3, s12, s13, s14, s15, s16, s17, s18, s19, s20, s21, s22, rfl, HI, HC, E0, E1, E2, E3, E4, E5, E6, E7, E8, EO, EI⟩ hL hd K hK
     have d6 : L 6 = true := hd 6 (List.elem_iff.1 (by kernel_rfl))
     have es := (E6.out d6).symm
     subst es
     have hcl := HC.out.upd 7 (by intro d hd9; simp only [List.getD_cons_zero, List.getD_cons_succ, List.mem_cons, List.not_mem_nil, or_false] at hd9; rcases hd9 with rfl <;> assumption)
     have HCL := Lib.hid hcl
     clear hcl
     have hr : L 9 = false := by
      cases h9 : L 9 with
      | false => rfl
      | true =>
        have h8 := HC.out 9 8 (by decide) h9
        have h7 := HC.out 8 7 (by decide) h8
        rw [hL] at h7; cases h7
     have hW := (HI.out.raw hr).2
     have cc0 : W.cell? ⟨wr.heap.size, 2, none⟩ = some (.string xs) := by rw [hW]; exact cellNext (Below.refl _ _).drew q2
     clear hW
     simp only [List.setIfInBounds_toArray, List.set_cons_zero, List.set_cons_succ]
     go_simp
     refine hK _ _ ⟨s3, s12, s13, s14, s15, s16, s17, .pointer (some ⟨wr.heap.size, 2, none⟩), .string xs, s20, s21, s22, ?_, HI, HCL, E0.out, E1.out, E2.out, E3.out, E4.out, E5.out, E6.out, fun _ => rfl, E8.out, EO.out, EI.out⟩
     simp only [List.setIfInBounds_toArray, List.set_cons_zero, List.set_cons_succ]
    case o8 =>
     rintro L a' W ⟨s3, s12, s13, s14, s15, s16, s17, s18, s19, s20, s21, s22, rfl, HI, HC, E0, E1, E2, E3, E4, E5, E6, E7, E8, EO, EI⟩ hL hd K hK
     have d2 : L 2 = true := hd 2 (List.elem_iff.1 (by kernel_rfl))
     have es := (E2.out d2).symm
     subst es
     have d5 : L 5 = true := hd 5 (List.elem_iff.1 (by kernel_rfl))
     have es := (E5.out d5).symm
     subst es
     have d7 : L 7 = true := hd 7 (List.elem_iff.1 (by kernel_rfl))
     have es := (E7.out d7).symm
     subst es
     have hcl := HC.out.upd 8 (by intro d hd9; simp only [List.getD_cons_zero, List.getD_cons_succ, List.mem_cons, List.not_mem_nil, or_false] at hd9; rcases hd9 with rfl | rfl | rfl <;> assumption)
     have HCL := Lib.hid hcl
     clear hcl
     simp only [List.setIfInBounds_toArray, List.set_cons_zero, List.set_cons_succ]
     go_simp
     refine hK _ _ ⟨s3, s12, s13, .int .i64 xd, s15, s16, .float .f64 xb, s18, .string xs, .agg #[.int .i64 xd, .float .f64 xb, .string xs], s21, s22, ?_, HI, HCL, E0.out, E1.out, E2.out, E3.out, E4.out, E5.out, E6.out, E7.out, fun _ => rfl, EO.out, EI.out⟩
     simp only [List.setIfInBounds_toArray, List.set_cons_zero, List.set_cons_succ]
    case o9 =>
     rintro L a' W ⟨s3, s12, s13, s14, s15, s16, s17, s18, s19, s20, s21, s22, rfl, HI, HC, E0, E1, E2, E3, E4, E5, E6, E7, E8, EO, EI⟩ hL hd K hK
     have d8 : L 8 = true := hd 8 (List.elem_iff.1 (by kernel_rfl))
     have es := (E8.out d8).symm
     subst es
     have hcl := HC.out.upd 9 (by intro d hd9; simp only [List.getD_cons_zero, List.getD_cons_succ, List.mem_cons, List.not_mem_nil, or_false] at hd9; rcases hd9 with rfl <;> assumption)
     have HCL := Lib.hid hcl
     clear hcl
     have hI := HI.out
     rw [hL] at hI
     simp only [List.setIfInBounds_toArray, List.set_cons_zero, List.set_cons_succ]
     go_simp
     refine hK _ _ ⟨s3, s12, s13, s14, s15, s16, s17, s18, s19, .agg #[.int .i64 xd, .float .f64 xb, .string xs], .slice (some ⟨W.heap.size, 0, none⟩) 1 1, s22, ?_, hI.alloc, HCL, E0.out, E1.out, E2.out, E3.out, E4.out, E5.out, E6.out, E7.out, E8.out, EO.out, EI.out⟩
     simp only [List.setIfInBounds_toArray, List.set_cons_zero, List.set_cons_succ]
    case o10 =>
     rintro L a' W ⟨s3, s12, s13, s14, s15, s16, s17, s18, s19, s20, s21, s22, rfl, HI, HC, E0, E1, E2, E3, E4, E5, E6, E7, E8, EO, EI⟩ hL hd K hK
     have d0 : L 0 = true := hd 0 (List.elem_iff.1 (by kernel_rfl))
     have es := (E0.out d0).symm
     subst es
     have d9 : L 9 = true := hd 9 (List.elem_iff.1 (by kernel_rfl))
     have hcl := HC.out.upd 10 (by intro d hd9; simp only [List.getD_cons_zero, List.getD_cons_succ, List.mem_cons, List.not_mem_nil, or_false] at hd9; rcases hd9 with rfl | rfl <;> assumption)
     have HCL := Lib.hid hcl
     clear hcl
     have hn : L 11 = false := by
      cases h11 : L 11 with
      | false => rfl
      | true =>
        have h10 := HC.out 11 10 (by decide) h11
        rw [hL] at h10; cases h10
     have hI := HI.out
     rw [hL, d9] at hI
     have hW := hI.laid rfl rfl
     obtain rfl := hI.ptr rfl
     subst hW
     simp only [List.setIfInBounds_toArray, List.set_cons_zero, List.set_cons_succ]
     refine wp_append_lies _ (.tmp 12) (.tmp 21) 56 rfl w.heap.size 48 i0 (.agg #[.int .i64 0, .float .f64 0, .string .empty]) 3 32 undCL HI0.out HZ0.out HZ1.out HZ2.out rfl (by decide) u3 k (cellsCL (L0.take k)) (by simp [Act.eval]) (HOW.out.drew.alloc _) ⟨W0.heap.size, 0, none⟩ 1 1 [.int .i64 xd, .float .f64 xb, .string xs] (by simp [Act.eval]) rfl (newsCL W0.drew (.int .i64 xd) (.float .f64 xb) (.string xs)) (by simp [Value.oneCell']) (by decide) (by unfold maxLen; omega) (by omega) (by show w.heap.size ≤ (W0.drew.alloc _).heap.size; simp; omega) _ rfl ?_
     intro g9 cap9 w9 hown hgrow hat hlt9
     simp only [Act.put, List.setIfInBounds_toArray, List.set_cons_zero, List.set_cons_succ]
     refine hK _ _ ⟨s3, u3, s13, s14, s15, s16, s17, s18, s19, s20, .slice (some ⟨W0.heap.size, 0, none⟩) 1 1, .slice (some ⟨g9, 0, none⟩) (k + 1) cap9, ?_, ⟨fun h => ?_, fun _ h => ?_, fun _ => ⟨?_, ⟨g9, cap9, rfl⟩, ?_, ((Below.refl _ W0).drew.alloc (show w.heap.size ≤ W0.heap.size by omega) _).grown hgrow (by show w.heap.size ≤ (W0.drew.alloc _).heap.size; simp; omega) (fun y hy => (HOW.out.lt y hy).1)⟩, fun _ => rfl⟩, HCL, E0.out, E1.out, E2.out, E3.out, E4.out, E5.out, E6.out, E7.out, E8.out, fun h => absurd h (by show ¬ L 11 = true; rw [hn]; decide), EI.out⟩
     ·simp only [List.setIfInBounds_toArray, List.set_cons_zero, List.set_cons_succ]
     ·exact absurd h (by show ¬ L 9 = false; rw [d9]; decide)
     ·cases h
     ·exact d9
     ·show World.ownsRow _ _ _ _ _ _ _
      rw [show cellsCL (L0.take (k + 1)) = cellsCL (L0.take k) ++ [.int .i64 xd, .float .f64 xb, .string xs] from HSN.out]; exact hown
    case o11 =>
     rintro L a' W ⟨s3, s12, s13, s14, s15, s16, s17, s18, s19, s20, s21, s22, rfl, HI, HC, E0, E1, E2, E3, E4, E5, E6, E7, E8, EO, EI⟩ hL hd K hK
     have d10 : L 10 = true := hd 10 (List.elem_iff.1 (by kernel_rfl))
     have hcl := HC.out.upd 11 (by intro d hd9; simp only [List.getD_cons_zero, List.getD_cons_succ, List.mem_cons, List.not_mem_nil, or_false] at hd9; rcases hd9 with rfl <;> assumption)
     have HCL := Lib.hid hcl
     clear hcl
     simp only [List.setIfInBounds_toArray, List.set_cons_zero, List.set_cons_succ]
     go_simp
     refine hK _ _ ⟨s22, s12, s13, s14, s15, s16, s17, s18, s19, s20, s21, s22, ?_, HI, HCL, E0.out, E1.out, E2.out, E3.out, E4.out, E5.out, E6.out, E7.out, E8.out, fun _ => rfl, fun h => (by cases h)⟩
     simp only [List.setIfInBounds_toArray, List.set_cons_zero, List.set_cons_succ]
   case hdone =>
    rintro L a' W9 hall ⟨s3, s12, s13, s14, s15, s16, s17, s18, s19, s20, s21, s22, rfl, HI, HC, E0, E1, E2, E3, E4, E5, E6, E7, E8, EO, EI⟩
    obtain ⟨hl9, ⟨g9, cap9, rfl⟩, hown9, hbel9⟩ := HI.out.done (hall 10 (by decide))
    obtain rfl := HI.out.ptr (hall 9 (by decide))
    have es := (E0.out (hall 0 (by decide))).symm
    subst es
    have es := (E1.out (hall 1 (by decide))).symm
    subst es
    have es := (E2.out (hall 2 (by decide))).symm
    subst es
    have es := (E3.out (hall 3 (by decide))).symm
    subst es
    have es := (E4.out (hall 4 (by decide))).symm
    subst es
    have es := (E5.out (hall 5 (by decide))).symm
    subst es
    have es := (E6.out (hall 6 (by decide))).symm
    subst es
    have es := (E7.out (hall 7 (by decide))).symm
    subst es
    have es := (E8.out (hall 8 (by decide))).symm
    subst es
    have es := (EO.out (hall 11 (by decide))).symm
    subst es
    simp only [List.setIfInBounds_toArray, List.set_cons_zero, List.set_cons_succ]
    rename_i Q' K hKK
    refine hKK _ _ ?_
    have HO9 := Lib.hid hown9
    have HB9 := Lib.hid hbel9
    clear hl9 hown9 hbel9 hKK hall HI HC E0 E1 E2 E3 E4 E5 E6 E7 E8 EO EI
    go_wp2_with fail
    go_roundw
    case rel => exact ⟨k + 1, by go_num, by omega, HBW.out.trans HB9.out, HO9⟩
    case measure => simp only [intOf]; omega
  ·obtain rfl : k = n := by omega
   have hltI : (k : Int) ≤ (k : Int) := Int.le_refl _
   go_wp2_with fail
   go_ret
   refine ⟨⟨_, rfl, ?_⟩, HBr.out⟩
   have h := HOw.out
   have e : L0.take k = L0 := by rw [HN.out, List.take_length]
   rw [e] at h
   exact h
end Go.Proofs.YtfdnhkjeoeffoaaGreatDoor
end

section

namespace Go.Proofs.YtfdnhkjeoeffoaaGreatDoor
open Go.RowKit
set_option linter.unusedVariables false
theorem by6_any (b : Nat) (w : World) (hb : b < 18446744073709551616) (hw : wholeOk b = false) (hf : fin b = true) (hE : ErrOk w) (hT : PowOk w) :
 Calls Tryz.prog 126 #[.float .f64 b, .string ⟨#[37, 46, 54, 103]⟩] w fun e w' => e = .returned (.tuple #[.string (convO b), .bool true]) ∧ Below w.heap.size w w' := by
 have hc : convO b = ⟨(padL false false 0 (signL false false (decide (9223372036854775808 ≤ b))) (genO b 5 false).data.toList).toArray⟩ := by unfold convO; rw [hw, hf]; rfl
 rw [hc]
 refine by_two ⟨#[37, 46, 54, 103]⟩ b false false false false false 0 6 103 _ w (by decide) (by decide) hE (by decide) parse_g6 (by kernel_rfl) (by decide) (fun W hW => ?_)
 refine (Number_g false false false false false 0 5 b W hb hf (by decide) (by decide) (by decide) (hT.below hW)).mono ?_
 rintro e w' ⟨rfl, hs, hbw⟩
 refine ⟨rfl, ?_, hbw⟩
 have h1 := padL_len false false 0 (signL false false (decide (9223372036854775808 ≤ b))) (genO b 5 false).data.toList
 have h2 := signL_len false false (decide (9223372036854775808 ≤ b))
 rw [sz_list] at hs
 have h3 : (0 : Int).toNat = 0 := rfl
 omega
set_option maxHeartbeats 4000000 in
set_option maxRecDepth 1000000 in
theorem by_nil (x : Nat) (w : World) : Calls Tryz.prog 126 #[.float .f64 x, .string ⟨#[]⟩] w fun e w' => e = .returned (.tuple #[.string ⟨#[]⟩, .bool false]) ∧ Below w.heap.size w w' := by
 go_enter Tryz.func126, Tryz.ntmps126
 go_wp2_with fail
 refine wp_loop_rounds 1 ?_
 rw [rounds_succ]
 have HB3 : Hid (Below w.heap.size w (w.alloc (.cells #[.pointer none, .slice none 0 0] 122))) := (Below.refl w.heap.size w).alloc (Nat.le_refl _) _
 have HBu3 : Hid (Lib.IsBuilder 122 5 w.heap.size w.heap.size (Lib.byteCells []) (w.alloc (.cells #[.pointer none, .slice none 0 0] 122))) := .inl ⟨Nat.le_refl _, .slice none 0 0, heap_alloc_at w _, World.ownsRow_nil .., by simp [Value.ownBlock]⟩
 go_wp2_with fail
 refine (Tryz.Builder_String_any w.heap.size w.heap.size [] _ HBu3.out (by simp)).mono ?_
 rintro e w4 ⟨rfl, hb4⟩
 have HB4 := Lib.hid (HB3.out.trans hb4)
 clear hb4
 go_wp2_with fail
 go_ret2
 exact ⟨rfl, HB4.out⟩
set_option maxHeartbeats 4000000 in
set_option maxRecDepth 1000000 in
theorem Conv_nil (b : Nat) (w : World) (hb : b < 18446744073709551616) (hE : ErrOk w) (hT : PowOk w) : Calls Tryz.prog 67 #[.float .f64 b, .string ⟨#[]⟩] w fun e w' => e = .returned (.string (convO b)) ∧ Below w.heap.size w w' := by
 cases hw : wholeOk b
 ·have HW := Lib.hid (fun W => Whole_no b W hb hw)
  have HP := Lib.hid (fun W => Parts_any b W hb)
  cases hf : fin b
  ·rw [hf] at HP
   have HC : Hid (convO b = oddO b) := by show _ = _; unfold convO; rw [hw, hf]; rfl
   have HOd := Lib.hid (fun W => odd_any b W)
   generalize oddO b = O at *
   rw [HC.out]
   clear HC hw hf
   go_enter Tryz.func67, Tryz.ntmps67
   go_wp2_with fail
   refine (HW.out _).mono ?_
   rintro e _ ⟨rfl, rfl⟩
   go_wp2_with fail
   refine (HP.out _).mono ?_
   rintro e _ ⟨rfl, rfl⟩
   go_wp2_with fail
   refine (HOd.out _).mono ?_
   rintro e _ ⟨rfl, rfl⟩
   go_wp2_with fail
   go_ret
   exact ⟨rfl, Below.refl _ _⟩
  ·rw [hf] at HP
   have HB0 := Lib.hid (by_nil b w)
   have HB : Hid (∀ W, Below w.heap.size w W → Calls Tryz.prog 126 #[.float .f64 b, .string ⟨#[37, 46, 54, 103]⟩] W fun e w' => e = .returned (.tuple #[.string (convO b), .bool true]) ∧ Below W.heap.size W w') := fun W h => by6_any b W hb hw hf (hE.below h) (hT.below h)
   generalize convO b = O at *
   clear hw hf hE hT
   go_enter Tryz.func67, Tryz.ntmps67
   go_wp2_with fail
   refine (HW.out _).mono ?_
   rintro e _ ⟨rfl, rfl⟩
   go_wp2_with fail
   refine (HP.out _).mono ?_
   rintro e _ ⟨rfl, rfl⟩
   go_wp2_with fail
   refine HB0.out.mono ?_
   rintro e w1 ⟨rfl, hb1⟩
   have HB1 := Lib.hid hb1
   clear hb1
   go_wp2_with fail
   refine (HB.out _ HB1.out).mono ?_
   rintro e w2 ⟨rfl, hb2⟩
   have HB2 := Lib.hid (HB1.out.trans (hb2.mono HB1.out.size))
   clear hb2
   go_wp2_with fail
   go_ret
   exact ⟨rfl, HB2.out⟩
 ·have HW : Hid (∀ W, Calls Tryz.prog 14 #[.float .f64 b] W fun e w' => e = .returned (.tuple #[.string (convO b), .bool true]) ∧ Below W.heap.size W w') := fun W => by
   refine (Whole_yes b W hb hw).mono ?_
   rintro e w' ⟨s, rfl, ⟨l, hc, hs⟩, hbw⟩
   have hO : convO b = s := by
    unfold convO
    rw [hw, dl_eq hc, ← hs]
    exact bytes_self s
   rw [hO]
   exact ⟨rfl, hbw⟩
  generalize convO b = O at *
  clear hw hE hT
  go_enter Tryz.func67, Tryz.ntmps67
  go_wp2_with fail
  refine (HW.out _).mono ?_
  rintro e w1 ⟨rfl, hb⟩
  have HBw := Lib.hid hb
  clear hb
  go_wp2_with fail
  go_ret
  exact ⟨rfl, HBw.out⟩
/-- a value as a string, by the empty pattern -/
theorem Str_nil (k : Int) (x : Nat) (s : ByteArray) (w : World) (hx : x < 18446744073709551616) (hE : ErrOk w) (hT : PowOk w) : Calls Tryz.prog 78 #[.agg (cellA k x s), .string ⟨#[]⟩] w fun e w' => e = .returned (.string (strC k x s)) ∧ Below w.heap.size w w' := by
 by_cases h1 : k = 1
 ·subst h1
  rw [show strC 1 x s = convO x from if_pos rfl]
  exact Str_num x s _ _ w (fun W hb => Conv_nil x W hx (hE.below hb) (hT.below hb))
 ·by_cases h2 : k = 2 ∨ k = 3
  ·rw [show strC k x s = s from by unfold strC; rw [if_neg h1, if_pos h2]]
   exact Str_str k x s _ w h2
  ·rw [show strC k x s = ⟨#[]⟩ from by unfold strC; rw [if_neg h1, if_neg h2]]
   have e1 : (k == 1) = false := by simp; omega
   have e2 : (k == 2) = false := by simp; omega
   have e3 : (k == 3) = false := by simp; omega
   clear h1 h2
   unfold cellA
   go_enter Tryz.func78, Tryz.ntmps78
   go_wp2_with fail
   go_ret
   exact ⟨rfl, (Below.refl _ _).alloc (Nat.le_refl _) _⟩
theorem convO_size {b : Nat} {w : World} (hb : b < 18446744073709551616) (hT : PowOk w) : (convO b).size ≤ 20000 := by
 unfold convO
 by_cases hw : wholeOk b = true
 ·rw [if_pos hw]
  have hf : fin b = true := by
   unfold wholeOk at hw
   rw [Bool.and_eq_true, decide_eq_true_eq] at hw
   have := hw.1
   unfold fin
   simp
   omega
  obtain ⟨l, hc, hl, _⟩ := fix_ok b 0 hb hf (by decide)
  have hc' : Canon l (scaledN b 0) := hc
  rw [dl_eq hc']
  split
  ·show (45 :: l).length ≤ _
   simp only [List.length_cons]; omega
  ·show l.length ≤ _
   omega
 ·rw [if_neg hw]
  by_cases hf : fin b = true
  ·rw [if_pos hf]
   have h0 := (bodyF_ok false 103 (q := 6) hb hf (by decide) hT).2
   have h1 := padL_len false false 0 (signL false false (decide (9223372036854775808 ≤ b))) (genO b 5 false).data.toList
   have h2 := signL_len false false (decide (9223372036854775808 ≤ b))
   have h3 : (0 : Int).toNat = 0 := rfl
   have h4 : bodyF false 103 6 b = genO b 5 false := rfl
   rw [h4, sz_list] at h0
   show (padL false false 0 (signL false false (decide (9223372036854775808 ≤ b))) (genO b 5 false).data.toList).length ≤ 20000
   omega
  ·rw [if_neg hf, odd_size]; decide
theorem strC_size {M : Nat} {k : Int} {x : Nat} {s : ByteArray} {w : World} (hM : 20000 ≤ M) (hx : x < 18446744073709551616) (hs : s.size ≤ M) (hT : PowOk w) : (strC k x s).size ≤ M := by
 unfold strC
 split
 ·have := convO_size hx hT; omega
 ·split
  ·exact hs
  ·show 0 ≤ _; omega
/-- a value as a string -/
noncomputable def sfC (c : CellT) : ByteArray := strC c.1 c.2.1 c.2.2
theorem cfit6 {M : Nat} {w0 : World} (hM : 20000 ≤ M) (hT : Tabs5 w0) {c : CellT} (h1 : c.2.1 < 18446744073709551616) (h2 : c.2.2.size ≤ M) : CFit M w0 ⟨#[37, 46, 54, 103]⟩ sfC c :=
 ⟨h1, h2, strC_size hM h1 h2 hT.pow, fun W hW => Str_all c.1 c.2.1 c.2.2 W h1 (hT.err.below hW) (hT.pow.below hW)⟩
theorem cfit0 {M : Nat} {w0 : World} (hM : 20000 ≤ M) (hT : Tabs5 w0) {c : CellT} (h1 : c.2.1 < 18446744073709551616) (h2 : c.2.2.size ≤ M) : CFit M w0 ⟨#[]⟩ sfC c :=
 ⟨h1, h2, strC_size hM h1 h2 hT.pow, fun W hW => Str_nil c.1 c.2.1 c.2.2 W h1 (hT.err.below hW) (hT.pow.below hW)⟩
end Go.Proofs.YtfdnhkjeoeffoaaGreatDoor
end
