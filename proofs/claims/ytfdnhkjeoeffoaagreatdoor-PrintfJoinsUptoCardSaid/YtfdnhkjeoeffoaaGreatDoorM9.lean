/- Several texts in one (I9, AW0, AW1, AW2). -/
import Derived.Test.YtfdnhkjeoeffoaaGreatDoorM8
import Derived.Test.YtfdnhkjeoeffoaaGreatDoorM7
import Derived.Test.YtfdnhkjeoeffoaaGreatDoorCards
import Derived.Test.YtfdnhkjeoeffoaaGreatDoorTie
import Derived.Test.YtfdnhkjeoeffoaaGreatDoorShelf
import Derived.WalkKit
import Derived.ProofKit
import Derived.OpenShut
import Derived.ShutString
import Derived.Deep.DeepHandedRow
import Derived.Deep.DeepLaidRun
import Derived.LaidSub
import Derived.Deep.DeepWitnessRowRef
import Derived.Lib.LaidU8
import Derived.Lib.LaidCaseMet
import Derived.Test.YtfdnhkjeoeffoaaGreatDoorM2
import Derived.Stop.LaidErr
import Derived.Test.YtfdnhkjeoeffoaaGreatDoorM6
section
/- Package printf: part. -/
namespace Go.Proofs.YtfdnhkjeoeffoaaGreatDoor
open Go.RowKit
set_option linter.unusedVariables false
theorem textS_size (m : Bool) (wd pr : Int) (vb : Nat) (s : ByteArray) (by_ : Bool) (hw : wd ≤ 1024) : (textS m wd pr vb s by_).size ≤ s.size + 1024 := by
 have h1 := cutS_size pr vb s by_
 unfold textS
 split
 ·have hb : (blanksB (wd - ((chars (cutS pr vb s by_) by_ 0).length : Nat)).toNat).size ≤ 1024 := by unfold blanksB; show (List.replicate _ _).length ≤ _; rw [List.length_replicate]; omega
  split
  ·rw [ByteArray.size_append]; omega
  ·rw [ByteArray.size_append]; omega
 ·show 0 ≤ _; omega
theorem okS_num_all : ((List.range 256).all fun vb => !(decide (0 ≤ ixB verbsB vb)) || (isNum vb || (vb == 37 || (vb == 99 || vb == 115)))) = true := by kernel_rfl
theorem okS_num {wd pr : Int} {vb : Nat} (hvb : vb < 256) (h : okS wd pr vb = true) (h1 : vb ≠ 37) (h2 : vb ≠ 99) (h3 : vb ≠ 115) : isNum vb = true := by
 have ha := List.all_eq_true.1 okS_num_all vb (List.mem_range.2 hvb)
 have hb : decide (0 ≤ ixB verbsB vb) = true := by
  unfold okS at h
  simp only [Bool.and_eq_true] at h
  exact h.1.1.1.1.2
 rw [hb] at ha
 have e1 : (vb == 37) = false := beq_eq_false_iff_ne.2 h1
 have e2 : (vb == 99) = false := beq_eq_false_iff_ne.2 h2
 have e3 : (vb == 115) = false := beq_eq_false_iff_ne.2 h3
 rw [e1, e2, e3] at ha
 simpa using ha
theorem own_lo {w : World} {B b : Nat} {cs : Array Value} {p v : Value} {bs : List Value} (h : InB w B b cs p v bs) : ∀ x ∈ b :: v.ownBlock.toList, B ≤ x := by
 intro x hx
 rcases List.mem_cons.1 hx with rfl | hx
 ·exact h.lo
 ·cases ho : v.ownBlock with
  | none => rw [ho] at hx; cases hx
  | some g =>
    rw [ho] at hx
    have : x = g := by simpa using hx
    subst this
    exact (h.own.lt x ho).1
/-- the pieces of others stay -/
def KeptP (b : Nat) (w w' : World) : Prop := ∀ x A, x ≠ b → PcAt w x A → PcAt w' x A
def Bw (w0 w : World) (b : Nat) (W : World) : Prop := Below w0.heap.size w0 W ∧ KeptP b w W
theorem Bw.old {w0 w W W' : World} {b : Nat} (h : Bw w0 w b W) (hb : Below W.heap.size W W') : Bw w0 w b W' := ⟨h.1.trans (hb.mono h.1.size), fun x A hx hp => (h.2 x A hx hp).below hb⟩
theorem Bw.wr {w0 w W W' : World} {b : Nat} (h : Bw w0 w b W) (hb : Below w0.heap.size W W') (hk : KeptP b W W') : Bw w0 w b W' := ⟨h.1.trans hb, fun x A hx hp => hk x A hx (h.2 x A hx hp)⟩
theorem Bw.apart {w0 w W W' : World} {b q : Nat} {S : List Nat} (h : Bw w0 w b W) (ha : Apart S W W') (hS : ∀ x ∈ S, x = b ∨ (x = q)) (hq : w.heap.size ≤ q) (hb : w0.heap.size ≤ b) (hw : w0.heap.size ≤ w.heap.size) : Bw w0 w b W' :=
 ⟨h.1.trans (ha.below h.1.size (fun x hx => by rcases hS x hx with rfl | rfl <;> omega)), fun x A hx hp => (h.2 x A hx hp).keep ha (fun hm => by
  have := hp.lt
  rcases hS x hm with rfl | rfl
  ·exact hx rfl
  ·omega)⟩
theorem writeByteL {w : World} {B b : Nat} {conv : ByteArray} {by_ : Bool} {L : List CellT} {out : List UInt8} (c : UInt8) (h : WrL w B b conv by_ L out) (hl : out.length ≤ 100000000) :
 Calls Tryz.prog 141 #[.pointer (some ⟨b, 3, none⟩), .int .u8 (c.toNat : Int)] w fun e w' => e = .returned .nilIface ∧ WrL w' B b conv by_ L (out ++ [c]) ∧ Below B w w' ∧ KeptP b w w' := by
 have hlt := h.lt
 obtain ⟨av, p, v, h1, h2⟩ := h
 refine (WriteByteE_any c.toNat c.toNat_lt h1 (by rw [Lib.byteCells_length]; omega) (by omega)).mono ?_
 rintro e w' ⟨rfl, v', h3, ha, _⟩
 have hb : Below B w w' := ha.below (by omega) (own_lo h1)
 have hk : KeptP b w w' := fun x A hx hp => hp.keep ha (fun hm => by
  rcases List.mem_cons.1 hm with rfl | hm
  ·exact hx rfl
  ·exact Lib.ownBlock_ne h1.own hp (by decide) (by simpa using hm))
 refine ⟨rfl, ⟨av, .pointer (some ⟨b, 3, none⟩), v', ?_, h2.keep fun b0 hb0 => hb.block b0 hb0⟩, hb, hk⟩
 have e : Lib.byteCells (out ++ [c]) = Lib.byteCells out ++ [.int .u8 (c.toNat : Int)] := by simp [Lib.byteCells]
 unfold Wr
 rw [e]
 exact h3
theorem writeStrL {w : World} {B b : Nat} {conv : ByteArray} {by_ : Bool} {L : List CellT} {out : List UInt8} (s : ByteArray) (h : WrL w B b conv by_ L out) (hs : out.length + s.size ≤ 140737488355328) :
 Calls Tryz.prog 88 #[.pointer (some ⟨b, 3, none⟩), .string s] w fun e w' => e = .returned (.tuple #[.int .i64 s.size, .nilIface]) ∧ WrL w' B b conv by_ L (out ++ s.data.toList) ∧ Below B w w' ∧ KeptP b w w' := by
 have hlt := h.lt
 obtain ⟨av, p, v, h1, h2⟩ := h
 refine (WriteStringE_any s h1 (by rw [Lib.byteCells_length]; omega) (by omega)).mono ?_
 rintro e w' ⟨rfl, v', h3, ha, _⟩
 have hb : Below B w w' := ha.below (by omega) (own_lo h1)
 have hk : KeptP b w w' := fun x A hx hp => hp.keep ha (fun hm => by
  rcases List.mem_cons.1 hm with rfl | hm
  ·exact hx rfl
  ·exact Lib.ownBlock_ne h1.own hp (by decide) (by simpa using hm))
 refine ⟨rfl, ⟨av, .pointer (some ⟨b, 3, none⟩), v', ?_, h2.keep fun b0 hb0 => hb.block b0 hb0⟩, hb, hk⟩
 have e : Lib.byteCells (out ++ s.data.toList) = Lib.byteCells out ++ Lib.strCells s := by rw [Lib.strCells_eq]; simp [Lib.byteCells]
 unfold Wr
 rw [e]
 exact h3
theorem WrL.cells {w : World} {B b : Nat} {conv : ByteArray} {by_ : Bool} {L : List CellT} {out : List UInt8} (h : WrL w B b conv by_ L out) : w.cell? ⟨b, 0, none⟩ = some (.string conv) ∧ w.cell? ⟨b, 1, none⟩ = some (.bool by_) := by
 obtain ⟨av, p, v, h1, h2⟩ := h
 exact ⟨Lib.cell_of_heap h1.heap 0, Lib.cell_of_heap h1.heap 1⟩
/-- what a part writes of a value, and the error -/
noncomputable def partO (sf : CellT → ByteArray) (by_ m p bl al z : Bool) (wd pr : Int) (vb : Nat) (c : CellT) : ByteArray × Int :=
 if vb = 99 then (textS m wd pr vb (codF c by_) by_, textE wd pr vb) else if vb = 115 then (textS m wd pr vb (sf c) by_, textE wd pr vb) else (numO m p bl al z wd pr vb (numT c), numE wd pr vb)
/-- a part: what it writes, and the values that are left; none: it is refused -/
noncomputable def partF (sf : CellT → ByteArray) (by_ m p bl al z : Bool) (wd pr : Int) (vb : Nat) (sw sp : Bool) (L : List CellT) : Option (List UInt8 × List CellT) :=
 match starsF sw sp m wd pr L with
 | none => none
 | some (m', wd', pr', L') => if okS wd' pr' vb = false then none else if vb = 37 then some ([37], L') else match L' with
   | [] => none
   | c :: L'' => if (partO sf by_ m' p bl al z wd' pr' vb c).2 = 0 then some ((partO sf by_ m' p bl al z wd' pr' vb c).1.data.toList, L'') else none
/-- Number keeps its contract at these verbs -/
def NumOk (NV : Nat → Prop) : Prop := ∀ (m p bl al z : Bool) (wd pr : Int) (vb b : Nat) (W : World), NV vb → vb < 256 → b < 18446744073709551616 → PowOk W →
 Calls Tryz.prog 24 #[.agg (specA m p bl al z wd pr vb), .float .f64 b] W fun e w' => e = .returned (.tuple #[.string (numO m p bl al z wd pr vb b), .int .i64 (numE wd pr vb)]) ∧ Below W.heap.size W w'
/-- what a value must be to be written -/
structure CFit (M : Nat) (w0 : World) (conv : ByteArray) (sf : CellT → ByteArray) (c : CellT) : Prop where
 bits : c.2.1 < 18446744073709551616
 size : c.2.2.size ≤ M
 ssize : (sf c).size ≤ M
 str : ∀ W, Below w0.heap.size w0 W → Calls Tryz.prog 78 #[.agg (agC c), .string conv] W fun e w' => e = .returned (.string (sf c)) ∧ Below W.heap.size W w'
theorem encode_size (n : Int) : (Utf8.encode n).size ≤ 4 := by
 unfold Utf8.encode
 simp only []
 repeat' split
 all_goals first | (show 1 ≤ 4; decide) | (show 2 ≤ 4; decide) | (show 3 ≤ 4; decide) | (show 4 ≤ 4; decide)
theorem codF_size {M : Nat} {c : CellT} {by_ : Bool} (h : c.2.2.size ≤ M) (hM : 4 ≤ M) (hx : c.2.1 < 18446744073709551616) : (codF c by_).size ≤ M := by
 unfold codF
 split
 ·unfold codN
  split
  ·unfold uTextF
   obtain ⟨_, i2, i3⟩ := codI_ok (trunc_lt hx)
   split
   ·show 1 ≤ _; omega
   ·split
    ·show 0 ≤ _; omega
    ·exact Nat.le_trans (encode_size _) hM
  ·show 1 ≤ _; omega
 ·rw [ByteArray.size_extract]; omega
set_option maxHeartbeats 16000000 in
set_option maxRecDepth 100000 in
theorem part_any {M : Nat} {NV : Nat → Prop} (hNum : NumOk NV) {w0 w : World} {b : Nat} {conv : ByteArray} {by_ : Bool} {L : List CellT} {out : List UInt8} (sf : CellT → ByteArray) (m p bl al z sw sp : Bool) (wd pr : Int) (vb : Nat) (VB nx : Int) (hvb : vb < 256) (hNV : isNum vb = true → NV vb) (hVB : VB = (vb : Int))
 (hT1 : PowOk w0) (hT2 : U8Ok w0) (hB : Below w0.heap.size w0 w) (h : WrL w w0.heap.size b conv by_ L out) (hC : ∀ c ∈ L, CFit M w0 conv sf c) (hZ : CFit M w0 conv sf (0, 0, ⟨#[]⟩)) (hM : 4 ≤ M) (hM2 : M ≤ 140737488351232) (hl : out.length ≤ 10000000) (hl2 : out.length + M + 1024 ≤ 140737488355328) :
 Calls Tryz.prog 89 #[.pointer (some ⟨b, 0, none⟩), .agg (pieceA m p bl al z wd pr VB sw sp nx)] w fun e w' => e = .returned (.bool (partF sf by_ m p bl al z wd pr vb sw sp L).isSome) ∧ Bw w0 w b w' ∧
  ∀ o L', partF sf by_ m p bl al z wd pr vb sw sp L = some (o, L') → WrL w' w0.heap.size b conv by_ L' (out ++ o) := by
 have hlt := h.lt
 obtain ⟨B, hBe⟩ : ∃ B, B = w0.heap.size := ⟨_, rfl⟩
 obtain ⟨q, hqe⟩ : ∃ q, q = w.heap.size := ⟨_, rfl⟩
 have hal : Below w.heap.size w (w.alloc (.cells (pieceA m p bl al z wd pr VB sw sp nx) 101)) := (Below.refl w.heap.size w).alloc (Nat.le_refl _) _
 have hq0 : PcAt (w.alloc (.cells (pieceA m p bl al z wd pr VB sw sp nx) 101)) w.heap.size (pieceA m p bl al z wd pr VB sw sp nx) := heap_alloc_at w _
 have hst := stars_any m p bl al z sw sp wd pr VB nx (h.below hal) hq0 (by omega) (by omega) (fun c hc => ⟨(hC c hc).bits, by have := (hC c hc).size; omega⟩)
 have HNumH := Lib.hid hNum
 have HNVH := Lib.hid hNV
 clear hNum hNV
 have hPF : ∀ x, partF sf by_ m p bl al z wd pr vb sw sp L = x → partF sf by_ m p bl al z wd pr vb sw sp L = x := fun _ h => h
 have HC := Lib.hid hC
 have HZ := Lib.hid hZ
 have HT1 := Lib.hid hT1
 have HT2 := Lib.hid hT2
 have hB0 : Bw w0 w b (w.alloc (.cells (pieceA m p bl al z wd pr VB sw sp nx) 101)) := Bw.old ⟨hB, fun x A _ hp => hp⟩ hal
 cases hS : starsF sw sp m wd pr L with
 | none =>
   have hp : partF sf by_ m p bl al z wd pr vb sw sp L = none := by unfold partF; rw [hS]
   rw [hp]
   have HSt : Hid (Calls Tryz.prog 140 #[.pointer (some ⟨b, 0, none⟩), .pointer (some ⟨w.heap.size, 0, none⟩)] (w.alloc (.cells (pieceA m p bl al z wd pr VB sw sp nx) 101)) fun e w' => e = .returned (.bool false) ∧ Bw w0 w b w') := hst.mono fun e w' hh => ⟨by rw [hh.1, hS]; rfl, hB0.apart hh.2.1 (q := w.heap.size) (fun x hx => by simpa using hx) (Nat.le_refl _) hlt.2 hB.size⟩
   unfold pieceA at *
   clear hst hq0 hal hB0 hS hp hPF hC hZ hT1 hT2 hVB
   go_enter Tryz.func89, Tryz.ntmps89
   go_wp2_with fail
   refine HSt.out.mono ?_
   rintro e w1 ⟨rfl, hb1⟩
   have HB1 := Lib.hid hb1
   clear hb1
   go_wp2_with fail
   go_ret
   exact ⟨rfl, HB1.out, fun o L' hh => by cases hh⟩
 | some st =>
   obtain ⟨m', wd', pr', L'⟩ := st
   have HSt : Hid (Calls Tryz.prog 140 #[.pointer (some ⟨b, 0, none⟩), .pointer (some ⟨w.heap.size, 0, none⟩)] (w.alloc (.cells (pieceA m p bl al z wd pr VB sw sp nx) 101)) fun e w' => e = .returned (.bool true) ∧ Bw w0 w b w' ∧ WrL w' w0.heap.size b conv by_ L' out ∧ PcAt w' w.heap.size (pieceA m' p bl al z wd' pr' VB sw sp nx)) := hst.mono fun e w' hh => ⟨by rw [hh.1, hS]; rfl, hB0.apart hh.2.1 (q := w.heap.size) (fun x hx => by simpa using hx) (Nat.le_refl _) hlt.2 hB.size, hh.2.2 m' wd' pr' L' hS⟩
   have hC' : ∀ c ∈ L', CFit M w0 conv sf c := fun c hc => hC c (starsF_sub hS c hc)
   unfold pieceA at *
   cases hok : okS wd' pr' vb
   ·have hp : partF sf by_ m p bl al z wd pr vb sw sp L = none := by unfold partF; rw [hS]; simp only []; rw [hok, if_pos rfl]
    rw [hp]
    have HCk := Lib.hid (fun W => Check_bad m' p bl al z wd' pr' vb W hok)
    unfold specA at HCk
    rw [← hVB] at HCk
    clear hst hq0 hal hB0 hS hp hPF hC hZ hT1 hT2 hok hC' hVB
    go_enter Tryz.func89, Tryz.ntmps89
    go_wp2_with fail
    refine HSt.out.mono ?_
    rintro e w1 ⟨rfl, hb1, hw1, hp1⟩
    have HB1 := Lib.hid hb1
    have HP1 := Lib.hid hp1
    have q0 : w1.cell? ⟨w.heap.size, 0, none⟩ = some (.bool m') := hp1.cell 0
    have q1 : w1.cell? ⟨w.heap.size, 1, none⟩ = some (.bool p) := hp1.cell 1
    have q2 : w1.cell? ⟨w.heap.size, 2, none⟩ = some (.bool bl) := hp1.cell 2
    have q3 : w1.cell? ⟨w.heap.size, 3, none⟩ = some (.bool al) := hp1.cell 3
    have q4 : w1.cell? ⟨w.heap.size, 4, none⟩ = some (.bool z) := hp1.cell 4
    have q5 : w1.cell? ⟨w.heap.size, 5, none⟩ = some (.int .i64 wd') := hp1.cell 5
    have q6 : w1.cell? ⟨w.heap.size, 6, none⟩ = some (.int .i64 pr') := hp1.cell 6
    have q7 : w1.cell? ⟨w.heap.size, 7, none⟩ = some (.int .u8 VB) := hp1.cell 7
    have q8 : w1.cell? ⟨w.heap.size, 8, none⟩ = some (.bool sw) := hp1.cell 8
    have q9 : w1.cell? ⟨w.heap.size, 9, none⟩ = some (.bool sp) := hp1.cell 9
    have q10 : w1.cell? ⟨w.heap.size, 10, none⟩ = some (.int .i64 nx) := hp1.cell 10
    clear hb1 hw1 hp1
    go_wp2_with fail
    refine (HCk.out _).mono ?_
    rintro e w2 ⟨rfl, hb2⟩
    have HB2 := Lib.hid (HB1.out.old hb2)
    clear hb2
    go_wp2_with fail
    go_ret
    exact ⟨rfl, HB2.out, fun o L' hh => by cases hh⟩
   ·have HCk := Lib.hid (fun W => Check_ok m' p bl al z wd' pr' vb W hok)
    unfold specA at HCk
    rw [← hVB] at HCk
    obtain ⟨o1, o2, o3, o4⟩ := okS_facts hok
    by_cases h37 : vb = 37
    ·have hp : partF sf by_ m p bl al z wd pr vb sw sp L = some ([37], L') := by unfold partF; rw [hS]; simp only []; rw [hok, if_neg Bool.noConfusion, if_pos h37]
     rw [hp]
     have hv : VB = 37 := by omega
     clear hVB
     subst hv
     clear hst hq0 hal hB0 hS hp hPF hC hZ hT1 hT2 hok hC'
     go_enter Tryz.func89, Tryz.ntmps89
     go_wp2_with fail
     refine HSt.out.mono ?_
     rintro e w1 ⟨rfl, hb1, hw1, hp1⟩
     have HB1 := Lib.hid hb1
     have HP1 := Lib.hid hp1
     have HW1 := Lib.hid hw1
     have q0 : w1.cell? ⟨w.heap.size, 0, none⟩ = some (.bool m') := hp1.cell 0
     have q1 : w1.cell? ⟨w.heap.size, 1, none⟩ = some (.bool p) := hp1.cell 1
     have q2 : w1.cell? ⟨w.heap.size, 2, none⟩ = some (.bool bl) := hp1.cell 2
     have q3 : w1.cell? ⟨w.heap.size, 3, none⟩ = some (.bool al) := hp1.cell 3
     have q4 : w1.cell? ⟨w.heap.size, 4, none⟩ = some (.bool z) := hp1.cell 4
     have q5 : w1.cell? ⟨w.heap.size, 5, none⟩ = some (.int .i64 wd') := hp1.cell 5
     have q6 : w1.cell? ⟨w.heap.size, 6, none⟩ = some (.int .i64 pr') := hp1.cell 6
     have q7 : w1.cell? ⟨w.heap.size, 7, none⟩ = some (.int .u8 37) := hp1.cell 7
     clear hb1 hw1 hp1
     go_wp2_with fail
     refine (HCk.out _).mono ?_
     rintro e w2 ⟨rfl, hb2⟩
     have hp2 := HP1.out.below hb2
     have HB2 := Lib.hid (HB1.out.old hb2)
     have hw2 := HW1.out.below hb2
     have hbz := hw2.lt.1
     have HWb : Hid (Calls Tryz.prog 141 #[.pointer (some ⟨b, 3, none⟩), .int .u8 37] w2 fun e w' => e = .returned .nilIface ∧ WrL w' w0.heap.size b conv by_ L' (out ++ [37]) ∧ Below w0.heap.size w2 w' ∧ KeptP b w2 w') := writeByteL 37 hw2 (by omega)
     clear q0 q1 q2 q3 q4 q5 q6 q7
     have q0 : w2.cell? ⟨w.heap.size, 0, none⟩ = some (.bool m') := hp2.cell 0
     have q1 : w2.cell? ⟨w.heap.size, 1, none⟩ = some (.bool p) := hp2.cell 1
     have q2 : w2.cell? ⟨w.heap.size, 2, none⟩ = some (.bool bl) := hp2.cell 2
     have q3 : w2.cell? ⟨w.heap.size, 3, none⟩ = some (.bool al) := hp2.cell 3
     have q4 : w2.cell? ⟨w.heap.size, 4, none⟩ = some (.bool z) := hp2.cell 4
     have q5 : w2.cell? ⟨w.heap.size, 5, none⟩ = some (.int .i64 wd') := hp2.cell 5
     have q6 : w2.cell? ⟨w.heap.size, 6, none⟩ = some (.int .i64 pr') := hp2.cell 6
     have q7 : w2.cell? ⟨w.heap.size, 7, none⟩ = some (.int .u8 37) := hp2.cell 7
     clear hb2 hp2 hw2
     go_wp2_with fail
     refine HWb.out.mono ?_
     rintro e w3 ⟨rfl, hw3, hb3, hk3⟩
     have HW3 := Lib.hid hw3
     have HB3 := Lib.hid (HB2.out.wr hb3 hk3)
     clear hw3 hb3 hk3
     go_wp2_with fail
     go_ret
     exact ⟨rfl, HB3.out, fun o Lr hh => by injection hh with hh; injection hh with h1 h2; subst h1 h2; exact HW3.out⟩
    ·have e37 : (VB == 37) = false := beq_eq_false_iff_ne.2 (by omega)
     obtain ⟨c, ok, Lr, hcf, hnx, hres⟩ : ∃ (c : CellT) (ok : Bool) (Lr : List CellT), CFit M w0 conv sf c ∧ (∀ W, WrL W w0.heap.size b conv by_ L' out → Calls Tryz.prog 142 #[.pointer (some ⟨b, 0, none⟩)] W fun e w' => e = .returned (.tuple #[.agg (agC c), .bool ok]) ∧ WrL w' w0.heap.size b conv by_ Lr out ∧ Apart [b] W w') ∧
      partF sf by_ m p bl al z wd pr vb sw sp L = (if ok = true ∧ (partO sf by_ m' p bl al z wd' pr' vb c).2 = 0 then some ((partO sf by_ m' p bl al z wd' pr' vb c).1.data.toList, Lr) else none) := by
      cases L' with
      | nil =>
        refine ⟨(0, 0, ⟨#[]⟩), false, [], hZ, fun W hW => (nextL_nil hW).mono fun e w' hh => ⟨hh.1, hW.below hh.2, Apart.of_below hh.2 [b]⟩, ?_⟩
        unfold partF; rw [hS]; simp only []; rw [hok, if_neg Bool.noConfusion, if_neg h37, if_neg (fun h => by cases h.1)]
      | cons c Lr =>
        refine ⟨c, true, Lr, hC' c List.mem_cons_self, fun W hW => nextL_cons hW, ?_⟩
        unfold partF; rw [hS]; simp only []; rw [hok, if_neg Bool.noConfusion, if_neg h37]
        by_cases h0 : (partO sf by_ m' p bl al z wd' pr' vb c).2 = 0
        ·rw [if_pos h0, if_pos ⟨by trivial, h0⟩]
        ·rw [if_neg h0, if_neg (fun h => h0 h.2)]
     have hHN : ∀ W, Bw w0 w b W → WrL W w0.heap.size b conv by_ L' out → PcAt W w.heap.size #[.bool m', .bool p, .bool bl, .bool al, .bool z, .int .i64 wd', .int .i64 pr', .int .u8 VB, .bool sw, .bool sp, .int .i64 nx] → Calls Tryz.prog 142 #[.pointer (some ⟨b, 0, none⟩)] W fun e w' => e = .returned (.tuple #[.agg (agC c), .bool ok]) ∧ Bw w0 w b w' ∧ WrL w' w0.heap.size b conv by_ Lr out ∧ PcAt w' w.heap.size #[.bool m', .bool p, .bool bl, .bool al, .bool z, .int .i64 wd', .int .i64 pr', .int .u8 VB, .bool sw, .bool sp, .int .i64 nx] := fun W h1 h2 h3 =>
      (hnx W h2).mono fun e w' hh => ⟨hh.1, h1.apart hh.2.2 (q := w.heap.size) (fun x hx => by simp at hx; exact .inl hx) (Nat.le_refl _) hlt.2 hB.size, hh.2.1, h3.keep hh.2.2 (fun hx => by simp at hx; omega)⟩
     have HNx := Lib.hid hHN
     have HStr := Lib.hid hcf.str
     have HLt : Hid (∀ W, U8Ok W → W.cell? ⟨b, 1, none⟩ = some (.bool by_) → Calls Tryz.prog 143 #[.pointer (some ⟨b, 0, none⟩), .agg (agC c)] W fun e w' => e = .returned (.string (codF c by_)) ∧ Below W.heap.size W w') := fun W h1 h2 => letter_any c by_ hcf.bits (by have := hcf.size; omega) h1 h2
     have HNm := Lib.hid (fun W => Num_all c.1 c.2.1 c.2.2 W (by have := hcf.size; omega))
     have hxT : numT c < 18446744073709551616 := numC_lt c.1 c.2.2 hcf.bits
     have hs1 := hcf.ssize
     have hs2 := codF_size (by_ := by_) hcf.size hM hcf.bits
     have HRes : Hid (partF sf by_ m p bl al z wd pr vb sw sp L = (if ok = true ∧ (partO sf by_ m' p bl al z wd' pr' vb c).2 = 0 then some ((partO sf by_ m' p bl al z wd' pr' vb c).1.data.toList, Lr) else none)) := hres
     have hnT : numC c.1 c.2.1 c.2.2 = numT c := rfl
     rw [hnT] at HNm
     obtain ⟨ck, cx, cs⟩ := c
     unfold agC at HNx HStr HLt
     unfold cellA at HNx HStr HLt HNm
     simp only [] at HNx HStr HLt HNm
     generalize partF sf by_ m p bl al z wd pr vb sw sp L = PF at *
     clear hst hq0 hal hS hPF hC hZ hC' hcf hnx hres hHN hnT
     by_cases h99 : vb = 99
     ·have hO : (partO sf by_ m' p bl al z wd' pr' vb (ck, cx, cs)) = (textS m' wd' pr' vb (codF (ck, cx, cs) by_) by_, 0) := by
       unfold partO; rw [if_pos h99]
       unfold textE; rw [if_pos ⟨hok, .inr h99⟩]
      rw [hO] at HRes
      have hsz := textS_size m' wd' pr' vb (codF (ck, cx, cs) by_) by_ o2
      have hFT := fun W (h : U8Ok W) => FText_any m' p bl al z wd' pr' vb (codF (ck, cx, cs) by_) by_ W (by omega) h
      have hte : textE wd' pr' vb = 0 := by unfold textE; rw [if_pos ⟨hok, .inr h99⟩]
      rw [hte] at hFT
      have HFT := Lib.hid hFT
      unfold specA at HFT
      rw [← hVB] at HFT
      have hv : VB = 99 := by omega
      clear hVB e37
      subst hv
      generalize textS m' wd' pr' vb (codF (ck, cx, cs) by_) by_ = S at *
      generalize codF (ck, cx, cs) by_ = Z at *
      clear hFT hte hO hok hxT hT1 hT2 hB0
      go_enter Tryz.func89, Tryz.ntmps89
      go_wp2_with fail
      refine HSt.out.mono ?_
      rintro e w1 ⟨rfl, hb1, hw1, hp1⟩
      have HB1 := Lib.hid hb1
      have HP1 := Lib.hid hp1
      have HW1 := Lib.hid hw1
      have q0 : w1.cell? ⟨w.heap.size, 0, none⟩ = some (.bool m') := hp1.cell 0
      have q1 : w1.cell? ⟨w.heap.size, 1, none⟩ = some (.bool p) := hp1.cell 1
      have q2 : w1.cell? ⟨w.heap.size, 2, none⟩ = some (.bool bl) := hp1.cell 2
      have q3 : w1.cell? ⟨w.heap.size, 3, none⟩ = some (.bool al) := hp1.cell 3
      have q4 : w1.cell? ⟨w.heap.size, 4, none⟩ = some (.bool z) := hp1.cell 4
      have q5 : w1.cell? ⟨w.heap.size, 5, none⟩ = some (.int .i64 wd') := hp1.cell 5
      have q6 : w1.cell? ⟨w.heap.size, 6, none⟩ = some (.int .i64 pr') := hp1.cell 6
      have q7 : w1.cell? ⟨w.heap.size, 7, none⟩ = some (.int .u8 99) := hp1.cell 7
      clear hb1 hw1 hp1
      go_wp2_with fail
      refine (HCk.out _).mono ?_
      rintro e w2 ⟨rfl, hb2⟩
      have hp2 := HP1.out.below hb2
      have HB2 := Lib.hid (HB1.out.old hb2)
      have hw2 := HW1.out.below hb2
      have hn2 := HNx.out w2 HB2.out hw2 hp2
      clear q0 q1 q2 q3 q4 q5 q6 q7
      have q0 : w2.cell? ⟨w.heap.size, 0, none⟩ = some (.bool m') := hp2.cell 0
      have q1 : w2.cell? ⟨w.heap.size, 1, none⟩ = some (.bool p) := hp2.cell 1
      have q2 : w2.cell? ⟨w.heap.size, 2, none⟩ = some (.bool bl) := hp2.cell 2
      have q3 : w2.cell? ⟨w.heap.size, 3, none⟩ = some (.bool al) := hp2.cell 3
      have q4 : w2.cell? ⟨w.heap.size, 4, none⟩ = some (.bool z) := hp2.cell 4
      have q5 : w2.cell? ⟨w.heap.size, 5, none⟩ = some (.int .i64 wd') := hp2.cell 5
      have q6 : w2.cell? ⟨w.heap.size, 6, none⟩ = some (.int .i64 pr') := hp2.cell 6
      have q7 : w2.cell? ⟨w.heap.size, 7, none⟩ = some (.int .u8 99) := hp2.cell 7
      clear hb2 hp2 hw2
      go_wp2_with fail
      refine hn2.mono ?_
      clear hn2 q0 q1 q2 q3 q4 q5 q6 q7
      rintro e w3 ⟨rfl, hb3, hw3, hp3⟩
      have hz3 : w.heap.size < w3.heap.size := hp3.lt
      have hbz3 : b < w3.heap.size := hw3.lt.1
      have q0 : w3.cell? ⟨w.heap.size, 0, none⟩ = some (.bool m') := hp3.cell 0
      have q1 : w3.cell? ⟨w.heap.size, 1, none⟩ = some (.bool p) := hp3.cell 1
      have q2 : w3.cell? ⟨w.heap.size, 2, none⟩ = some (.bool bl) := hp3.cell 2
      have q3 : w3.cell? ⟨w.heap.size, 3, none⟩ = some (.bool al) := hp3.cell 3
      have q4 : w3.cell? ⟨w.heap.size, 4, none⟩ = some (.bool z) := hp3.cell 4
      have q5 : w3.cell? ⟨w.heap.size, 5, none⟩ = some (.int .i64 wd') := hp3.cell 5
      have q6 : w3.cell? ⟨w.heap.size, 6, none⟩ = some (.int .i64 pr') := hp3.cell 6
      have q7 : w3.cell? ⟨w.heap.size, 7, none⟩ = some (.int .u8 99) := hp3.cell 7
      have hal3 := (Below.refl w3.heap.size w3).alloc (Nat.le_refl _) (.cells #[.int .i64 ck, .float .f64 cx, .string cs] 48)
      have HBV := Lib.hid (hb3.old hal3)
      have HWV := Lib.hid (hw3.below hal3)
      have HKV := Lib.hid (And.intro ((hal3.cell (p := ⟨b, 0, none⟩) hbz3).trans hw3.cells.1) (And.intro ((hal3.cell (p := ⟨b, 1, none⟩) hbz3).trans hw3.cells.2) (And.intro ((hal3.cell (p := ⟨w.heap.size, 0, none⟩) hz3).trans q0) (And.intro ((hal3.cell (p := ⟨w.heap.size, 1, none⟩) hz3).trans q1) (And.intro ((hal3.cell (p := ⟨w.heap.size, 2, none⟩) hz3).trans q2) (And.intro ((hal3.cell (p := ⟨w.heap.size, 3, none⟩) hz3).trans q3) (And.intro ((hal3.cell (p := ⟨w.heap.size, 4, none⟩) hz3).trans q4) (And.intro ((hal3.cell (p := ⟨w.heap.size, 5, none⟩) hz3).trans q5) (And.intro ((hal3.cell (p := ⟨w.heap.size, 6, none⟩) hz3).trans q6) ((hal3.cell (p := ⟨w.heap.size, 7, none⟩) hz3).trans q7))))))))))
      have d0 : (w3.alloc (.cells #[.int .i64 ck, .float .f64 cx, .string cs] 48)).cell? ⟨w3.heap.size, 0, none⟩ = some (.int .i64 ck) := by simp [go_sem]
      have d1 : (w3.alloc (.cells #[.int .i64 ck, .float .f64 cx, .string cs] 48)).cell? ⟨w3.heap.size, 1, none⟩ = some (.float .f64 cx) := by simp [go_sem]
      have d2 : (w3.alloc (.cells #[.int .i64 ck, .float .f64 cx, .string cs] 48)).cell? ⟨w3.heap.size, 2, none⟩ = some (.string cs) := by simp [go_sem]
      have HD := Lib.hid (And.intro d0 (And.intro d1 d2))
      clear hb3 hw3 hp3 hal3 d0 d1 d2
      go_wp2_with fail
      clear q0 q1 q2 q3 q4 q5 q6 q7
      have d0 := HD.out.1
      have d1 := HD.out.2.1
      have d2 := HD.out.2.2
      have g0 := HKV.out.1
      have g1 := HKV.out.2.1
      have q0 := HKV.out.2.2.1
      have q1 := HKV.out.2.2.2.1
      have q2 := HKV.out.2.2.2.2.1
      have q3 := HKV.out.2.2.2.2.2.1
      have q4 := HKV.out.2.2.2.2.2.2.1
      have q5 := HKV.out.2.2.2.2.2.2.2.1
      have q6 := HKV.out.2.2.2.2.2.2.2.2.1
      have q7 := HKV.out.2.2.2.2.2.2.2.2.2
      refine wp_region_guarded (by kernel_rfl) (by kernel_rfl) (fun a0 V0 L a W => ∃ u : Nat → Value, a = { tmps := ((((((((((((((((a0.tmps.setIfInBounds 45 (u 0)).setIfInBounds 46 (u 1)).setIfInBounds 47 (u 2)).setIfInBounds 48 (u 3)).setIfInBounds 49 (u 4)).setIfInBounds 50 (u 5)).setIfInBounds 51 (u 6)).setIfInBounds 52 (u 7)).setIfInBounds 53 (u 8)).setIfInBounds 54 (u 9)).setIfInBounds 55 (u 10)).setIfInBounds 44 (u 11)).setIfInBounds 56 (u 12)).setIfInBounds 57 (u 13)).setIfInBounds 7 (u 14)).setIfInBounds 8 (u 15)), defers := a0.defers } ∧ Hid (Below V0.heap.size V0 W) ∧ Hid (∀ i, L i = true → u i = valAt [.pointer (some ⟨w.heap.size, 0, none⟩), .agg #[.bool m', .bool p, .bool bl, .bool al, .bool z, .int .i64 wd', .int .i64 pr', .int .u8 99], .pointer (some ⟨b, 0, none⟩), .agg #[.int .i64 ck, .float .f64 cx, .string cs], .string Z, .pointer (some ⟨b, 0, none⟩), .pointer (some ⟨b, 0, none⟩), .pointer (some ⟨b, 0, none⟩), .pointer (some ⟨b, 1, none⟩), .bool by_, .tuple #[.string S, .int .i64 0], .tuple #[.string S, .int .i64 0], .string S, .int .i64 0, .string S, .int .i64 0] i)) ?h0 ?hstep ?hdone
      case h0 =>
       refine ⟨valAt [undef, undef, undef, undef, undef, undef, undef, undef, undef, undef, undef, undef, undef, undef, .string ⟨#[]⟩, .int .i64 0], ?_, (Below.refl _ _).drew, fun _ h => (by cases h)⟩
       kernel_rfl
      case hstep =>
       refine ⟨?o0, ?o1, ?o2, ?o3, ?o4, ?o5, ?o6, ?o7, ?o8, ?o9, ?o10, ?o11, ?o12, ?o13, ?o14, ?o15, trivial⟩
       case o0 =>
        rintro L a' W ⟨u, rfl, HI, E⟩ hL hd K hK
        simp only [List.setIfInBounds_toArray, List.set_cons_zero, List.set_cons_succ]
        refine ite_take rfl ?_
        clear hL hd
        go_simp
        refine hK _ _ ⟨withVal u 0 (.pointer (some ⟨w.heap.size, 0, none⟩)), ?_, HI, withVal_next E 0 _ rfl⟩
        kernel_rfl
       case o1 =>
        rintro L a' W ⟨u, rfl, HI, E⟩ hL hd K hK
        have e0 : u 0 = .pointer (some ⟨w.heap.size, 0, none⟩) := E.out 0 (hd 0 (List.elem_iff.1 (by kernel_rfl)))
        have kq0 := cellNext HI.out q0
        have kq1 := cellNext HI.out q1
        have kq2 := cellNext HI.out q2
        have kq3 := cellNext HI.out q3
        have kq4 := cellNext HI.out q4
        have kq5 := cellNext HI.out q5
        have kq6 := cellNext HI.out q6
        have kq7 := cellNext HI.out q7
        simp only [List.setIfInBounds_toArray, List.set_cons_zero, List.set_cons_succ, e0]
        refine ite_take rfl ?_
        clear hL hd
        go_simp
        refine hK _ _ ⟨withVal (withVal u 0 (.pointer (some ⟨w.heap.size, 0, none⟩))) 1 (.agg #[.bool m', .bool p, .bool bl, .bool al, .bool z, .int .i64 wd', .int .i64 pr', .int .u8 99]), ?_, HI, withVal_next (withVal_same E 0 _ rfl) 1 _ rfl⟩
        kernel_rfl
       case o2 =>
        rintro L a' W ⟨u, rfl, HI, E⟩ hL hd K hK
        simp only [List.setIfInBounds_toArray, List.set_cons_zero, List.set_cons_succ]
        refine ite_take rfl ?_
        clear hL hd
        go_simp
        refine hK _ _ ⟨withVal u 2 (.pointer (some ⟨b, 0, none⟩)), ?_, HI, withVal_next E 2 _ rfl⟩
        kernel_rfl
       case o3 =>
        rintro L a' W ⟨u, rfl, HI, E⟩ hL hd K hK
        have kd0 := cellNext HI.out d0
        have kd1 := cellNext HI.out d1
        have kd2 := cellNext HI.out d2
        simp only [List.setIfInBounds_toArray, List.set_cons_zero, List.set_cons_succ]
        refine ite_take rfl ?_
        clear hL hd
        go_simp
        refine hK _ _ ⟨withVal u 3 (.agg #[.int .i64 ck, .float .f64 cx, .string cs]), ?_, HI, withVal_next E 3 _ rfl⟩
        kernel_rfl
       case o4 =>
        rintro L a' W ⟨u, rfl, HI, E⟩ hL hd K hK
        have e2 : u 2 = .pointer (some ⟨b, 0, none⟩) := E.out 2 (hd 2 (List.elem_iff.1 (by kernel_rfl)))
        have e3 : u 3 = .agg #[.int .i64 ck, .float .f64 cx, .string cs] := E.out 3 (hd 3 (List.elem_iff.1 (by kernel_rfl)))
        have kg1 := cellNext HI.out g1
        simp only [List.setIfInBounds_toArray, List.set_cons_zero, List.set_cons_succ, e2, e3]
        refine ite_take rfl ?_
        clear hL hd
        go_simp
        refine (HLt.out W (HT2.out.below (HBV.out.old HI.out).1) kg1).mono ?_
        rintro e W' ⟨rfl, hb⟩
        refine hK _ _ ⟨withVal (withVal (withVal u 2 (.pointer (some ⟨b, 0, none⟩))) 3 (.agg #[.int .i64 ck, .float .f64 cx, .string cs])) 4 (.string Z), ?_, HI.out.trans (hb.mono HI.out.size), withVal_next (withVal_same (withVal_same E 2 _ rfl) 3 _ rfl) 4 _ rfl⟩
        kernel_rfl
       case o5 =>
        rintro L a' W ⟨u, rfl, HI, E⟩ hL hd K hK
        simp only [List.setIfInBounds_toArray, List.set_cons_zero, List.set_cons_succ]
        refine ite_take rfl ?_
        clear hL hd
        go_simp
        refine hK _ _ ⟨withVal u 5 (.pointer (some ⟨b, 0, none⟩)), ?_, HI, withVal_next E 5 _ rfl⟩
        kernel_rfl
       case o6 =>
        rintro L a' W ⟨u, rfl, HI, E⟩ hL hd K hK
        have e5 : u 5 = .pointer (some ⟨b, 0, none⟩) := E.out 5 (hd 5 (List.elem_iff.1 (by kernel_rfl)))
        simp only [List.setIfInBounds_toArray, List.set_cons_zero, List.set_cons_succ, e5]
        refine ite_take rfl ?_
        clear hL hd
        go_simp
        refine hK _ _ ⟨withVal (withVal u 5 (.pointer (some ⟨b, 0, none⟩))) 6 (.pointer (some ⟨b, 0, none⟩)), ?_, HI, withVal_next (withVal_same E 5 _ rfl) 6 _ rfl⟩
        kernel_rfl
       case o7 =>
        rintro L a' W ⟨u, rfl, HI, E⟩ hL hd K hK
        have e6 : u 6 = .pointer (some ⟨b, 0, none⟩) := E.out 6 (hd 6 (List.elem_iff.1 (by kernel_rfl)))
        simp only [List.setIfInBounds_toArray, List.set_cons_zero, List.set_cons_succ, e6]
        refine ite_take rfl ?_
        clear hL hd
        go_simp
        refine hK _ _ ⟨withVal (withVal u 6 (.pointer (some ⟨b, 0, none⟩))) 7 (.pointer (some ⟨b, 0, none⟩)), ?_, HI, withVal_next (withVal_same E 6 _ rfl) 7 _ rfl⟩
        kernel_rfl
       case o8 =>
        rintro L a' W ⟨u, rfl, HI, E⟩ hL hd K hK
        have e7 : u 7 = .pointer (some ⟨b, 0, none⟩) := E.out 7 (hd 7 (List.elem_iff.1 (by kernel_rfl)))
        simp only [List.setIfInBounds_toArray, List.set_cons_zero, List.set_cons_succ, e7]
        refine ite_take rfl ?_
        clear hL hd
        go_simp
        refine hK _ _ ⟨withVal (withVal u 7 (.pointer (some ⟨b, 0, none⟩))) 8 (.pointer (some ⟨b, 1, none⟩)), ?_, HI, withVal_next (withVal_same E 7 _ rfl) 8 _ rfl⟩
        kernel_rfl
       case o9 =>
        rintro L a' W ⟨u, rfl, HI, E⟩ hL hd K hK
        have e8 : u 8 = .pointer (some ⟨b, 1, none⟩) := E.out 8 (hd 8 (List.elem_iff.1 (by kernel_rfl)))
        have kg1 := cellNext HI.out g1
        simp only [List.setIfInBounds_toArray, List.set_cons_zero, List.set_cons_succ, e8]
        refine ite_take rfl ?_
        clear hL hd
        go_simp
        refine hK _ _ ⟨withVal (withVal u 8 (.pointer (some ⟨b, 1, none⟩))) 9 (.bool by_), ?_, HI, withVal_next (withVal_same E 8 _ rfl) 9 _ rfl⟩
        kernel_rfl
       case o10 =>
        rintro L a' W ⟨u, rfl, HI, E⟩ hL hd K hK
        have e1 : u 1 = .agg #[.bool m', .bool p, .bool bl, .bool al, .bool z, .int .i64 wd', .int .i64 pr', .int .u8 99] := E.out 1 (hd 1 (List.elem_iff.1 (by kernel_rfl)))
        have e4 : u 4 = .string Z := E.out 4 (hd 4 (List.elem_iff.1 (by kernel_rfl)))
        have e9 : u 9 = .bool by_ := E.out 9 (hd 9 (List.elem_iff.1 (by kernel_rfl)))
        simp only [List.setIfInBounds_toArray, List.set_cons_zero, List.set_cons_succ, e1, e4, e9]
        refine ite_take rfl ?_
        clear hL hd
        go_simp
        refine (HFT.out W (HT2.out.below (HBV.out.old HI.out).1)).mono ?_
        rintro e W' ⟨rfl, hb⟩
        refine hK _ _ ⟨withVal (withVal (withVal (withVal u 1 (.agg #[.bool m', .bool p, .bool bl, .bool al, .bool z, .int .i64 wd', .int .i64 pr', .int .u8 99])) 4 (.string Z)) 9 (.bool by_)) 10 (.tuple #[.string S, .int .i64 0]), ?_, HI.out.trans (hb.mono HI.out.size), withVal_next (withVal_same (withVal_same (withVal_same E 1 _ rfl) 4 _ rfl) 9 _ rfl) 10 _ rfl⟩
        kernel_rfl
       case o11 =>
        rintro L a' W ⟨u, rfl, HI, E⟩ hL hd K hK
        have e10 : u 10 = .tuple #[.string S, .int .i64 0] := E.out 10 (hd 10 (List.elem_iff.1 (by kernel_rfl)))
        simp only [List.setIfInBounds_toArray, List.set_cons_zero, List.set_cons_succ, e10]
        refine ite_take rfl ?_
        clear hL hd
        go_simp
        refine hK _ _ ⟨withVal (withVal u 10 (.tuple #[.string S, .int .i64 0])) 11 (.tuple #[.string S, .int .i64 0]), ?_, HI, withVal_next (withVal_same E 10 _ rfl) 11 _ rfl⟩
        kernel_rfl
       case o12 =>
        rintro L a' W ⟨u, rfl, HI, E⟩ hL hd K hK
        have e11 : u 11 = .tuple #[.string S, .int .i64 0] := E.out 11 (hd 11 (List.elem_iff.1 (by kernel_rfl)))
        simp only [List.setIfInBounds_toArray, List.set_cons_zero, List.set_cons_succ, e11]
        refine ite_take rfl ?_
        clear hL hd
        go_simp
        refine hK _ _ ⟨withVal (withVal u 11 (.tuple #[.string S, .int .i64 0])) 12 (.string S), ?_, HI, withVal_next (withVal_same E 11 _ rfl) 12 _ rfl⟩
        kernel_rfl
       case o13 =>
        rintro L a' W ⟨u, rfl, HI, E⟩ hL hd K hK
        have e11 : u 11 = .tuple #[.string S, .int .i64 0] := E.out 11 (hd 11 (List.elem_iff.1 (by kernel_rfl)))
        simp only [List.setIfInBounds_toArray, List.set_cons_zero, List.set_cons_succ, e11]
        refine ite_take rfl ?_
        clear hL hd
        go_simp
        refine hK _ _ ⟨withVal (withVal u 11 (.tuple #[.string S, .int .i64 0])) 13 (.int .i64 0), ?_, HI, withVal_next (withVal_same E 11 _ rfl) 13 _ rfl⟩
        kernel_rfl
       case o14 =>
        rintro L a' W ⟨u, rfl, HI, E⟩ hL hd K hK
        have e12 : u 12 = .string S := E.out 12 (hd 12 (List.elem_iff.1 (by kernel_rfl)))
        simp only [List.setIfInBounds_toArray, List.set_cons_zero, List.set_cons_succ, e12]
        refine ite_take rfl ?_
        clear hL hd
        go_simp
        refine hK _ _ ⟨withVal (withVal u 12 (.string S)) 14 (.string S), ?_, HI, withVal_next (withVal_same E 12 _ rfl) 14 _ rfl⟩
        kernel_rfl
       case o15 =>
        rintro L a' W ⟨u, rfl, HI, E⟩ hL hd K hK
        have e13 : u 13 = .int .i64 0 := E.out 13 (hd 13 (List.elem_iff.1 (by kernel_rfl)))
        simp only [List.setIfInBounds_toArray, List.set_cons_zero, List.set_cons_succ, e13]
        refine ite_take rfl ?_
        clear hL hd
        go_simp
        refine hK _ _ ⟨withVal (withVal u 13 (.int .i64 0)) 15 (.int .i64 0), ?_, HI, withVal_next (withVal_same E 13 _ rfl) 15 _ rfl⟩
        kernel_rfl
      case hdone =>
       rintro L a' W1 hall ⟨u, rfl, HI, E⟩
       have e0 : u 0 = .pointer (some ⟨w.heap.size, 0, none⟩) := E.out 0 (hall 0 (by decide))
       have e1 : u 1 = .agg #[.bool m', .bool p, .bool bl, .bool al, .bool z, .int .i64 wd', .int .i64 pr', .int .u8 99] := E.out 1 (hall 1 (by decide))
       have e2 : u 2 = .pointer (some ⟨b, 0, none⟩) := E.out 2 (hall 2 (by decide))
       have e3 : u 3 = .agg #[.int .i64 ck, .float .f64 cx, .string cs] := E.out 3 (hall 3 (by decide))
       have e4 : u 4 = .string Z := E.out 4 (hall 4 (by decide))
       have e5 : u 5 = .pointer (some ⟨b, 0, none⟩) := E.out 5 (hall 5 (by decide))
       have e6 : u 6 = .pointer (some ⟨b, 0, none⟩) := E.out 6 (hall 6 (by decide))
       have e7 : u 7 = .pointer (some ⟨b, 0, none⟩) := E.out 7 (hall 7 (by decide))
       have e8 : u 8 = .pointer (some ⟨b, 1, none⟩) := E.out 8 (hall 8 (by decide))
       have e9 : u 9 = .bool by_ := E.out 9 (hall 9 (by decide))
       have e10 : u 10 = .tuple #[.string S, .int .i64 0] := E.out 10 (hall 10 (by decide))
       have e11 : u 11 = .tuple #[.string S, .int .i64 0] := E.out 11 (hall 11 (by decide))
       have e12 : u 12 = .string S := E.out 12 (hall 12 (by decide))
       have e13 : u 13 = .int .i64 0 := E.out 13 (hall 13 (by decide))
       have e14 : u 14 = .string S := E.out 14 (hall 14 (by decide))
       have e15 : u 15 = .int .i64 0 := E.out 15 (hall 15 (by decide))
       simp only [List.setIfInBounds_toArray, List.set_cons_zero, List.set_cons_succ, e0, e1, e2, e3, e4, e5, e6, e7, e8, e9, e10, e11, e12, e13, e14, e15]
       clear hall E
       have HWS := Lib.hid (writeStrL S (HWV.out.below HI.out) (by omega))
       go_wp2_with fail
       refine HWS.out.mono ?_
       rintro e w5 ⟨rfl, hw5, hb5, hk5⟩
       have HW5 := Lib.hid hw5
       have HB5 := Lib.hid ((HBV.out.old HI.out).wr hb5 hk5)
       clear hw5 hb5 hk5
       cases ok
       ·have HRes2 : Hid (PF = none) := HRes.out.trans (if_neg (fun h => by cases h.1))
        clear HRes
        go_wp2_with fail
        go_ret
        exact ⟨by rw [HRes2.out]; rfl, HB5.out, fun o Lx hh => by rw [HRes2.out] at hh; cases hh⟩
       ·have HRes2 : Hid (PF = some (S.data.toList, Lr)) := HRes.out.trans (if_pos (by simp))
        clear HRes
        go_wp2_with fail
        go_ret
        exact ⟨by rw [HRes2.out]; rfl, HB5.out, fun o Lx hh => by rw [HRes2.out] at hh; injection hh with hh; injection hh with h1 h2; subst h1 h2; exact HW5.out⟩
     ·have e99 : (VB == 99) = false := beq_eq_false_iff_ne.2 (by omega)
      by_cases h115 : vb = 115
      ·have hO : (partO sf by_ m' p bl al z wd' pr' vb (ck, cx, cs)) = (textS m' wd' pr' vb (sf (ck, cx, cs)) by_, 0) := by
        unfold partO; rw [if_neg h99, if_pos h115]
        unfold textE; rw [if_pos ⟨hok, .inl h115⟩]
       rw [hO] at HRes
       have hsz := textS_size m' wd' pr' vb (sf (ck, cx, cs)) by_ o2
       have hFT := fun W (h : U8Ok W) => FText_any m' p bl al z wd' pr' vb (sf (ck, cx, cs)) by_ W (by omega) h
       have hte : textE wd' pr' vb = 0 := by unfold textE; rw [if_pos ⟨hok, .inl h115⟩]
       rw [hte] at hFT
       have HFT := Lib.hid hFT
       unfold specA at HFT
       rw [← hVB] at HFT
       have hv : VB = 115 := by omega
       clear hVB e37 e99
       subst hv
       generalize textS m' wd' pr' vb (sf (ck, cx, cs)) by_ = S at *
       generalize sf (ck, cx, cs) = Z at *
       clear hFT hte hO hok hxT hT1 hT2 hB0
       go_enter Tryz.func89, Tryz.ntmps89
       go_wp2_with fail
       refine HSt.out.mono ?_
       rintro e w1 ⟨rfl, hb1, hw1, hp1⟩
       have HB1 := Lib.hid hb1
       have HP1 := Lib.hid hp1
       have HW1 := Lib.hid hw1
       have q0 : w1.cell? ⟨w.heap.size, 0, none⟩ = some (.bool m') := hp1.cell 0
       have q1 : w1.cell? ⟨w.heap.size, 1, none⟩ = some (.bool p) := hp1.cell 1
       have q2 : w1.cell? ⟨w.heap.size, 2, none⟩ = some (.bool bl) := hp1.cell 2
       have q3 : w1.cell? ⟨w.heap.size, 3, none⟩ = some (.bool al) := hp1.cell 3
       have q4 : w1.cell? ⟨w.heap.size, 4, none⟩ = some (.bool z) := hp1.cell 4
       have q5 : w1.cell? ⟨w.heap.size, 5, none⟩ = some (.int .i64 wd') := hp1.cell 5
       have q6 : w1.cell? ⟨w.heap.size, 6, none⟩ = some (.int .i64 pr') := hp1.cell 6
       have q7 : w1.cell? ⟨w.heap.size, 7, none⟩ = some (.int .u8 115) := hp1.cell 7
       clear hb1 hw1 hp1
       go_wp2_with fail
       refine (HCk.out _).mono ?_
       rintro e w2 ⟨rfl, hb2⟩
       have hp2 := HP1.out.below hb2
       have HB2 := Lib.hid (HB1.out.old hb2)
       have hw2 := HW1.out.below hb2
       have hn2 := HNx.out w2 HB2.out hw2 hp2
       clear q0 q1 q2 q3 q4 q5 q6 q7
       have q0 : w2.cell? ⟨w.heap.size, 0, none⟩ = some (.bool m') := hp2.cell 0
       have q1 : w2.cell? ⟨w.heap.size, 1, none⟩ = some (.bool p) := hp2.cell 1
       have q2 : w2.cell? ⟨w.heap.size, 2, none⟩ = some (.bool bl) := hp2.cell 2
       have q3 : w2.cell? ⟨w.heap.size, 3, none⟩ = some (.bool al) := hp2.cell 3
       have q4 : w2.cell? ⟨w.heap.size, 4, none⟩ = some (.bool z) := hp2.cell 4
       have q5 : w2.cell? ⟨w.heap.size, 5, none⟩ = some (.int .i64 wd') := hp2.cell 5
       have q6 : w2.cell? ⟨w.heap.size, 6, none⟩ = some (.int .i64 pr') := hp2.cell 6
       have q7 : w2.cell? ⟨w.heap.size, 7, none⟩ = some (.int .u8 115) := hp2.cell 7
       clear hb2 hp2 hw2
       go_wp2_with fail
       refine hn2.mono ?_
       clear hn2 q0 q1 q2 q3 q4 q5 q6 q7
       rintro e w3 ⟨rfl, hb3, hw3, hp3⟩
       have hz3 : w.heap.size < w3.heap.size := hp3.lt
       have hbz3 : b < w3.heap.size := hw3.lt.1
       have q0 : w3.cell? ⟨w.heap.size, 0, none⟩ = some (.bool m') := hp3.cell 0
       have q1 : w3.cell? ⟨w.heap.size, 1, none⟩ = some (.bool p) := hp3.cell 1
       have q2 : w3.cell? ⟨w.heap.size, 2, none⟩ = some (.bool bl) := hp3.cell 2
       have q3 : w3.cell? ⟨w.heap.size, 3, none⟩ = some (.bool al) := hp3.cell 3
       have q4 : w3.cell? ⟨w.heap.size, 4, none⟩ = some (.bool z) := hp3.cell 4
       have q5 : w3.cell? ⟨w.heap.size, 5, none⟩ = some (.int .i64 wd') := hp3.cell 5
       have q6 : w3.cell? ⟨w.heap.size, 6, none⟩ = some (.int .i64 pr') := hp3.cell 6
       have q7 : w3.cell? ⟨w.heap.size, 7, none⟩ = some (.int .u8 115) := hp3.cell 7
       have hal3 := (Below.refl w3.heap.size w3).alloc (Nat.le_refl _) (.cells #[.int .i64 ck, .float .f64 cx, .string cs] 48)
       have HBV := Lib.hid (hb3.old hal3)
       have HWV := Lib.hid (hw3.below hal3)
       have HKV := Lib.hid (And.intro ((hal3.cell (p := ⟨b, 0, none⟩) hbz3).trans hw3.cells.1) (And.intro ((hal3.cell (p := ⟨b, 1, none⟩) hbz3).trans hw3.cells.2) (And.intro ((hal3.cell (p := ⟨w.heap.size, 0, none⟩) hz3).trans q0) (And.intro ((hal3.cell (p := ⟨w.heap.size, 1, none⟩) hz3).trans q1) (And.intro ((hal3.cell (p := ⟨w.heap.size, 2, none⟩) hz3).trans q2) (And.intro ((hal3.cell (p := ⟨w.heap.size, 3, none⟩) hz3).trans q3) (And.intro ((hal3.cell (p := ⟨w.heap.size, 4, none⟩) hz3).trans q4) (And.intro ((hal3.cell (p := ⟨w.heap.size, 5, none⟩) hz3).trans q5) (And.intro ((hal3.cell (p := ⟨w.heap.size, 6, none⟩) hz3).trans q6) ((hal3.cell (p := ⟨w.heap.size, 7, none⟩) hz3).trans q7))))))))))
       have d0 : (w3.alloc (.cells #[.int .i64 ck, .float .f64 cx, .string cs] 48)).cell? ⟨w3.heap.size, 0, none⟩ = some (.int .i64 ck) := by simp [go_sem]
       have d1 : (w3.alloc (.cells #[.int .i64 ck, .float .f64 cx, .string cs] 48)).cell? ⟨w3.heap.size, 1, none⟩ = some (.float .f64 cx) := by simp [go_sem]
       have d2 : (w3.alloc (.cells #[.int .i64 ck, .float .f64 cx, .string cs] 48)).cell? ⟨w3.heap.size, 2, none⟩ = some (.string cs) := by simp [go_sem]
       have HD := Lib.hid (And.intro d0 (And.intro d1 d2))
       clear hb3 hw3 hp3 hal3 d0 d1 d2
       go_wp2_with fail
       clear q0 q1 q2 q3 q4 q5 q6 q7
       have d0 := HD.out.1
       have d1 := HD.out.2.1
       have d2 := HD.out.2.2
       have g0 := HKV.out.1
       have g1 := HKV.out.2.1
       have q0 := HKV.out.2.2.1
       have q1 := HKV.out.2.2.2.1
       have q2 := HKV.out.2.2.2.2.1
       have q3 := HKV.out.2.2.2.2.2.1
       have q4 := HKV.out.2.2.2.2.2.2.1
       have q5 := HKV.out.2.2.2.2.2.2.2.1
       have q6 := HKV.out.2.2.2.2.2.2.2.2.1
       have q7 := HKV.out.2.2.2.2.2.2.2.2.2
       refine wp_region_guarded (by kernel_rfl) (by kernel_rfl) (fun a0 V0 L a W => ∃ u : Nat → Value, a = { tmps := ((((((((((((((((((((a0.tmps.setIfInBounds 61 (u 0)).setIfInBounds 62 (u 1)).setIfInBounds 63 (u 2)).setIfInBounds 64 (u 3)).setIfInBounds 65 (u 4)).setIfInBounds 66 (u 5)).setIfInBounds 67 (u 6)).setIfInBounds 68 (u 7)).setIfInBounds 69 (u 8)).setIfInBounds 70 (u 9)).setIfInBounds 71 (u 10)).setIfInBounds 72 (u 11)).setIfInBounds 73 (u 12)).setIfInBounds 74 (u 13)).setIfInBounds 75 (u 14)).setIfInBounds 60 (u 15)).setIfInBounds 76 (u 16)).setIfInBounds 77 (u 17)).setIfInBounds 7 (u 18)).setIfInBounds 8 (u 19)), defers := a0.defers } ∧ Hid (Below V0.heap.size V0 W) ∧ Hid (∀ i, L i = true → u i = valAt [.pointer (some ⟨w.heap.size, 0, none⟩), .agg #[.bool m', .bool p, .bool bl, .bool al, .bool z, .int .i64 wd', .int .i64 pr', .int .u8 115], .agg #[.int .i64 ck, .float .f64 cx, .string cs], .pointer (some ⟨b, 0, none⟩), .pointer (some ⟨b, 0, none⟩), .pointer (some ⟨b, 0, none⟩), .pointer (some ⟨b, 0, none⟩), .string conv, .string Z, .pointer (some ⟨b, 0, none⟩), .pointer (some ⟨b, 0, none⟩), .pointer (some ⟨b, 0, none⟩), .pointer (some ⟨b, 1, none⟩), .bool by_, .tuple #[.string S, .int .i64 0], .tuple #[.string S, .int .i64 0], .string S, .int .i64 0, .string S, .int .i64 0] i)) ?h0 ?hstep ?hdone
       case h0 =>
        refine ⟨valAt [undef, undef, undef, undef, undef, undef, undef, undef, undef, undef, undef, undef, undef, undef, undef, undef, undef, undef, .string ⟨#[]⟩, .int .i64 0], ?_, (Below.refl _ _).drew, fun _ h => (by cases h)⟩
        kernel_rfl
       case hstep =>
        refine ⟨?o0, ?o1, ?o2, ?o3, ?o4, ?o5, ?o6, ?o7, ?o8, ?o9, ?o10, ?o11, ?o12, ?o13, ?o14, ?o15, ?o16, ?o17, ?o18, ?o19, trivial⟩
        case o0 =>
         rintro L a' W ⟨u, rfl, HI, E⟩ hL hd K hK
         simp only [List.setIfInBounds_toArray, List.set_cons_zero, List.set_cons_succ]
         refine ite_take rfl ?_
         clear hL hd
         go_simp
         refine hK _ _ ⟨withVal u 0 (.pointer (some ⟨w.heap.size, 0, none⟩)), ?_, HI, withVal_next E 0 _ rfl⟩
         kernel_rfl
        case o1 =>
         rintro L a' W ⟨u, rfl, HI, E⟩ hL hd K hK
         have e0 : u 0 = .pointer (some ⟨w.heap.size, 0, none⟩) := E.out 0 (hd 0 (List.elem_iff.1 (by kernel_rfl)))
         have kq0 := cellNext HI.out q0
         have kq1 := cellNext HI.out q1
         have kq2 := cellNext HI.out q2
         have kq3 := cellNext HI.out q3
         have kq4 := cellNext HI.out q4
         have kq5 := cellNext HI.out q5
         have kq6 := cellNext HI.out q6
         have kq7 := cellNext HI.out q7
         simp only [List.setIfInBounds_toArray, List.set_cons_zero, List.set_cons_succ, e0]
         refine ite_take rfl ?_
         clear hL hd
         go_simp
         refine hK _ _ ⟨withVal (withVal u 0 (.pointer (some ⟨w.heap.size, 0, none⟩))) 1 (.agg #[.bool m', .bool p, .bool bl, .bool al, .bool z, .int .i64 wd', .int .i64 pr', .int .u8 115]), ?_, HI, withVal_next (withVal_same E 0 _ rfl) 1 _ rfl⟩
         kernel_rfl
        case o2 =>
         rintro L a' W ⟨u, rfl, HI, E⟩ hL hd K hK
         have kd0 := cellNext HI.out d0
         have kd1 := cellNext HI.out d1
         have kd2 := cellNext HI.out d2
         simp only [List.setIfInBounds_toArray, List.set_cons_zero, List.set_cons_succ]
         refine ite_take rfl ?_
         clear hL hd
         go_simp
         refine hK _ _ ⟨withVal u 2 (.agg #[.int .i64 ck, .float .f64 cx, .string cs]), ?_, HI, withVal_next E 2 _ rfl⟩
         kernel_rfl
        case o3 =>
         rintro L a' W ⟨u, rfl, HI, E⟩ hL hd K hK
         simp only [List.setIfInBounds_toArray, List.set_cons_zero, List.set_cons_succ]
         refine ite_take rfl ?_
         clear hL hd
         go_simp
         refine hK _ _ ⟨withVal u 3 (.pointer (some ⟨b, 0, none⟩)), ?_, HI, withVal_next E 3 _ rfl⟩
         kernel_rfl
        case o4 =>
         rintro L a' W ⟨u, rfl, HI, E⟩ hL hd K hK
         have e3 : u 3 = .pointer (some ⟨b, 0, none⟩) := E.out 3 (hd 3 (List.elem_iff.1 (by kernel_rfl)))
         simp only [List.setIfInBounds_toArray, List.set_cons_zero, List.set_cons_succ, e3]
         refine ite_take rfl ?_
         clear hL hd
         go_simp
         refine hK _ _ ⟨withVal (withVal u 3 (.pointer (some ⟨b, 0, none⟩))) 4 (.pointer (some ⟨b, 0, none⟩)), ?_, HI, withVal_next (withVal_same E 3 _ rfl) 4 _ rfl⟩
         kernel_rfl
        case o5 =>
         rintro L a' W ⟨u, rfl, HI, E⟩ hL hd K hK
         have e4 : u 4 = .pointer (some ⟨b, 0, none⟩) := E.out 4 (hd 4 (List.elem_iff.1 (by kernel_rfl)))
         simp only [List.setIfInBounds_toArray, List.set_cons_zero, List.set_cons_succ, e4]
         refine ite_take rfl ?_
         clear hL hd
         go_simp
         refine hK _ _ ⟨withVal (withVal u 4 (.pointer (some ⟨b, 0, none⟩))) 5 (.pointer (some ⟨b, 0, none⟩)), ?_, HI, withVal_next (withVal_same E 4 _ rfl) 5 _ rfl⟩
         kernel_rfl
        case o6 =>
         rintro L a' W ⟨u, rfl, HI, E⟩ hL hd K hK
         have e5 : u 5 = .pointer (some ⟨b, 0, none⟩) := E.out 5 (hd 5 (List.elem_iff.1 (by kernel_rfl)))
         simp only [List.setIfInBounds_toArray, List.set_cons_zero, List.set_cons_succ, e5]
         refine ite_take rfl ?_
         clear hL hd
         go_simp
         refine hK _ _ ⟨withVal (withVal u 5 (.pointer (some ⟨b, 0, none⟩))) 6 (.pointer (some ⟨b, 0, none⟩)), ?_, HI, withVal_next (withVal_same E 5 _ rfl) 6 _ rfl⟩
         kernel_rfl
        case o7 =>
         rintro L a' W ⟨u, rfl, HI, E⟩ hL hd K hK
         have e6 : u 6 = .pointer (some ⟨b, 0, none⟩) := E.out 6 (hd 6 (List.elem_iff.1 (by kernel_rfl)))
         have kg0 := cellNext HI.out g0
         simp only [List.setIfInBounds_toArray, List.set_cons_zero, List.set_cons_succ, e6]
         refine ite_take rfl ?_
         clear hL hd
         go_simp
         refine hK _ _ ⟨withVal (withVal u 6 (.pointer (some ⟨b, 0, none⟩))) 7 (.string conv), ?_, HI, withVal_next (withVal_same E 6 _ rfl) 7 _ rfl⟩
         kernel_rfl
        case o8 =>
         rintro L a' W ⟨u, rfl, HI, E⟩ hL hd K hK
         have e2 : u 2 = .agg #[.int .i64 ck, .float .f64 cx, .string cs] := E.out 2 (hd 2 (List.elem_iff.1 (by kernel_rfl)))
         have e7 : u 7 = .string conv := E.out 7 (hd 7 (List.elem_iff.1 (by kernel_rfl)))
         simp only [List.setIfInBounds_toArray, List.set_cons_zero, List.set_cons_succ, e2, e7]
         refine ite_take rfl ?_
         clear hL hd
         go_simp
         refine (HStr.out W (HBV.out.old HI.out).1).mono ?_
         rintro e W' ⟨rfl, hb⟩
         refine hK _ _ ⟨withVal (withVal (withVal u 2 (.agg #[.int .i64 ck, .float .f64 cx, .string cs])) 7 (.string conv)) 8 (.string Z), ?_, HI.out.trans (hb.mono HI.out.size), withVal_next (withVal_same (withVal_same E 2 _ rfl) 7 _ rfl) 8 _ rfl⟩
         kernel_rfl
        case o9 =>
         rintro L a' W ⟨u, rfl, HI, E⟩ hL hd K hK
         simp only [List.setIfInBounds_toArray, List.set_cons_zero, List.set_cons_succ]
         refine ite_take rfl ?_
         clear hL hd
         go_simp
         refine hK _ _ ⟨withVal u 9 (.pointer (some ⟨b, 0, none⟩)), ?_, HI, withVal_next E 9 _ rfl⟩
         kernel_rfl
        case o10 =>
         rintro L a' W ⟨u, rfl, HI, E⟩ hL hd K hK
         have e9 : u 9 = .pointer (some ⟨b, 0, none⟩) := E.out 9 (hd 9 (List.elem_iff.1 (by kernel_rfl)))
         simp only [List.setIfInBounds_toArray, List.set_cons_zero, List.set_cons_succ, e9]
         refine ite_take rfl ?_
         clear hL hd
         go_simp
         refine hK _ _ ⟨withVal (withVal u 9 (.pointer (some ⟨b, 0, none⟩))) 10 (.pointer (some ⟨b, 0, none⟩)), ?_, HI, withVal_next (withVal_same E 9 _ rfl) 10 _ rfl⟩
         kernel_rfl
        case o11 =>
         rintro L a' W ⟨u, rfl, HI, E⟩ hL hd K hK
         have e10 : u 10 = .pointer (some ⟨b, 0, none⟩) := E.out 10 (hd 10 (List.elem_iff.1 (by kernel_rfl)))
         simp only [List.setIfInBounds_toArray, List.set_cons_zero, List.set_cons_succ, e10]
         refine ite_take rfl ?_
         clear hL hd
         go_simp
         refine hK _ _ ⟨withVal (withVal u 10 (.pointer (some ⟨b, 0, none⟩))) 11 (.pointer (some ⟨b, 0, none⟩)), ?_, HI, withVal_next (withVal_same E 10 _ rfl) 11 _ rfl⟩
         kernel_rfl
        case o12 =>
         rintro L a' W ⟨u, rfl, HI, E⟩ hL hd K hK
         have e11 : u 11 = .pointer (some ⟨b, 0, none⟩) := E.out 11 (hd 11 (List.elem_iff.1 (by kernel_rfl)))
         simp only [List.setIfInBounds_toArray, List.set_cons_zero, List.set_cons_succ, e11]
         refine ite_take rfl ?_
         clear hL hd
         go_simp
         refine hK _ _ ⟨withVal (withVal u 11 (.pointer (some ⟨b, 0, none⟩))) 12 (.pointer (some ⟨b, 1, none⟩)), ?_, HI, withVal_next (withVal_same E 11 _ rfl) 12 _ rfl⟩
         kernel_rfl
        case o13 =>
         rintro L a' W ⟨u, rfl, HI, E⟩ hL hd K hK
         have e12 : u 12 = .pointer (some ⟨b, 1, none⟩) := E.out 12 (hd 12 (List.elem_iff.1 (by kernel_rfl)))
         have kg1 := cellNext HI.out g1
         simp only [List.setIfInBounds_toArray, List.set_cons_zero, List.set_cons_succ, e12]
         refine ite_take rfl ?_
         clear hL hd
         go_simp
         refine hK _ _ ⟨withVal (withVal u 12 (.pointer (some ⟨b, 1, none⟩))) 13 (.bool by_), ?_, HI, withVal_next (withVal_same E 12 _ rfl) 13 _ rfl⟩
         kernel_rfl
        case o14 =>
         rintro L a' W ⟨u, rfl, HI, E⟩ hL hd K hK
         have e1 : u 1 = .agg #[.bool m', .bool p, .bool bl, .bool al, .bool z, .int .i64 wd', .int .i64 pr', .int .u8 115] := E.out 1 (hd 1 (List.elem_iff.1 (by kernel_rfl)))
         have e8 : u 8 = .string Z := E.out 8 (hd 8 (List.elem_iff.1 (by kernel_rfl)))
         have e13 : u 13 = .bool by_ := E.out 13 (hd 13 (List.elem_iff.1 (by kernel_rfl)))
         simp only [List.setIfInBounds_toArray, List.set_cons_zero, List.set_cons_succ, e1, e8, e13]
         refine ite_take rfl ?_
         clear hL hd
         go_simp
         refine (HFT.out W (HT2.out.below (HBV.out.old HI.out).1)).mono ?_
         rintro e W' ⟨rfl, hb⟩
         refine hK _ _ ⟨withVal (withVal (withVal (withVal u 1 (.agg #[.bool m', .bool p, .bool bl, .bool al, .bool z, .int .i64 wd', .int .i64 pr', .int .u8 115])) 8 (.string Z)) 13 (.bool by_)) 14 (.tuple #[.string S, .int .i64 0]), ?_, HI.out.trans (hb.mono HI.out.size), withVal_next (withVal_same (withVal_same (withVal_same E 1 _ rfl) 8 _ rfl) 13 _ rfl) 14 _ rfl⟩
         kernel_rfl
        case o15 =>
         rintro L a' W ⟨u, rfl, HI, E⟩ hL hd K hK
         have e14 : u 14 = .tuple #[.string S, .int .i64 0] := E.out 14 (hd 14 (List.elem_iff.1 (by kernel_rfl)))
         simp only [List.setIfInBounds_toArray, List.set_cons_zero, List.set_cons_succ, e14]
         refine ite_take rfl ?_
         clear hL hd
         go_simp
         refine hK _ _ ⟨withVal (withVal u 14 (.tuple #[.string S, .int .i64 0])) 15 (.tuple #[.string S, .int .i64 0]), ?_, HI, withVal_next (withVal_same E 14 _ rfl) 15 _ rfl⟩
         kernel_rfl
        case o16 =>
         rintro L a' W ⟨u, rfl, HI, E⟩ hL hd K hK
         have e15 : u 15 = .tuple #[.string S, .int .i64 0] := E.out 15 (hd 15 (List.elem_iff.1 (by kernel_rfl)))
         simp only [List.setIfInBounds_toArray, List.set_cons_zero, List.set_cons_succ, e15]
         refine ite_take rfl ?_
         clear hL hd
         go_simp
         refine hK _ _ ⟨withVal (withVal u 15 (.tuple #[.string S, .int .i64 0])) 16 (.string S), ?_, HI, withVal_next (withVal_same E 15 _ rfl) 16 _ rfl⟩
         kernel_rfl
        case o17 =>
         rintro L a' W ⟨u, rfl, HI, E⟩ hL hd K hK
         have e15 : u 15 = .tuple #[.string S, .int .i64 0] := E.out 15 (hd 15 (List.elem_iff.1 (by kernel_rfl)))
         simp only [List.setIfInBounds_toArray, List.set_cons_zero, List.set_cons_succ, e15]
         refine ite_take rfl ?_
         clear hL hd
         go_simp
         refine hK _ _ ⟨withVal (withVal u 15 (.tuple #[.string S, .int .i64 0])) 17 (.int .i64 0), ?_, HI, withVal_next (withVal_same E 15 _ rfl) 17 _ rfl⟩
         kernel_rfl
        case o18 =>
         rintro L a' W ⟨u, rfl, HI, E⟩ hL hd K hK
         have e16 : u 16 = .string S := E.out 16 (hd 16 (List.elem_iff.1 (by kernel_rfl)))
         simp only [List.setIfInBounds_toArray, List.set_cons_zero, List.set_cons_succ, e16]
         refine ite_take rfl ?_
         clear hL hd
         go_simp
         refine hK _ _ ⟨withVal (withVal u 16 (.string S)) 18 (.string S), ?_, HI, withVal_next (withVal_same E 16 _ rfl) 18 _ rfl⟩
         kernel_rfl
        case o19 =>
         rintro L a' W ⟨u, rfl, HI, E⟩ hL hd K hK
         have e17 : u 17 = .int .i64 0 := E.out 17 (hd 17 (List.elem_iff.1 (by kernel_rfl)))
         simp only [List.setIfInBounds_toArray, List.set_cons_zero, List.set_cons_succ, e17]
         refine ite_take rfl ?_
         clear hL hd
         go_simp
         refine hK _ _ ⟨withVal (withVal u 17 (.int .i64 0)) 19 (.int .i64 0), ?_, HI, withVal_next (withVal_same E 17 _ rfl) 19 _ rfl⟩
         kernel_rfl
       case hdone =>
        rintro L a' W1 hall ⟨u, rfl, HI, E⟩
        have e0 : u 0 = .pointer (some ⟨w.heap.size, 0, none⟩) := E.out 0 (hall 0 (by decide))
        have e1 : u 1 = .agg #[.bool m', .bool p, .bool bl, .bool al, .bool z, .int .i64 wd', .int .i64 pr', .int .u8 115] := E.out 1 (hall 1 (by decide))
        have e2 : u 2 = .agg #[.int .i64 ck, .float .f64 cx, .string cs] := E.out 2 (hall 2 (by decide))
        have e3 : u 3 = .pointer (some ⟨b, 0, none⟩) := E.out 3 (hall 3 (by decide))
        have e4 : u 4 = .pointer (some ⟨b, 0, none⟩) := E.out 4 (hall 4 (by decide))
        have e5 : u 5 = .pointer (some ⟨b, 0, none⟩) := E.out 5 (hall 5 (by decide))
        have e6 : u 6 = .pointer (some ⟨b, 0, none⟩) := E.out 6 (hall 6 (by decide))
        have e7 : u 7 = .string conv := E.out 7 (hall 7 (by decide))
        have e8 : u 8 = .string Z := E.out 8 (hall 8 (by decide))
        have e9 : u 9 = .pointer (some ⟨b, 0, none⟩) := E.out 9 (hall 9 (by decide))
        have e10 : u 10 = .pointer (some ⟨b, 0, none⟩) := E.out 10 (hall 10 (by decide))
        have e11 : u 11 = .pointer (some ⟨b, 0, none⟩) := E.out 11 (hall 11 (by decide))
        have e12 : u 12 = .pointer (some ⟨b, 1, none⟩) := E.out 12 (hall 12 (by decide))
        have e13 : u 13 = .bool by_ := E.out 13 (hall 13 (by decide))
        have e14 : u 14 = .tuple #[.string S, .int .i64 0] := E.out 14 (hall 14 (by decide))
        have e15 : u 15 = .tuple #[.string S, .int .i64 0] := E.out 15 (hall 15 (by decide))
        have e16 : u 16 = .string S := E.out 16 (hall 16 (by decide))
        have e17 : u 17 = .int .i64 0 := E.out 17 (hall 17 (by decide))
        have e18 : u 18 = .string S := E.out 18 (hall 18 (by decide))
        have e19 : u 19 = .int .i64 0 := E.out 19 (hall 19 (by decide))
        simp only [List.setIfInBounds_toArray, List.set_cons_zero, List.set_cons_succ, e0, e1, e2, e3, e4, e5, e6, e7, e8, e9, e10, e11, e12, e13, e14, e15, e16, e17, e18, e19]
        clear hall E
        have HWS := Lib.hid (writeStrL S (HWV.out.below HI.out) (by omega))
        go_wp2_with fail
        refine HWS.out.mono ?_
        rintro e w5 ⟨rfl, hw5, hb5, hk5⟩
        have HW5 := Lib.hid hw5
        have HB5 := Lib.hid ((HBV.out.old HI.out).wr hb5 hk5)
        clear hw5 hb5 hk5
        cases ok
        ·have HRes2 : Hid (PF = none) := HRes.out.trans (if_neg (fun h => by cases h.1))
         clear HRes
         go_wp2_with fail
         go_ret
         exact ⟨by rw [HRes2.out]; rfl, HB5.out, fun o Lx hh => by rw [HRes2.out] at hh; cases hh⟩
        ·have HRes2 : Hid (PF = some (S.data.toList, Lr)) := HRes.out.trans (if_pos (by simp))
         clear HRes
         go_wp2_with fail
         go_ret
         exact ⟨by rw [HRes2.out]; rfl, HB5.out, fun o Lx hh => by rw [HRes2.out] at hh; injection hh with hh; injection hh with h1 h2; subst h1 h2; exact HW5.out⟩
      ·have e115 : (VB == 115) = false := beq_eq_false_iff_ne.2 (by omega)
       have hin := okS_num hvb hok h37 h99 h115
       have hnE : numE wd' pr' vb = 0 := by unfold numE; rw [if_pos ⟨hok, hin⟩]
       have hO : (partO sf by_ m' p bl al z wd' pr' vb (ck, cx, cs)) = (numO m' p bl al z wd' pr' vb (numT (ck, cx, cs)), 0) := by
        unfold partO; rw [if_neg h99, if_neg h115, hnE]
       rw [hO] at HRes
       have hsz := numO_size m' p bl al z wd' pr' vb (numT (ck, cx, cs)) w0 hxT hT1
       have hFT := fun W (h : PowOk W) => HNumH.out m' p bl al z wd' pr' vb (numT (ck, cx, cs)) W (HNVH.out hin) hvb hxT h
       rw [hnE] at hFT
       have HFT := Lib.hid hFT
       unfold specA at HFT
       rw [← hVB] at HFT
       generalize numO m' p bl al z wd' pr' vb (numT (ck, cx, cs)) = S at *
       generalize numT (ck, cx, cs) = X at *
       clear hFT hnE hO hok hxT hT1 hT2 hB0 hin hVB
       go_enter Tryz.func89, Tryz.ntmps89
       go_wp2_with fail
       refine HSt.out.mono ?_
       rintro e w1 ⟨rfl, hb1, hw1, hp1⟩
       have HB1 := Lib.hid hb1
       have HP1 := Lib.hid hp1
       have HW1 := Lib.hid hw1
       have q0 : w1.cell? ⟨w.heap.size, 0, none⟩ = some (.bool m') := hp1.cell 0
       have q1 : w1.cell? ⟨w.heap.size, 1, none⟩ = some (.bool p) := hp1.cell 1
       have q2 : w1.cell? ⟨w.heap.size, 2, none⟩ = some (.bool bl) := hp1.cell 2
       have q3 : w1.cell? ⟨w.heap.size, 3, none⟩ = some (.bool al) := hp1.cell 3
       have q4 : w1.cell? ⟨w.heap.size, 4, none⟩ = some (.bool z) := hp1.cell 4
       have q5 : w1.cell? ⟨w.heap.size, 5, none⟩ = some (.int .i64 wd') := hp1.cell 5
       have q6 : w1.cell? ⟨w.heap.size, 6, none⟩ = some (.int .i64 pr') := hp1.cell 6
       have q7 : w1.cell? ⟨w.heap.size, 7, none⟩ = some (.int .u8 VB) := hp1.cell 7
       clear hb1 hw1 hp1
       go_wp2_with fail
       refine (HCk.out _).mono ?_
       rintro e w2 ⟨rfl, hb2⟩
       have hp2 := HP1.out.below hb2
       have HB2 := Lib.hid (HB1.out.old hb2)
       have hw2 := HW1.out.below hb2
       have hn2 := HNx.out w2 HB2.out hw2 hp2
       clear q0 q1 q2 q3 q4 q5 q6 q7
       have q0 : w2.cell? ⟨w.heap.size, 0, none⟩ = some (.bool m') := hp2.cell 0
       have q1 : w2.cell? ⟨w.heap.size, 1, none⟩ = some (.bool p) := hp2.cell 1
       have q2 : w2.cell? ⟨w.heap.size, 2, none⟩ = some (.bool bl) := hp2.cell 2
       have q3 : w2.cell? ⟨w.heap.size, 3, none⟩ = some (.bool al) := hp2.cell 3
       have q4 : w2.cell? ⟨w.heap.size, 4, none⟩ = some (.bool z) := hp2.cell 4
       have q5 : w2.cell? ⟨w.heap.size, 5, none⟩ = some (.int .i64 wd') := hp2.cell 5
       have q6 : w2.cell? ⟨w.heap.size, 6, none⟩ = some (.int .i64 pr') := hp2.cell 6
       have q7 : w2.cell? ⟨w.heap.size, 7, none⟩ = some (.int .u8 VB) := hp2.cell 7
       clear hb2 hp2 hw2
       go_wp2_with fail
       refine hn2.mono ?_
       clear hn2 q0 q1 q2 q3 q4 q5 q6 q7
       rintro e w3 ⟨rfl, hb3, hw3, hp3⟩
       have hz3 : w.heap.size < w3.heap.size := hp3.lt
       have hbz3 : b < w3.heap.size := hw3.lt.1
       have q0 : w3.cell? ⟨w.heap.size, 0, none⟩ = some (.bool m') := hp3.cell 0
       have q1 : w3.cell? ⟨w.heap.size, 1, none⟩ = some (.bool p) := hp3.cell 1
       have q2 : w3.cell? ⟨w.heap.size, 2, none⟩ = some (.bool bl) := hp3.cell 2
       have q3 : w3.cell? ⟨w.heap.size, 3, none⟩ = some (.bool al) := hp3.cell 3
       have q4 : w3.cell? ⟨w.heap.size, 4, none⟩ = some (.bool z) := hp3.cell 4
       have q5 : w3.cell? ⟨w.heap.size, 5, none⟩ = some (.int .i64 wd') := hp3.cell 5
       have q6 : w3.cell? ⟨w.heap.size, 6, none⟩ = some (.int .i64 pr') := hp3.cell 6
       have q7 : w3.cell? ⟨w.heap.size, 7, none⟩ = some (.int .u8 VB) := hp3.cell 7
       have hal3 := (Below.refl w3.heap.size w3).alloc (Nat.le_refl _) (.cells #[.int .i64 ck, .float .f64 cx, .string cs] 48)
       have HBV := Lib.hid (hb3.old hal3)
       have HWV := Lib.hid (hw3.below hal3)
       have HKV := Lib.hid (And.intro ((hal3.cell (p := ⟨b, 0, none⟩) hbz3).trans hw3.cells.1) (And.intro ((hal3.cell (p := ⟨b, 1, none⟩) hbz3).trans hw3.cells.2) (And.intro ((hal3.cell (p := ⟨w.heap.size, 0, none⟩) hz3).trans q0) (And.intro ((hal3.cell (p := ⟨w.heap.size, 1, none⟩) hz3).trans q1) (And.intro ((hal3.cell (p := ⟨w.heap.size, 2, none⟩) hz3).trans q2) (And.intro ((hal3.cell (p := ⟨w.heap.size, 3, none⟩) hz3).trans q3) (And.intro ((hal3.cell (p := ⟨w.heap.size, 4, none⟩) hz3).trans q4) (And.intro ((hal3.cell (p := ⟨w.heap.size, 5, none⟩) hz3).trans q5) (And.intro ((hal3.cell (p := ⟨w.heap.size, 6, none⟩) hz3).trans q6) ((hal3.cell (p := ⟨w.heap.size, 7, none⟩) hz3).trans q7))))))))))
       have d0 : (w3.alloc (.cells #[.int .i64 ck, .float .f64 cx, .string cs] 48)).cell? ⟨w3.heap.size, 0, none⟩ = some (.int .i64 ck) := by simp [go_sem]
       have d1 : (w3.alloc (.cells #[.int .i64 ck, .float .f64 cx, .string cs] 48)).cell? ⟨w3.heap.size, 1, none⟩ = some (.float .f64 cx) := by simp [go_sem]
       have d2 : (w3.alloc (.cells #[.int .i64 ck, .float .f64 cx, .string cs] 48)).cell? ⟨w3.heap.size, 2, none⟩ = some (.string cs) := by simp [go_sem]
       have HD := Lib.hid (And.intro d0 (And.intro d1 d2))
       clear hb3 hw3 hp3 hal3 d0 d1 d2
       go_wp2_with fail
       clear q0 q1 q2 q3 q4 q5 q6 q7
       have d0 := HD.out.1
       have d1 := HD.out.2.1
       have d2 := HD.out.2.2
       have g0 := HKV.out.1
       have g1 := HKV.out.2.1
       have q0 := HKV.out.2.2.1
       have q1 := HKV.out.2.2.2.1
       have q2 := HKV.out.2.2.2.2.1
       have q3 := HKV.out.2.2.2.2.2.1
       have q4 := HKV.out.2.2.2.2.2.2.1
       have q5 := HKV.out.2.2.2.2.2.2.2.1
       have q6 := HKV.out.2.2.2.2.2.2.2.2.1
       have q7 := HKV.out.2.2.2.2.2.2.2.2.2
       refine wp_region_guarded (by kernel_rfl) (by kernel_rfl) (fun a0 V0 L a W => ∃ u : Nat → Value, a = { tmps := ((((((((((a0.tmps.setIfInBounds 35 (u 0)).setIfInBounds 36 (u 1)).setIfInBounds 37 (u 2)).setIfInBounds 38 (u 3)).setIfInBounds 39 (u 4)).setIfInBounds 34 (u 5)).setIfInBounds 40 (u 6)).setIfInBounds 41 (u 7)).setIfInBounds 7 (u 8)).setIfInBounds 8 (u 9)), defers := a0.defers } ∧ Hid (Below V0.heap.size V0 W) ∧ Hid (∀ i, L i = true → u i = valAt [.pointer (some ⟨w.heap.size, 0, none⟩), .agg #[.bool m', .bool p, .bool bl, .bool al, .bool z, .int .i64 wd', .int .i64 pr', .int .u8 VB], .agg #[.int .i64 ck, .float .f64 cx, .string cs], .float .f64 X, .tuple #[.string S, .int .i64 0], .tuple #[.string S, .int .i64 0], .string S, .int .i64 0, .string S, .int .i64 0] i)) ?h0 ?hstep ?hdone
       case h0 =>
        refine ⟨valAt [undef, undef, undef, undef, undef, undef, undef, undef, .string ⟨#[]⟩, .int .i64 0], ?_, (Below.refl _ _).drew, fun _ h => (by cases h)⟩
        kernel_rfl
       case hstep =>
        refine ⟨?o0, ?o1, ?o2, ?o3, ?o4, ?o5, ?o6, ?o7, ?o8, ?o9, trivial⟩
        case o0 =>
         rintro L a' W ⟨u, rfl, HI, E⟩ hL hd K hK
         simp only [List.setIfInBounds_toArray, List.set_cons_zero, List.set_cons_succ]
         refine ite_take rfl ?_
         clear hL hd
         go_simp
         refine hK _ _ ⟨withVal u 0 (.pointer (some ⟨w.heap.size, 0, none⟩)), ?_, HI, withVal_next E 0 _ rfl⟩
         kernel_rfl
        case o1 =>
         rintro L a' W ⟨u, rfl, HI, E⟩ hL hd K hK
         have e0 : u 0 = .pointer (some ⟨w.heap.size, 0, none⟩) := E.out 0 (hd 0 (List.elem_iff.1 (by kernel_rfl)))
         have kq0 := cellNext HI.out q0
         have kq1 := cellNext HI.out q1
         have kq2 := cellNext HI.out q2
         have kq3 := cellNext HI.out q3
         have kq4 := cellNext HI.out q4
         have kq5 := cellNext HI.out q5
         have kq6 := cellNext HI.out q6
         have kq7 := cellNext HI.out q7
         simp only [List.setIfInBounds_toArray, List.set_cons_zero, List.set_cons_succ, e0]
         refine ite_take rfl ?_
         clear hL hd
         go_simp
         refine hK _ _ ⟨withVal (withVal u 0 (.pointer (some ⟨w.heap.size, 0, none⟩))) 1 (.agg #[.bool m', .bool p, .bool bl, .bool al, .bool z, .int .i64 wd', .int .i64 pr', .int .u8 VB]), ?_, HI, withVal_next (withVal_same E 0 _ rfl) 1 _ rfl⟩
         kernel_rfl
        case o2 =>
         rintro L a' W ⟨u, rfl, HI, E⟩ hL hd K hK
         have kd0 := cellNext HI.out d0
         have kd1 := cellNext HI.out d1
         have kd2 := cellNext HI.out d2
         simp only [List.setIfInBounds_toArray, List.set_cons_zero, List.set_cons_succ]
         refine ite_take rfl ?_
         clear hL hd
         go_simp
         refine hK _ _ ⟨withVal u 2 (.agg #[.int .i64 ck, .float .f64 cx, .string cs]), ?_, HI, withVal_next E 2 _ rfl⟩
         kernel_rfl
        case o3 =>
         rintro L a' W ⟨u, rfl, HI, E⟩ hL hd K hK
         have e2 : u 2 = .agg #[.int .i64 ck, .float .f64 cx, .string cs] := E.out 2 (hd 2 (List.elem_iff.1 (by kernel_rfl)))
         simp only [List.setIfInBounds_toArray, List.set_cons_zero, List.set_cons_succ, e2]
         refine ite_take rfl ?_
         clear hL hd
         go_simp
         refine (HNm.out W).mono ?_
         rintro e W' ⟨rfl, hb⟩
         refine hK _ _ ⟨withVal (withVal u 2 (.agg #[.int .i64 ck, .float .f64 cx, .string cs])) 3 (.float .f64 X), ?_, HI.out.trans (hb.mono HI.out.size), withVal_next (withVal_same E 2 _ rfl) 3 _ rfl⟩
         kernel_rfl
        case o4 =>
         rintro L a' W ⟨u, rfl, HI, E⟩ hL hd K hK
         have e1 : u 1 = .agg #[.bool m', .bool p, .bool bl, .bool al, .bool z, .int .i64 wd', .int .i64 pr', .int .u8 VB] := E.out 1 (hd 1 (List.elem_iff.1 (by kernel_rfl)))
         have e3 : u 3 = .float .f64 X := E.out 3 (hd 3 (List.elem_iff.1 (by kernel_rfl)))
         simp only [List.setIfInBounds_toArray, List.set_cons_zero, List.set_cons_succ, e1, e3]
         refine ite_take rfl ?_
         clear hL hd
         go_simp
         refine (HFT.out W (HT1.out.below (HBV.out.old HI.out).1)).mono ?_
         rintro e W' ⟨rfl, hb⟩
         refine hK _ _ ⟨withVal (withVal (withVal u 1 (.agg #[.bool m', .bool p, .bool bl, .bool al, .bool z, .int .i64 wd', .int .i64 pr', .int .u8 VB])) 3 (.float .f64 X)) 4 (.tuple #[.string S, .int .i64 0]), ?_, HI.out.trans (hb.mono HI.out.size), withVal_next (withVal_same (withVal_same E 1 _ rfl) 3 _ rfl) 4 _ rfl⟩
         kernel_rfl
        case o5 =>
         rintro L a' W ⟨u, rfl, HI, E⟩ hL hd K hK
         have e4 : u 4 = .tuple #[.string S, .int .i64 0] := E.out 4 (hd 4 (List.elem_iff.1 (by kernel_rfl)))
         simp only [List.setIfInBounds_toArray, List.set_cons_zero, List.set_cons_succ, e4]
         refine ite_take rfl ?_
         clear hL hd
         go_simp
         refine hK _ _ ⟨withVal (withVal u 4 (.tuple #[.string S, .int .i64 0])) 5 (.tuple #[.string S, .int .i64 0]), ?_, HI, withVal_next (withVal_same E 4 _ rfl) 5 _ rfl⟩
         kernel_rfl
        case o6 =>
         rintro L a' W ⟨u, rfl, HI, E⟩ hL hd K hK
         have e5 : u 5 = .tuple #[.string S, .int .i64 0] := E.out 5 (hd 5 (List.elem_iff.1 (by kernel_rfl)))
         simp only [List.setIfInBounds_toArray, List.set_cons_zero, List.set_cons_succ, e5]
         refine ite_take rfl ?_
         clear hL hd
         go_simp
         refine hK _ _ ⟨withVal (withVal u 5 (.tuple #[.string S, .int .i64 0])) 6 (.string S), ?_, HI, withVal_next (withVal_same E 5 _ rfl) 6 _ rfl⟩
         kernel_rfl
        case o7 =>
         rintro L a' W ⟨u, rfl, HI, E⟩ hL hd K hK
         have e5 : u 5 = .tuple #[.string S, .int .i64 0] := E.out 5 (hd 5 (List.elem_iff.1 (by kernel_rfl)))
         simp only [List.setIfInBounds_toArray, List.set_cons_zero, List.set_cons_succ, e5]
         refine ite_take rfl ?_
         clear hL hd
         go_simp
         refine hK _ _ ⟨withVal (withVal u 5 (.tuple #[.string S, .int .i64 0])) 7 (.int .i64 0), ?_, HI, withVal_next (withVal_same E 5 _ rfl) 7 _ rfl⟩
         kernel_rfl
        case o8 =>
         rintro L a' W ⟨u, rfl, HI, E⟩ hL hd K hK
         have e6 : u 6 = .string S := E.out 6 (hd 6 (List.elem_iff.1 (by kernel_rfl)))
         simp only [List.setIfInBounds_toArray, List.set_cons_zero, List.set_cons_succ, e6]
         refine ite_take rfl ?_
         clear hL hd
         go_simp
         refine hK _ _ ⟨withVal (withVal u 6 (.string S)) 8 (.string S), ?_, HI, withVal_next (withVal_same E 6 _ rfl) 8 _ rfl⟩
         kernel_rfl
        case o9 =>
         rintro L a' W ⟨u, rfl, HI, E⟩ hL hd K hK
         have e7 : u 7 = .int .i64 0 := E.out 7 (hd 7 (List.elem_iff.1 (by kernel_rfl)))
         simp only [List.setIfInBounds_toArray, List.set_cons_zero, List.set_cons_succ, e7]
         refine ite_take rfl ?_
         clear hL hd
         go_simp
         refine hK _ _ ⟨withVal (withVal u 7 (.int .i64 0)) 9 (.int .i64 0), ?_, HI, withVal_next (withVal_same E 7 _ rfl) 9 _ rfl⟩
         kernel_rfl
       case hdone =>
        rintro L a' W1 hall ⟨u, rfl, HI, E⟩
        have e0 : u 0 = .pointer (some ⟨w.heap.size, 0, none⟩) := E.out 0 (hall 0 (by decide))
        have e1 : u 1 = .agg #[.bool m', .bool p, .bool bl, .bool al, .bool z, .int .i64 wd', .int .i64 pr', .int .u8 VB] := E.out 1 (hall 1 (by decide))
        have e2 : u 2 = .agg #[.int .i64 ck, .float .f64 cx, .string cs] := E.out 2 (hall 2 (by decide))
        have e3 : u 3 = .float .f64 X := E.out 3 (hall 3 (by decide))
        have e4 : u 4 = .tuple #[.string S, .int .i64 0] := E.out 4 (hall 4 (by decide))
        have e5 : u 5 = .tuple #[.string S, .int .i64 0] := E.out 5 (hall 5 (by decide))
        have e6 : u 6 = .string S := E.out 6 (hall 6 (by decide))
        have e7 : u 7 = .int .i64 0 := E.out 7 (hall 7 (by decide))
        have e8 : u 8 = .string S := E.out 8 (hall 8 (by decide))
        have e9 : u 9 = .int .i64 0 := E.out 9 (hall 9 (by decide))
        simp only [List.setIfInBounds_toArray, List.set_cons_zero, List.set_cons_succ, e0, e1, e2, e3, e4, e5, e6, e7, e8, e9]
        clear hall E
        have HWS := Lib.hid (writeStrL S (HWV.out.below HI.out) (by omega))
        go_wp2_with fail
        refine HWS.out.mono ?_
        rintro e w5 ⟨rfl, hw5, hb5, hk5⟩
        have HW5 := Lib.hid hw5
        have HB5 := Lib.hid ((HBV.out.old HI.out).wr hb5 hk5)
        clear hw5 hb5 hk5
        cases ok
        ·have HRes2 : Hid (PF = none) := HRes.out.trans (if_neg (fun h => by cases h.1))
         clear HRes
         go_wp2_with fail
         go_ret
         exact ⟨by rw [HRes2.out]; rfl, HB5.out, fun o Lx hh => by rw [HRes2.out] at hh; cases hh⟩
        ·have HRes2 : Hid (PF = some (S.data.toList, Lr)) := HRes.out.trans (if_pos (by simp))
         clear HRes
         go_wp2_with fail
         go_ret
         exact ⟨by rw [HRes2.out]; rfl, HB5.out, fun o Lx hh => by rw [HRes2.out] at hh; injection hh with hh; injection hh with h1 h2; subst h1 h2; exact HW5.out⟩
end Go.Proofs.YtfdnhkjeoeffoaaGreatDoor
end

section
/- The world of the witnesses: the settled one, with the eight listed tables. -/
namespace Go.Proofs.YtfdnhkjeoeffoaaGreatDoor
open Go.ChangeShapes Go.WideShapes Go.ChangeAt Go.RowKit Go.Lib
theorem own : ownKnob Tryz.prog.godebug = none := by kernel_rfl
/-- the numbers of a datum, one behind the other -/
def flatU (d : DataW Unit) : List Value := match d with
 | .agg l => l.flatMap fun x => match x with
   | .lit (.int k z) => [.int k z]
   | .agg m => m.filterMap fun y => match y with
     | .lit (.int k z) => some (.int k z)
     | _ => none
   | _ => []
 | _ => []
/-- the text of an error's datum -/
def textU (d : DataW Unit) : List UInt8 := match d with
 | .iface _ (.ptr (.agg [.lit (.string s)])) => s
 | _ => []
def putCells (c : Array Value) : Obj → Obj
 | .cells _ t frozen => .cells c t frozen
 | o => o
/-- the blocks that the two errors and unicode.CaseRanges lead to -/
noncomputable def leadBlocks : Array Obj := #[.cells #[.string ⟨(textU Rows.laid_strconv_ErrRange).toArray⟩] 347, .cells #[.string ⟨(textU Rows.laid_strconv_ErrSyntax).toArray⟩] 347, .cells Lib.caseCells5 (Tryz.lays262_ren.t 208)]
noncomputable def laidWorld (os : Os) : World :=
 let N := (World.settled Tryz.prog os).heap.size
 { World.holding Tryz.prog os ⟨leadBlocks, #[], []⟩ with
  heap := ((((((((World.holding Tryz.prog os ⟨leadBlocks, #[], []⟩).heap.modify 5 (putCells (flatU Rows.laid_unicode_utf8_acceptRanges).toArray)).modify 4 (putCells (flatU Rows.laid_unicode_utf8_first).toArray)).modify 8 (putCells (flatU Rows.laid_internal_strconv_uint64pow10).toArray)).modify 9 (putCells (flatU Rows.laid_math_bits_deBruijn32tab).toArray)).modify 10 (putCells (flatU Rows.laid_math_bits_deBruijn64tab).toArray)).modify 7 (putCells #[.iface 345 (.pointer (some ⟨N, 0, none⟩))])).modify 6 (putCells #[.iface 345 (.pointer (some ⟨N + 1, 0, none⟩))])).modify 3 (putCells #[.slice (some ⟨N + 2, 0, none⟩) 336 336]) }
theorem wf_u64 {n : Int} (h : (Lit.int .u64 n).wf = true) : 0 ≤ n ∧ n < 18446744073709551616 := by
 have h2 : (decide (IntKind.u64.min ≤ n) && decide (n ≤ IntKind.u64.max)) = true := h
 rw [Bool.and_eq_true, decide_eq_true_eq, decide_eq_true_eq, show IntKind.u64.min = 0 by decide, show IntKind.u64.max = 18446744073709551615 by decide] at h2
 omega
theorem laidVars_split {P : Program} {w : World} : ∀ {l l' : List (String × DataW Unit)} {ps : List MemPlace}, DataW.LaidVars P w (l ++ l') ps → ∃ p q, ps = p ++ q ∧ DataW.LaidVars P w l p ∧ DataW.LaidVars P w l' q
 | [], _, ps, h => ⟨[], ps, rfl, rfl, h⟩
 | (n, d) :: r, l', ps, h => by
   obtain ⟨g, t, cs, fuel, p, q, h1, h2, h3, h4, h5, rfl⟩ := h
   obtain ⟨p', q', rfl, h6, h7⟩ := laidVars_split h5
   exact ⟨_, q', (List.append_assoc ..).symm, ⟨g, t, cs, fuel, p, p', h1, h2, h3, h4, h6, rfl⟩, h7⟩
theorem laidMet_swap {P : Program} {w : World} {l a b : List (String × DataW Unit)} (h : laidMet P (l ++ a ++ b) w) : laidMet P (l ++ b ++ a) w := by
 obtain ⟨ps, h1, h2, h3⟩ := h
 obtain ⟨p, q, rfl, h4, h5⟩ := laidVars_split h1
 obtain ⟨p1, p2, rfl, h6, h7⟩ := laidVars_split h4
 have hp : (p1 ++ q ++ p2).Perm (p1 ++ p2 ++ q) := by
  rw [List.append_assoc, List.append_assoc]
  exact List.Perm.append_left p1 List.perm_append_comm
 exact ⟨p1 ++ q ++ p2, LaidVars_append (LaidVars_append h6 h5) h7, hp.nodup_iff.2 h2, fun b off hm => h3 b off (hp.mem_iff.1 hm)⟩
/-- what the rows list, unicode.CaseRanges last -/
def smallL : List (String × DataW Unit) := [("math/bits.deBruijn32tab", Rows.laid_math_bits_deBruijn32tab), ("math/bits.deBruijn64tab", Rows.laid_math_bits_deBruijn64tab), ("internal/strconv.uint64pow10", Rows.laid_internal_strconv_uint64pow10), ("unicode/utf8.acceptRanges", Rows.laid_unicode_utf8_acceptRanges), ("strconv.ErrRange", Rows.laid_strconv_ErrRange), ("strconv.ErrSyntax", Rows.laid_strconv_ErrSyntax)]
theorem case_data : Rows.laid_unicode_CaseRanges = (Lib.caseData : DataW Unit) := by kernel_rfl
theorem laid_small (os : Os) (args : Array Value) : laidMet Tryz.prog ((smallL ++ [("unicode/utf8.first", Rows.laid_unicode_utf8_first)]) ++ [("unicode.CaseRanges", Lib.caseData)]) ((laidWorld os).forCall (fun _ _ => 0) ⟨#[], args, []⟩).memory :=
 laidMet_with_case (ρ := Tryz.lays262_ren) { Tryz.lays262 with } (by kernel_rfl) ⟨by kernel_rfl, by kernel_rfl, by kernel_rfl, by kernel_rfl, by kernel_rfl, by kernel_rfl⟩
  (l := smallL ++ [("unicode/utf8.first", Rows.laid_unicode_utf8_first)])
  10 (by kernel_rfl) (by kernel_rfl) (by kernel_rfl) ((World.settled Tryz.prog default).heap.size + 2) (Tryz.lays262_ren.t 208) (of_decide_eq_true (by kernel_rfl)) (by kernel_rfl) (by kernel_rfl) (by kernel_rfl)
theorem laid_met (os : Os) (args : Array Value) : laidMet Tryz.prog (smallL ++ [("unicode.CaseRanges", Rows.laid_unicode_CaseRanges)] ++ [("unicode/utf8.first", Rows.laid_unicode_utf8_first)]) ((laidWorld os).forCall (fun _ _ => 0) ⟨#[], args, []⟩).memory := by
 rw [case_data]
 exact laidMet_swap (laid_small os args)
end Go.Proofs.YtfdnhkjeoeffoaaGreatDoor
end

section
set_option linter.unusedVariables false
namespace Go.Proofs.YtfdnhkjeoeffoaaGreatDoor
open Go.ChangeShapes Go.WideShapes Go.ChangeAt Go.RowKit Go.Lib
theorem starE : "*" ++ "errors.errorString" = "*errors.errorString" := by decide
theorem rowE (u : TypeId) (h : Tryz.prog.typeName? 3 u = some "*errors.errorString") : u = 345 :=
 typeName_ptr_named (nm := "errors.errorString") (by rw [starE]; kernel_rfl) (by kernel_rfl) (by decide) u (by rw [starE]; exact h)
/-- what the laws of this seat list -/
def seatLaid : List (String × DataW Unit) := Rows.assocLoopsRow.laid
theorem tabs_of {W : World} (hL : laidMetH Tryz.prog seatLaid W) (hS : W.ShapedOpen Tryz.prog) : ErrOk W := by
 have h := (laidMetH_iff.1 hL).1
 rw [show (seatLaid.filter fun x => x.2.handleName?.isNone) = seatLaid from by kernel_rfl] at h
 have h5 := laidMet.tail (laidMet.tail (laidMet.tail (laidMet.tail (laidMet.tail h))))
 obtain ⟨a0, s0, hv0, -, -, -⟩ := laid_sentinel h5 (g := 6) (ti := 126) (tp := 345) (te := 347) (ts := 9) (by kernel_rfl) (by kernel_rfl) Tryz.underlying126 rowE Tryz.underlying345 Tryz.underlying347 rfl rfl Tryz.underlying9 (by kernel_rfl) (by kernel_rfl)
 exact ⟨_, by have h0 := World.var?_cell (show Tryz.prog.globalNamed "strconv.ErrSyntax" = some 6 from by kernel_rfl) hv0 0; simpa using h0, .inr ⟨_, _, rfl⟩⟩
end Go.Proofs.YtfdnhkjeoeffoaaGreatDoor
end

section
/- What the rows' listed tables say of all that the walks want. -/
namespace Go.Proofs.YtfdnhkjeoeffoaaGreatDoor
open Go.ChangeShapes Go.WideShapes Go.ChangeAt Go.RowKit Go.Lib
theorem tabIs_of_reads {W : World} {name : String} {k : IntKind} {zs : List Int} {g : Nat} {t e : TypeId} {n : Nat}
 (hg : Tryz.prog.globalNamed name = some g) (hty : (Tryz.prog.globals[g]?).map (·.type) = some t) (ht : Tryz.prog.underlying t = some (.array n e)) (he : Tryz.prog.underlying e = some (.int k)) (hce : Tryz.prog.cellsOf e = 1) (hct : Tryz.prog.cellsOf t = n)
 (h : Lib.VarReads Tryz.prog W name (Lib.tabData k zs)) : Lib.TabIs Tryz.prog W name k zs := by
 obtain ⟨g', t', cs, fuel, p, hg', ht', hvar, hd⟩ := h
 obtain rfl := Option.some.inj (hg.symm.trans hg')
 obtain rfl := Option.some.inj (hty.symm.trans ht')
 unfold Lib.TabIs
 rw [hvar, ← Lib.cells_of_tab ht he hce hct hd]
structure Tabs5 (W : World) : Prop where
 err : ErrOk W
 pow : PowOk W
 utf : U8Ok W
theorem tabs5_of {W : World} (hL : laidMetH Tryz.prog seatLaid W) (hS : W.ShapedOpen Tryz.prog) : Tabs5 W := by
 have h := (laidMetH_iff.1 hL).1
 have hr : ∀ (n : String) (d : DataW Unit), (n, d) ∈ seatLaid → d.handleName?.isNone = true → Lib.VarReads Tryz.prog W n d := fun n d hm hn => Lib.laidMet.reads h (List.mem_filter.2 ⟨hm, hn⟩)
 have e1 : Rows.laid_internal_strconv_uint64pow10 = (Lib.tabData .u64 Lib.pow10Tab : DataW Unit) := by kernel_rfl
 have e3 : Rows.laid_unicode_utf8_first = firstData := by kernel_rfl
 have e4 : Rows.laid_unicode_utf8_acceptRanges = acceptData := by kernel_rfl
 have r1 := hr "internal/strconv.uint64pow10" Rows.laid_internal_strconv_uint64pow10 (.tail _ (.tail _ (.head _))) (by kernel_rfl)
 have r3 := hr "unicode/utf8.first" Rows.laid_unicode_utf8_first (.tail _ (.tail _ (.tail _ (.tail _ (.tail _ (.tail _ (.tail _ (.head _)))))))) (by kernel_rfl)
 have r4 := hr "unicode/utf8.acceptRanges" Rows.laid_unicode_utf8_acceptRanges (.tail _ (.tail _ (.tail _ (.head _)))) (by kernel_rfl)
 rw [e1] at r1
 rw [e3] at r3
 rw [e4] at r4
 refine ⟨tabs_of hL hS, ?_, ?_⟩
 ·exact tabIs_of_reads (g := 8) (t := 352) (e := 22) (n := 20) (by kernel_rfl) (by kernel_rfl) (by kernel_rfl) (by kernel_rfl) (by kernel_rfl) (by kernel_rfl) r1
 ·exact utf8Tabs_of_reads Tryz.lays260 ⟨by kernel_rfl, by kernel_rfl, by kernel_rfl, by kernel_rfl, by kernel_rfl, by kernel_rfl, by kernel_rfl⟩ r3 r4
end Go.Proofs.YtfdnhkjeoeffoaaGreatDoor
end
