/- Several texts in one (I5, I6, I7, I8, W4, W18, W15, W21). -/
import Derived.Test.YtfdnhkjeoeffoaaGreatDoorM7
import Derived.Test.YtfdnhkjeoeffoaaGreatDoorM3
import Derived.Test.YtfdnhkjeoeffoaaGreatDoorM6
section
/- Package printf: stars. -/
namespace Go.Proofs.YtfdnhkjeoeffoaaGreatDoor
open Go.RowKit
set_option linter.unusedVariables false
/-- a value whose bits fit -/
def COk (c : CellT) : Prop := c.2.1 < 18446744073709551616 ∧ c.2.2.size ≤ 140737488355328
theorem COk.num {c : CellT} (h : COk c) : numT c < 18446744073709551616 := numC_lt c.1 c.2.2 h.1
theorem CellsAt.below {w w' : World} {B : Nat} {v : Value} {L : List CellT} (h : CellsAt w B v L) (hB : B ≤ w.heap.size) (hb : Below w.heap.size w w') : CellsAt w' B v L := h.keep fun b0 hb0 => hb.block b0 (by omega)
/-- the writer and its values -/
def WrL (w : World) (B b : Nat) (conv : ByteArray) (by_ : Bool) (L : List CellT) (out : List UInt8) : Prop := ∃ av p v, Wr w B b conv by_ av p v out ∧ CellsAt w B av L
theorem WrL.lt {w : World} {B b : Nat} {conv : ByteArray} {by_ : Bool} {L : List CellT} {out : List UInt8} (h : WrL w B b conv by_ L out) : b < w.heap.size ∧ B ≤ b := by
 obtain ⟨av, p, v, h1, _⟩ := h; exact ⟨h1.lt, h1.lo⟩
theorem WrL.below {w w' : World} {B b : Nat} {conv : ByteArray} {by_ : Bool} {L : List CellT} {out : List UInt8} (h : WrL w B b conv by_ L out) (hb : Below w.heap.size w w') : WrL w' B b conv by_ L out := by
 have hlt := h.lt
 obtain ⟨av, p, v, h1, h2⟩ := h
 exact ⟨av, p, v, h1.below hb, h2.below (by omega) hb⟩
/-- a store into a piece leaves the writer -/
theorem WrL.piece {w : World} {B b q : Nat} {A : Array Value} {conv : ByteArray} {by_ : Bool} {L : List CellT} {out : List UInt8} (h : WrL w B b conv by_ L out) (hq : PcAt w q A) (hqb : b ≠ q) (hB : B ≤ q) (i : Nat) (u : Value) : WrL (w.setCell ⟨q, i, none⟩ u) B b conv by_ L out := by
 obtain ⟨av, p, v, h1, h2⟩ := h
 refine ⟨av, p, v, ⟨h1.lo, (Below.heap_setCell _ _ _ _ (fun e => hqb (by simpa using e))).trans h1.heap, rfl, rfl, rfl, h1.ptr, ?_⟩, h2.keep fun b0 hb0 => Below.heap_setCell _ _ _ _ (fun e => by simp at e; omega)⟩
 exact h1.own.kept (row := some q) ⟨rfl, rfl, rfl, by simp [World.setCell], fun k _ hk => Below.heap_setCell _ _ _ _ (fun e => hk (by simp [e]))⟩ (.inr (Lib.ownBlock_ne h1.own hq (by decide)))
theorem nextL_cons {w : World} {B b : Nat} {conv : ByteArray} {by_ : Bool} {c : CellT} {L : List CellT} {out : List UInt8} (h : WrL w B b conv by_ (c :: L) out) :
 Calls Tryz.prog 142 #[.pointer (some ⟨b, 0, none⟩)] w fun e w' => e = .returned (.tuple #[.agg (agC c), .bool true]) ∧ WrL w' B b conv by_ L out ∧ Apart [b] w w' := by
 obtain ⟨av, p, v, h1, h2⟩ := h
 refine (next_cons h1 h2).mono ?_
 rintro e w' ⟨rfl, av', h3, h4, h5⟩
 exact ⟨rfl, ⟨av', p, v, h3, h4⟩, h5⟩
theorem nextL_nil {w : World} {B b : Nat} {conv : ByteArray} {by_ : Bool} {out : List UInt8} (h : WrL w B b conv by_ [] out) :
 Calls Tryz.prog 142 #[.pointer (some ⟨b, 0, none⟩)] w fun e w' => e = .returned (.tuple #[.agg (agC (0, 0, ⟨#[]⟩)), .bool false]) ∧ Below w.heap.size w w' := by
 obtain ⟨av, p, v, h1, h2⟩ := h
 exact next_nil h1 h2
theorem wholeL_cons {w : World} {B b : Nat} {conv : ByteArray} {by_ : Bool} {c : CellT} {L : List CellT} {out : List UInt8} (h : WrL w B b conv by_ (c :: L) out) (hc : COk c) :
 Calls Tryz.prog 207 #[.pointer (some ⟨b, 0, none⟩)] w fun e w' => e = .returned (.tuple #[.int .i64 (starI (numT c)), .bool true]) ∧ WrL w' B b conv by_ L out ∧ Apart [b] w w' :=
 whole_gen c true (fun w' => WrL w' B b conv by_ L out ∧ Apart [b] w w') (fun w1 w2 h1 hb => ⟨h1.1.below hb, h1.2.trans (Apart.of_below hb [b]) (fun x hx => .inl hx)⟩) hc.num hc.2 (nextL_cons h)
theorem wholeL_nil {w : World} {B b : Nat} {conv : ByteArray} {by_ : Bool} {out : List UInt8} (h : WrL w B b conv by_ [] out) :
 Calls Tryz.prog 207 #[.pointer (some ⟨b, 0, none⟩)] w fun e w' => e = .returned (.tuple #[.int .i64 (starI (numT (0, 0, ⟨#[]⟩))), .bool false]) ∧ Below w.heap.size w w' :=
 whole_gen (0, 0, ⟨#[]⟩) false (fun w' => Below w.heap.size w w') (fun w1 w2 h1 hb => h1.trans (hb.mono h1.size)) (by decide) (by decide) (nextL_nil h)
/-- stars: the values that are left, the flag, width and precision; none: a value lacks -/
def starsF (sw sp m : Bool) (wd pr : Int) (L : List CellT) : Option (Bool × Int × Int × List CellT) :=
 match sw, sp, L with
 | false, false, L => some (m, wd, pr, L)
 | false, true, c :: L => some (m, wd, max (starI (numT c)) (-1), L)
 | true, false, c :: L => some (m || decide (starI (numT c) < 0), max (starI (numT c)) (-(starI (numT c))), pr, L)
 | true, true, c :: d :: L => some (m || decide (starI (numT c) < 0), max (starI (numT c)) (-(starI (numT c))), max (starI (numT d)) (-1), L)
 | _, _, _ => none
theorem star_bounds {c : CellT} (h : COk c) : -2000 ≤ starI (numT c) ∧ starI (numT c) ≤ 2000 := (starF_ok (numT c) (trunc_lt h.num)).2.2.2
set_option maxHeartbeats 8000000 in
set_option maxRecDepth 100000 in
theorem stars_none {w : World} {B b q : Nat} {conv : ByteArray} {by_ : Bool} {L : List CellT} {out : List UInt8} (m p bl al z : Bool) (wd pr vb nx : Int) (h : WrL w B b conv by_ L out) (hq : PcAt w q (pieceA m p bl al z wd pr vb false false nx)) (hqb : b ≠ q) (hB : B ≤ q) :
 Calls Tryz.prog 140 #[.pointer (some ⟨b, 0, none⟩), .pointer (some ⟨q, 0, none⟩)] w fun e w' => e = .returned (.bool true) ∧ Apart [b, q] w w' ∧ w = w' := by
 unfold pieceA at hq
 have q0 : w.cell? ⟨q, 0, none⟩ = some (.bool m) := hq.cell 0
 have q1 : w.cell? ⟨q, 1, none⟩ = some (.bool p) := hq.cell 1
 have q2 : w.cell? ⟨q, 2, none⟩ = some (.bool bl) := hq.cell 2
 have q3 : w.cell? ⟨q, 3, none⟩ = some (.bool al) := hq.cell 3
 have q4 : w.cell? ⟨q, 4, none⟩ = some (.bool z) := hq.cell 4
 have q5 : w.cell? ⟨q, 5, none⟩ = some (.int .i64 wd) := hq.cell 5
 have q6 : w.cell? ⟨q, 6, none⟩ = some (.int .i64 pr) := hq.cell 6
 have q7 : w.cell? ⟨q, 7, none⟩ = some (.int .u8 vb) := hq.cell 7
 have q8 : w.cell? ⟨q, 8, none⟩ = some (.bool false) := hq.cell 8
 have q9 : w.cell? ⟨q, 9, none⟩ = some (.bool false) := hq.cell 9
 have q10 : w.cell? ⟨q, 10, none⟩ = some (.int .i64 nx) := hq.cell 10
 have qz : ∀ j, w.frozen? ⟨q, j, none⟩ = false := fun j => hq.frozen j
 have HQ := Lib.hid hq
 have H := Lib.hid h
 have hqlt := hq.lt
 clear h hq
 go_enter Tryz.func140, Tryz.ntmps140
 go_wp2_with fail
 go_ret
 exact ⟨rfl, Apart.refl _ _, rfl⟩
set_option maxHeartbeats 8000000 in
set_option maxRecDepth 100000 in
theorem stars_pnil {w : World} {B b q : Nat} {conv : ByteArray} {by_ : Bool} {out : List UInt8} (m p bl al z : Bool) (wd pr vb nx : Int) (h : WrL w B b conv by_ [] out) (hq : PcAt w q (pieceA m p bl al z wd pr vb false true nx)) (hqb : b ≠ q) (hB : B ≤ q) :
 Calls Tryz.prog 140 #[.pointer (some ⟨b, 0, none⟩), .pointer (some ⟨q, 0, none⟩)] w fun e w' => e = .returned (.bool false) ∧ Apart [b, q] w w' := by
 unfold pieceA at hq
 have q0 : w.cell? ⟨q, 0, none⟩ = some (.bool m) := hq.cell 0
 have q1 : w.cell? ⟨q, 1, none⟩ = some (.bool p) := hq.cell 1
 have q2 : w.cell? ⟨q, 2, none⟩ = some (.bool bl) := hq.cell 2
 have q3 : w.cell? ⟨q, 3, none⟩ = some (.bool al) := hq.cell 3
 have q4 : w.cell? ⟨q, 4, none⟩ = some (.bool z) := hq.cell 4
 have q5 : w.cell? ⟨q, 5, none⟩ = some (.int .i64 wd) := hq.cell 5
 have q6 : w.cell? ⟨q, 6, none⟩ = some (.int .i64 pr) := hq.cell 6
 have q7 : w.cell? ⟨q, 7, none⟩ = some (.int .u8 vb) := hq.cell 7
 have q8 : w.cell? ⟨q, 8, none⟩ = some (.bool false) := hq.cell 8
 have q9 : w.cell? ⟨q, 9, none⟩ = some (.bool true) := hq.cell 9
 have q10 : w.cell? ⟨q, 10, none⟩ = some (.int .i64 nx) := hq.cell 10
 have qz : ∀ j, w.frozen? ⟨q, j, none⟩ = false := fun j => hq.frozen j
 have HQ := Lib.hid hq
 have H := Lib.hid h
 have hqlt := hq.lt
 have HW := Lib.hid (wholeL_nil h)
 generalize starI (numT (0, 0, ⟨#[]⟩)) = I at *
 clear h hq
 go_enter Tryz.func140, Tryz.ntmps140
 go_wp2_with fail
 refine HW.out.mono ?_
 rintro e w1 ⟨rfl, hb1⟩
 have hpc1 := HQ.out.below hb1
 have hz1 := hb1.size
 clear q0 q1 q2 q3 q4 q5 q6 q7 q8 q9 q10 qz
 have q0 : w1.cell? ⟨q, 0, none⟩ = some (.bool m) := hpc1.cell 0
 have q1 : w1.cell? ⟨q, 1, none⟩ = some (.bool p) := hpc1.cell 1
 have q2 : w1.cell? ⟨q, 2, none⟩ = some (.bool bl) := hpc1.cell 2
 have q3 : w1.cell? ⟨q, 3, none⟩ = some (.bool al) := hpc1.cell 3
 have q4 : w1.cell? ⟨q, 4, none⟩ = some (.bool z) := hpc1.cell 4
 have q5 : w1.cell? ⟨q, 5, none⟩ = some (.int .i64 wd) := hpc1.cell 5
 have q6 : w1.cell? ⟨q, 6, none⟩ = some (.int .i64 pr) := hpc1.cell 6
 have q7 : w1.cell? ⟨q, 7, none⟩ = some (.int .u8 vb) := hpc1.cell 7
 have q8 : w1.cell? ⟨q, 8, none⟩ = some (.bool false) := hpc1.cell 8
 have q9 : w1.cell? ⟨q, 9, none⟩ = some (.bool true) := hpc1.cell 9
 have q10 : w1.cell? ⟨q, 10, none⟩ = some (.int .i64 nx) := hpc1.cell 10
 have qz : ∀ j, w1.frozen? ⟨q, j, none⟩ = false := fun j => hpc1.frozen j
 have HB1 := Lib.hid hb1
 clear hpc1 hb1
 go_wp2_with fail
 go_ret
 exact ⟨rfl, (Apart.of_below HB1.out _).setCell _ (.inl (by simp)) _⟩
set_option maxHeartbeats 8000000 in
set_option maxRecDepth 100000 in
theorem stars_wnil {w : World} {B b q : Nat} {conv : ByteArray} {by_ : Bool} {out : List UInt8} (m p bl al z : Bool) (wd pr vb nx : Int) (h : WrL w B b conv by_ [] out) (hq : PcAt w q (pieceA m p bl al z wd pr vb true false nx)) (hqb : b ≠ q) (hB : B ≤ q) :
 Calls Tryz.prog 140 #[.pointer (some ⟨b, 0, none⟩), .pointer (some ⟨q, 0, none⟩)] w fun e w' => e = .returned (.bool false) ∧ Apart [b, q] w w' := by
 unfold pieceA at hq
 have q0 : w.cell? ⟨q, 0, none⟩ = some (.bool m) := hq.cell 0
 have q1 : w.cell? ⟨q, 1, none⟩ = some (.bool p) := hq.cell 1
 have q2 : w.cell? ⟨q, 2, none⟩ = some (.bool bl) := hq.cell 2
 have q3 : w.cell? ⟨q, 3, none⟩ = some (.bool al) := hq.cell 3
 have q4 : w.cell? ⟨q, 4, none⟩ = some (.bool z) := hq.cell 4
 have q5 : w.cell? ⟨q, 5, none⟩ = some (.int .i64 wd) := hq.cell 5
 have q6 : w.cell? ⟨q, 6, none⟩ = some (.int .i64 pr) := hq.cell 6
 have q7 : w.cell? ⟨q, 7, none⟩ = some (.int .u8 vb) := hq.cell 7
 have q8 : w.cell? ⟨q, 8, none⟩ = some (.bool true) := hq.cell 8
 have q9 : w.cell? ⟨q, 9, none⟩ = some (.bool false) := hq.cell 9
 have q10 : w.cell? ⟨q, 10, none⟩ = some (.int .i64 nx) := hq.cell 10
 have qz : ∀ j, w.frozen? ⟨q, j, none⟩ = false := fun j => hq.frozen j
 have HQ := Lib.hid hq
 have H := Lib.hid h
 have hqlt := hq.lt
 have HW := Lib.hid (wholeL_nil h)
 generalize starI (numT (0, 0, ⟨#[]⟩)) = I at *
 clear h hq
 go_enter Tryz.func140, Tryz.ntmps140
 go_wp2_with fail
 refine HW.out.mono ?_
 rintro e w1 ⟨rfl, hb1⟩
 have HB1 := Lib.hid hb1
 clear hb1
 go_wp2_with fail
 go_ret
 exact ⟨rfl, Apart.of_below HB1.out _⟩
set_option maxHeartbeats 8000000 in
set_option maxRecDepth 100000 in
theorem stars_wnilp {w : World} {B b q : Nat} {conv : ByteArray} {by_ : Bool} {out : List UInt8} (m p bl al z : Bool) (wd pr vb nx : Int) (h : WrL w B b conv by_ [] out) (hq : PcAt w q (pieceA m p bl al z wd pr vb true true nx)) (hqb : b ≠ q) (hB : B ≤ q) :
 Calls Tryz.prog 140 #[.pointer (some ⟨b, 0, none⟩), .pointer (some ⟨q, 0, none⟩)] w fun e w' => e = .returned (.bool false) ∧ Apart [b, q] w w' := by
 unfold pieceA at hq
 have q0 : w.cell? ⟨q, 0, none⟩ = some (.bool m) := hq.cell 0
 have q1 : w.cell? ⟨q, 1, none⟩ = some (.bool p) := hq.cell 1
 have q2 : w.cell? ⟨q, 2, none⟩ = some (.bool bl) := hq.cell 2
 have q3 : w.cell? ⟨q, 3, none⟩ = some (.bool al) := hq.cell 3
 have q4 : w.cell? ⟨q, 4, none⟩ = some (.bool z) := hq.cell 4
 have q5 : w.cell? ⟨q, 5, none⟩ = some (.int .i64 wd) := hq.cell 5
 have q6 : w.cell? ⟨q, 6, none⟩ = some (.int .i64 pr) := hq.cell 6
 have q7 : w.cell? ⟨q, 7, none⟩ = some (.int .u8 vb) := hq.cell 7
 have q8 : w.cell? ⟨q, 8, none⟩ = some (.bool true) := hq.cell 8
 have q9 : w.cell? ⟨q, 9, none⟩ = some (.bool true) := hq.cell 9
 have q10 : w.cell? ⟨q, 10, none⟩ = some (.int .i64 nx) := hq.cell 10
 have qz : ∀ j, w.frozen? ⟨q, j, none⟩ = false := fun j => hq.frozen j
 have HQ := Lib.hid hq
 have H := Lib.hid h
 have hqlt := hq.lt
 have HW := Lib.hid (wholeL_nil h)
 generalize starI (numT (0, 0, ⟨#[]⟩)) = I at *
 clear h hq
 go_enter Tryz.func140, Tryz.ntmps140
 go_wp2_with fail
 refine HW.out.mono ?_
 rintro e w1 ⟨rfl, hb1⟩
 have HB1 := Lib.hid hb1
 clear hb1
 go_wp2_with fail
 go_ret
 exact ⟨rfl, Apart.of_below HB1.out _⟩
set_option maxHeartbeats 8000000 in
set_option maxRecDepth 100000 in
theorem stars_pcons {w : World} {B b q : Nat} {conv : ByteArray} {by_ : Bool} {c : CellT} {L : List CellT} {out : List UInt8} (m p bl al z : Bool) (wd pr vb nx : Int) (h : WrL w B b conv by_ (c :: L) out) (hq : PcAt w q (pieceA m p bl al z wd pr vb false true nx)) (hqb : b ≠ q) (hB : B ≤ q) (hc : COk c) :
 Calls Tryz.prog 140 #[.pointer (some ⟨b, 0, none⟩), .pointer (some ⟨q, 0, none⟩)] w fun e w' => e = .returned (.bool true) ∧ Apart [b, q] w w' ∧ WrL w' B b conv by_ L out ∧ PcAt w' q (pieceA m p bl al z wd (max (starI (numT c)) (-1)) vb false true nx) := by
 unfold pieceA at hq
 have q0 : w.cell? ⟨q, 0, none⟩ = some (.bool m) := hq.cell 0
 have q1 : w.cell? ⟨q, 1, none⟩ = some (.bool p) := hq.cell 1
 have q2 : w.cell? ⟨q, 2, none⟩ = some (.bool bl) := hq.cell 2
 have q3 : w.cell? ⟨q, 3, none⟩ = some (.bool al) := hq.cell 3
 have q4 : w.cell? ⟨q, 4, none⟩ = some (.bool z) := hq.cell 4
 have q5 : w.cell? ⟨q, 5, none⟩ = some (.int .i64 wd) := hq.cell 5
 have q6 : w.cell? ⟨q, 6, none⟩ = some (.int .i64 pr) := hq.cell 6
 have q7 : w.cell? ⟨q, 7, none⟩ = some (.int .u8 vb) := hq.cell 7
 have q8 : w.cell? ⟨q, 8, none⟩ = some (.bool false) := hq.cell 8
 have q9 : w.cell? ⟨q, 9, none⟩ = some (.bool true) := hq.cell 9
 have q10 : w.cell? ⟨q, 10, none⟩ = some (.int .i64 nx) := hq.cell 10
 have qz : ∀ j, w.frozen? ⟨q, j, none⟩ = false := fun j => hq.frozen j
 have HQ := Lib.hid hq
 have H := Lib.hid h
 have hqlt := hq.lt
 have HW := Lib.hid (wholeL_cons h hc)
 obtain ⟨i1, i2⟩ := star_bounds hc
 generalize starI (numT c) = I at *
 clear h hq hc
 go_enter Tryz.func140, Tryz.ntmps140
 go_wp2_with fail
 refine HW.out.mono ?_
 rintro e w1 ⟨rfl, hw1, ha1⟩
 have hpc1 := HQ.out.keep ha1 (fun hh => hqb (List.mem_singleton.1 hh).symm)
 have HA1 := Lib.hid ha1
 have HL1 := Lib.hid hw1
 have HP1 := Lib.hid hpc1
 have hql1 := hpc1.lt
 clear q0 q1 q2 q3 q4 q5 q6 q7 q8 q9 q10 qz
 have q0 : w1.cell? ⟨q, 0, none⟩ = some (.bool m) := hpc1.cell 0
 have q1 : w1.cell? ⟨q, 1, none⟩ = some (.bool p) := hpc1.cell 1
 have q2 : w1.cell? ⟨q, 2, none⟩ = some (.bool bl) := hpc1.cell 2
 have q3 : w1.cell? ⟨q, 3, none⟩ = some (.bool al) := hpc1.cell 3
 have q4 : w1.cell? ⟨q, 4, none⟩ = some (.bool z) := hpc1.cell 4
 have q5 : w1.cell? ⟨q, 5, none⟩ = some (.int .i64 wd) := hpc1.cell 5
 have q6 : w1.cell? ⟨q, 6, none⟩ = some (.int .i64 pr) := hpc1.cell 6
 have q7 : w1.cell? ⟨q, 7, none⟩ = some (.int .u8 vb) := hpc1.cell 7
 have q8 : w1.cell? ⟨q, 8, none⟩ = some (.bool false) := hpc1.cell 8
 have q9 : w1.cell? ⟨q, 9, none⟩ = some (.bool true) := hpc1.cell 9
 have q10 : w1.cell? ⟨q, 10, none⟩ = some (.int .i64 nx) := hpc1.cell 10
 have qz : ∀ j, w1.frozen? ⟨q, j, none⟩ = false := fun j => hpc1.frozen j
 clear hpc1 ha1 hw1 HW
 go_wp2_with fail
 go_ret
 refine ⟨rfl, ((HA1.out.more (fun x hx => by simp at hx; simp [hx])).setCell _ (.inl (by simp)) _), HL1.out.piece HP1.out hqb hB _ _, ?_⟩
 exact HP1.out.set 6 _
set_option maxHeartbeats 8000000 in
set_option maxRecDepth 100000 in
theorem stars_wcons {w : World} {B b q : Nat} {conv : ByteArray} {by_ : Bool} {c : CellT} {L : List CellT} {out : List UInt8} (m p bl al z : Bool) (wd pr vb nx : Int) (h : WrL w B b conv by_ (c :: L) out) (hq : PcAt w q (pieceA m p bl al z wd pr vb true false nx)) (hqb : b ≠ q) (hB : B ≤ q) (hc : COk c) :
 Calls Tryz.prog 140 #[.pointer (some ⟨b, 0, none⟩), .pointer (some ⟨q, 0, none⟩)] w fun e w' => e = .returned (.bool true) ∧ Apart [b, q] w w' ∧ WrL w' B b conv by_ L out ∧ PcAt w' q (pieceA (m || decide (starI (numT c) < 0)) p bl al z (max (starI (numT c)) (-(starI (numT c)))) pr vb true false nx) := by
 unfold pieceA at hq
 have q0 : w.cell? ⟨q, 0, none⟩ = some (.bool m) := hq.cell 0
 have q1 : w.cell? ⟨q, 1, none⟩ = some (.bool p) := hq.cell 1
 have q2 : w.cell? ⟨q, 2, none⟩ = some (.bool bl) := hq.cell 2
 have q3 : w.cell? ⟨q, 3, none⟩ = some (.bool al) := hq.cell 3
 have q4 : w.cell? ⟨q, 4, none⟩ = some (.bool z) := hq.cell 4
 have q5 : w.cell? ⟨q, 5, none⟩ = some (.int .i64 wd) := hq.cell 5
 have q6 : w.cell? ⟨q, 6, none⟩ = some (.int .i64 pr) := hq.cell 6
 have q7 : w.cell? ⟨q, 7, none⟩ = some (.int .u8 vb) := hq.cell 7
 have q8 : w.cell? ⟨q, 8, none⟩ = some (.bool true) := hq.cell 8
 have q9 : w.cell? ⟨q, 9, none⟩ = some (.bool false) := hq.cell 9
 have q10 : w.cell? ⟨q, 10, none⟩ = some (.int .i64 nx) := hq.cell 10
 have qz : ∀ j, w.frozen? ⟨q, j, none⟩ = false := fun j => hq.frozen j
 have HQ := Lib.hid hq
 have H := Lib.hid h
 have hqlt := hq.lt
 have HW := Lib.hid (wholeL_cons h hc)
 obtain ⟨i1, i2⟩ := star_bounds hc
 generalize starI (numT c) = I at *
 clear h hq hc
 cases m
 ·go_enter Tryz.func140, Tryz.ntmps140
  go_wp2_with fail
  refine HW.out.mono ?_
  rintro e w1 ⟨rfl, hw1, ha1⟩
  have hpc1 := HQ.out.keep ha1 (fun hh => hqb (List.mem_singleton.1 hh).symm)
  have HA1 := Lib.hid ha1
  have HL1 := Lib.hid hw1
  have HP1 := Lib.hid hpc1
  have hql1 := hpc1.lt
  clear q0 q1 q2 q3 q4 q5 q6 q7 q8 q9 q10 qz
  have q0 : w1.cell? ⟨q, 0, none⟩ = some (.bool false) := hpc1.cell 0
  have q1 : w1.cell? ⟨q, 1, none⟩ = some (.bool p) := hpc1.cell 1
  have q2 : w1.cell? ⟨q, 2, none⟩ = some (.bool bl) := hpc1.cell 2
  have q3 : w1.cell? ⟨q, 3, none⟩ = some (.bool al) := hpc1.cell 3
  have q4 : w1.cell? ⟨q, 4, none⟩ = some (.bool z) := hpc1.cell 4
  have q5 : w1.cell? ⟨q, 5, none⟩ = some (.int .i64 wd) := hpc1.cell 5
  have q6 : w1.cell? ⟨q, 6, none⟩ = some (.int .i64 pr) := hpc1.cell 6
  have q7 : w1.cell? ⟨q, 7, none⟩ = some (.int .u8 vb) := hpc1.cell 7
  have q8 : w1.cell? ⟨q, 8, none⟩ = some (.bool true) := hpc1.cell 8
  have q9 : w1.cell? ⟨q, 9, none⟩ = some (.bool false) := hpc1.cell 9
  have q10 : w1.cell? ⟨q, 10, none⟩ = some (.int .i64 nx) := hpc1.cell 10
  have qz : ∀ j, w1.frozen? ⟨q, j, none⟩ = false := fun j => hpc1.frozen j
  clear hpc1 ha1 hw1 HW
  go_wp2_with fail
  go_ret
  refine ⟨rfl, (((HA1.out.more (fun x hx => by simp at hx; simp [hx])).setCell _ (.inl (by simp)) _).setCell _ (.inl (by simp)) _), (HL1.out.piece HP1.out hqb hB _ _).piece (HP1.out.set 0 _) hqb hB _ _, ?_⟩
  exact (HP1.out.set 0 _).set 5 _
 ·go_enter Tryz.func140, Tryz.ntmps140
  go_wp2_with fail
  refine HW.out.mono ?_
  rintro e w1 ⟨rfl, hw1, ha1⟩
  have hpc1 := HQ.out.keep ha1 (fun hh => hqb (List.mem_singleton.1 hh).symm)
  have HA1 := Lib.hid ha1
  have HL1 := Lib.hid hw1
  have HP1 := Lib.hid hpc1
  have hql1 := hpc1.lt
  clear q0 q1 q2 q3 q4 q5 q6 q7 q8 q9 q10 qz
  have q0 : w1.cell? ⟨q, 0, none⟩ = some (.bool true) := hpc1.cell 0
  have q1 : w1.cell? ⟨q, 1, none⟩ = some (.bool p) := hpc1.cell 1
  have q2 : w1.cell? ⟨q, 2, none⟩ = some (.bool bl) := hpc1.cell 2
  have q3 : w1.cell? ⟨q, 3, none⟩ = some (.bool al) := hpc1.cell 3
  have q4 : w1.cell? ⟨q, 4, none⟩ = some (.bool z) := hpc1.cell 4
  have q5 : w1.cell? ⟨q, 5, none⟩ = some (.int .i64 wd) := hpc1.cell 5
  have q6 : w1.cell? ⟨q, 6, none⟩ = some (.int .i64 pr) := hpc1.cell 6
  have q7 : w1.cell? ⟨q, 7, none⟩ = some (.int .u8 vb) := hpc1.cell 7
  have q8 : w1.cell? ⟨q, 8, none⟩ = some (.bool true) := hpc1.cell 8
  have q9 : w1.cell? ⟨q, 9, none⟩ = some (.bool false) := hpc1.cell 9
  have q10 : w1.cell? ⟨q, 10, none⟩ = some (.int .i64 nx) := hpc1.cell 10
  have qz : ∀ j, w1.frozen? ⟨q, j, none⟩ = false := fun j => hpc1.frozen j
  clear hpc1 ha1 hw1 HW
  go_wp2_with fail
  go_ret
  refine ⟨rfl, (((HA1.out.more (fun x hx => by simp at hx; simp [hx])).setCell _ (.inl (by simp)) _).setCell _ (.inl (by simp)) _), (HL1.out.piece HP1.out hqb hB _ _).piece (HP1.out.set 0 _) hqb hB _ _, ?_⟩
  exact (HP1.out.set 0 _).set 5 _
set_option maxHeartbeats 8000000 in
set_option maxRecDepth 100000 in
theorem stars_wpnil {w : World} {B b q : Nat} {conv : ByteArray} {by_ : Bool} {c : CellT} {out : List UInt8} (m p bl al z : Bool) (wd pr vb nx : Int) (h : WrL w B b conv by_ [c] out) (hq : PcAt w q (pieceA m p bl al z wd pr vb true true nx)) (hqb : b ≠ q) (hB : B ≤ q) (hc : COk c) :
 Calls Tryz.prog 140 #[.pointer (some ⟨b, 0, none⟩), .pointer (some ⟨q, 0, none⟩)] w fun e w' => e = .returned (.bool false) ∧ Apart [b, q] w w' := by
 unfold pieceA at hq
 have q0 : w.cell? ⟨q, 0, none⟩ = some (.bool m) := hq.cell 0
 have q1 : w.cell? ⟨q, 1, none⟩ = some (.bool p) := hq.cell 1
 have q2 : w.cell? ⟨q, 2, none⟩ = some (.bool bl) := hq.cell 2
 have q3 : w.cell? ⟨q, 3, none⟩ = some (.bool al) := hq.cell 3
 have q4 : w.cell? ⟨q, 4, none⟩ = some (.bool z) := hq.cell 4
 have q5 : w.cell? ⟨q, 5, none⟩ = some (.int .i64 wd) := hq.cell 5
 have q6 : w.cell? ⟨q, 6, none⟩ = some (.int .i64 pr) := hq.cell 6
 have q7 : w.cell? ⟨q, 7, none⟩ = some (.int .u8 vb) := hq.cell 7
 have q8 : w.cell? ⟨q, 8, none⟩ = some (.bool true) := hq.cell 8
 have q9 : w.cell? ⟨q, 9, none⟩ = some (.bool true) := hq.cell 9
 have q10 : w.cell? ⟨q, 10, none⟩ = some (.int .i64 nx) := hq.cell 10
 have qz : ∀ j, w.frozen? ⟨q, j, none⟩ = false := fun j => hq.frozen j
 have HQ := Lib.hid hq
 have H := Lib.hid h
 have hqlt := hq.lt
 have HW := Lib.hid (wholeL_cons h hc)
 obtain ⟨i1, i2⟩ := star_bounds hc
 generalize starI (numT c) = I at *
 clear h hq hc
 cases m
 ·go_enter Tryz.func140, Tryz.ntmps140
  go_wp2_with fail
  refine HW.out.mono ?_
  rintro e w1 ⟨rfl, hw1, ha1⟩
  have hpc1 := HQ.out.keep ha1 (fun hh => hqb (List.mem_singleton.1 hh).symm)
  have HA1 := Lib.hid ha1
  have HL1 := Lib.hid hw1
  have HP1 := Lib.hid hpc1
  have hql1 := hpc1.lt
  clear q0 q1 q2 q3 q4 q5 q6 q7 q8 q9 q10 qz
  have q0 : w1.cell? ⟨q, 0, none⟩ = some (.bool false) := hpc1.cell 0
  have q1 : w1.cell? ⟨q, 1, none⟩ = some (.bool p) := hpc1.cell 1
  have q2 : w1.cell? ⟨q, 2, none⟩ = some (.bool bl) := hpc1.cell 2
  have q3 : w1.cell? ⟨q, 3, none⟩ = some (.bool al) := hpc1.cell 3
  have q4 : w1.cell? ⟨q, 4, none⟩ = some (.bool z) := hpc1.cell 4
  have q5 : w1.cell? ⟨q, 5, none⟩ = some (.int .i64 wd) := hpc1.cell 5
  have q6 : w1.cell? ⟨q, 6, none⟩ = some (.int .i64 pr) := hpc1.cell 6
  have q7 : w1.cell? ⟨q, 7, none⟩ = some (.int .u8 vb) := hpc1.cell 7
  have q8 : w1.cell? ⟨q, 8, none⟩ = some (.bool true) := hpc1.cell 8
  have q9 : w1.cell? ⟨q, 9, none⟩ = some (.bool true) := hpc1.cell 9
  have q10 : w1.cell? ⟨q, 10, none⟩ = some (.int .i64 nx) := hpc1.cell 10
  have qz : ∀ j, w1.frozen? ⟨q, j, none⟩ = false := fun j => hpc1.frozen j
  clear hpc1 ha1 hw1 HW
  go_wp2_with fail
  generalize hW2 : World.setCell _ _ _ = W2
  have hp2 : PcAt W2 q #[.bool (decide (I < 0)), .bool p, .bool bl, .bool al, .bool z, .int .i64 (max I (-I)), .int .i64 pr, .int .u8 vb, .bool true, .bool true, .int .i64 nx] := by rw [← hW2]; exact (HP1.out.set 0 (.bool (decide (I < 0)))).set 5 (.int .i64 (max I (-I)))
  have hl2 : WrL W2 B b conv by_ [] out := by rw [← hW2]; exact (HL1.out.piece HP1.out hqb hB _ _).piece (HP1.out.set 0 _) hqb hB _ _
  have HA2 : Hid (Apart [b, q] w W2) := by rw [← hW2]; exact (((HA1.out.more (fun x hx => by simp at hx; simp [hx])).setCell _ (.inl (by simp)) _).setCell _ (.inl (by simp)) _)
  have HP2 := Lib.hid hp2
  have HL2 := Lib.hid hl2
  clear hW2 hp2 hl2 HP1 HL1 HA1
  clear q0 q1 q2 q3 q4 q5 q6 q7 q8 q9 q10 qz
  refine (wholeL_nil HL2.out).mono ?_
  rintro e w3 ⟨rfl, hb3⟩
  have hpc3 := HP2.out.below hb3
  have HB3 := Lib.hid hb3
  have hql3 := hpc3.lt
  have q0 : w3.cell? ⟨q, 0, none⟩ = some (.bool (decide (I < 0))) := hpc3.cell 0
  have q1 : w3.cell? ⟨q, 1, none⟩ = some (.bool p) := hpc3.cell 1
  have q2 : w3.cell? ⟨q, 2, none⟩ = some (.bool bl) := hpc3.cell 2
  have q3 : w3.cell? ⟨q, 3, none⟩ = some (.bool al) := hpc3.cell 3
  have q4 : w3.cell? ⟨q, 4, none⟩ = some (.bool z) := hpc3.cell 4
  have q5 : w3.cell? ⟨q, 5, none⟩ = some (.int .i64 (max I (-I))) := hpc3.cell 5
  have q6 : w3.cell? ⟨q, 6, none⟩ = some (.int .i64 pr) := hpc3.cell 6
  have q7 : w3.cell? ⟨q, 7, none⟩ = some (.int .u8 vb) := hpc3.cell 7
  have q8 : w3.cell? ⟨q, 8, none⟩ = some (.bool true) := hpc3.cell 8
  have q9 : w3.cell? ⟨q, 9, none⟩ = some (.bool true) := hpc3.cell 9
  have q10 : w3.cell? ⟨q, 10, none⟩ = some (.int .i64 nx) := hpc3.cell 10
  have qz : ∀ j, w3.frozen? ⟨q, j, none⟩ = false := fun j => hpc3.frozen j
  clear hpc3 hb3
  go_wp2_with fail
  go_ret
  exact ⟨rfl, (HA2.out.trans (Apart.of_below HB3.out [b, q]) (fun x hx => .inl hx)).setCell _ (.inl (by simp)) _⟩
 ·go_enter Tryz.func140, Tryz.ntmps140
  go_wp2_with fail
  refine HW.out.mono ?_
  rintro e w1 ⟨rfl, hw1, ha1⟩
  have hpc1 := HQ.out.keep ha1 (fun hh => hqb (List.mem_singleton.1 hh).symm)
  have HA1 := Lib.hid ha1
  have HL1 := Lib.hid hw1
  have HP1 := Lib.hid hpc1
  have hql1 := hpc1.lt
  clear q0 q1 q2 q3 q4 q5 q6 q7 q8 q9 q10 qz
  have q0 : w1.cell? ⟨q, 0, none⟩ = some (.bool true) := hpc1.cell 0
  have q1 : w1.cell? ⟨q, 1, none⟩ = some (.bool p) := hpc1.cell 1
  have q2 : w1.cell? ⟨q, 2, none⟩ = some (.bool bl) := hpc1.cell 2
  have q3 : w1.cell? ⟨q, 3, none⟩ = some (.bool al) := hpc1.cell 3
  have q4 : w1.cell? ⟨q, 4, none⟩ = some (.bool z) := hpc1.cell 4
  have q5 : w1.cell? ⟨q, 5, none⟩ = some (.int .i64 wd) := hpc1.cell 5
  have q6 : w1.cell? ⟨q, 6, none⟩ = some (.int .i64 pr) := hpc1.cell 6
  have q7 : w1.cell? ⟨q, 7, none⟩ = some (.int .u8 vb) := hpc1.cell 7
  have q8 : w1.cell? ⟨q, 8, none⟩ = some (.bool true) := hpc1.cell 8
  have q9 : w1.cell? ⟨q, 9, none⟩ = some (.bool true) := hpc1.cell 9
  have q10 : w1.cell? ⟨q, 10, none⟩ = some (.int .i64 nx) := hpc1.cell 10
  have qz : ∀ j, w1.frozen? ⟨q, j, none⟩ = false := fun j => hpc1.frozen j
  clear hpc1 ha1 hw1 HW
  go_wp2_with fail
  generalize hW2 : World.setCell _ _ _ = W2
  have hp2 : PcAt W2 q #[.bool true, .bool p, .bool bl, .bool al, .bool z, .int .i64 (max I (-I)), .int .i64 pr, .int .u8 vb, .bool true, .bool true, .int .i64 nx] := by rw [← hW2]; exact (HP1.out.set 0 (.bool true)).set 5 (.int .i64 (max I (-I)))
  have hl2 : WrL W2 B b conv by_ [] out := by rw [← hW2]; exact (HL1.out.piece HP1.out hqb hB _ _).piece (HP1.out.set 0 _) hqb hB _ _
  have HA2 : Hid (Apart [b, q] w W2) := by rw [← hW2]; exact (((HA1.out.more (fun x hx => by simp at hx; simp [hx])).setCell _ (.inl (by simp)) _).setCell _ (.inl (by simp)) _)
  have HP2 := Lib.hid hp2
  have HL2 := Lib.hid hl2
  clear hW2 hp2 hl2 HP1 HL1 HA1
  clear q0 q1 q2 q3 q4 q5 q6 q7 q8 q9 q10 qz
  refine (wholeL_nil HL2.out).mono ?_
  rintro e w3 ⟨rfl, hb3⟩
  have hpc3 := HP2.out.below hb3
  have HB3 := Lib.hid hb3
  have hql3 := hpc3.lt
  have q0 : w3.cell? ⟨q, 0, none⟩ = some (.bool true) := hpc3.cell 0
  have q1 : w3.cell? ⟨q, 1, none⟩ = some (.bool p) := hpc3.cell 1
  have q2 : w3.cell? ⟨q, 2, none⟩ = some (.bool bl) := hpc3.cell 2
  have q3 : w3.cell? ⟨q, 3, none⟩ = some (.bool al) := hpc3.cell 3
  have q4 : w3.cell? ⟨q, 4, none⟩ = some (.bool z) := hpc3.cell 4
  have q5 : w3.cell? ⟨q, 5, none⟩ = some (.int .i64 (max I (-I))) := hpc3.cell 5
  have q6 : w3.cell? ⟨q, 6, none⟩ = some (.int .i64 pr) := hpc3.cell 6
  have q7 : w3.cell? ⟨q, 7, none⟩ = some (.int .u8 vb) := hpc3.cell 7
  have q8 : w3.cell? ⟨q, 8, none⟩ = some (.bool true) := hpc3.cell 8
  have q9 : w3.cell? ⟨q, 9, none⟩ = some (.bool true) := hpc3.cell 9
  have q10 : w3.cell? ⟨q, 10, none⟩ = some (.int .i64 nx) := hpc3.cell 10
  have qz : ∀ j, w3.frozen? ⟨q, j, none⟩ = false := fun j => hpc3.frozen j
  clear hpc3 hb3
  go_wp2_with fail
  go_ret
  exact ⟨rfl, (HA2.out.trans (Apart.of_below HB3.out [b, q]) (fun x hx => .inl hx)).setCell _ (.inl (by simp)) _⟩
set_option maxHeartbeats 8000000 in
set_option maxRecDepth 100000 in
theorem stars_wpcons {w : World} {B b q : Nat} {conv : ByteArray} {by_ : Bool} {c d : CellT} {L : List CellT} {out : List UInt8} (m p bl al z : Bool) (wd pr vb nx : Int) (h : WrL w B b conv by_ (c :: d :: L) out) (hq : PcAt w q (pieceA m p bl al z wd pr vb true true nx)) (hqb : b ≠ q) (hB : B ≤ q) (hc : COk c) (hd : COk d) :
 Calls Tryz.prog 140 #[.pointer (some ⟨b, 0, none⟩), .pointer (some ⟨q, 0, none⟩)] w fun e w' => e = .returned (.bool true) ∧ Apart [b, q] w w' ∧ WrL w' B b conv by_ L out ∧ PcAt w' q (pieceA (m || decide (starI (numT c) < 0)) p bl al z (max (starI (numT c)) (-(starI (numT c)))) (max (starI (numT d)) (-1)) vb true true nx) := by
 unfold pieceA at hq
 have q0 : w.cell? ⟨q, 0, none⟩ = some (.bool m) := hq.cell 0
 have q1 : w.cell? ⟨q, 1, none⟩ = some (.bool p) := hq.cell 1
 have q2 : w.cell? ⟨q, 2, none⟩ = some (.bool bl) := hq.cell 2
 have q3 : w.cell? ⟨q, 3, none⟩ = some (.bool al) := hq.cell 3
 have q4 : w.cell? ⟨q, 4, none⟩ = some (.bool z) := hq.cell 4
 have q5 : w.cell? ⟨q, 5, none⟩ = some (.int .i64 wd) := hq.cell 5
 have q6 : w.cell? ⟨q, 6, none⟩ = some (.int .i64 pr) := hq.cell 6
 have q7 : w.cell? ⟨q, 7, none⟩ = some (.int .u8 vb) := hq.cell 7
 have q8 : w.cell? ⟨q, 8, none⟩ = some (.bool true) := hq.cell 8
 have q9 : w.cell? ⟨q, 9, none⟩ = some (.bool true) := hq.cell 9
 have q10 : w.cell? ⟨q, 10, none⟩ = some (.int .i64 nx) := hq.cell 10
 have qz : ∀ j, w.frozen? ⟨q, j, none⟩ = false := fun j => hq.frozen j
 have HQ := Lib.hid hq
 have H := Lib.hid h
 have hqlt := hq.lt
 have HW := Lib.hid (wholeL_cons h hc)
 obtain ⟨i1, i2⟩ := star_bounds hc
 generalize starI (numT c) = I at *
 clear h hq hc
 obtain ⟨j1, j2⟩ := star_bounds hd
 have HD := Lib.hid hd
 generalize hJ : starI (numT d) = J at *
 have HJ := Lib.hid hJ
 clear hd hJ
 cases m
 ·go_enter Tryz.func140, Tryz.ntmps140
  go_wp2_with fail
  refine HW.out.mono ?_
  rintro e w1 ⟨rfl, hw1, ha1⟩
  have hpc1 := HQ.out.keep ha1 (fun hh => hqb (List.mem_singleton.1 hh).symm)
  have HA1 := Lib.hid ha1
  have HL1 := Lib.hid hw1
  have HP1 := Lib.hid hpc1
  have hql1 := hpc1.lt
  clear q0 q1 q2 q3 q4 q5 q6 q7 q8 q9 q10 qz
  have q0 : w1.cell? ⟨q, 0, none⟩ = some (.bool false) := hpc1.cell 0
  have q1 : w1.cell? ⟨q, 1, none⟩ = some (.bool p) := hpc1.cell 1
  have q2 : w1.cell? ⟨q, 2, none⟩ = some (.bool bl) := hpc1.cell 2
  have q3 : w1.cell? ⟨q, 3, none⟩ = some (.bool al) := hpc1.cell 3
  have q4 : w1.cell? ⟨q, 4, none⟩ = some (.bool z) := hpc1.cell 4
  have q5 : w1.cell? ⟨q, 5, none⟩ = some (.int .i64 wd) := hpc1.cell 5
  have q6 : w1.cell? ⟨q, 6, none⟩ = some (.int .i64 pr) := hpc1.cell 6
  have q7 : w1.cell? ⟨q, 7, none⟩ = some (.int .u8 vb) := hpc1.cell 7
  have q8 : w1.cell? ⟨q, 8, none⟩ = some (.bool true) := hpc1.cell 8
  have q9 : w1.cell? ⟨q, 9, none⟩ = some (.bool true) := hpc1.cell 9
  have q10 : w1.cell? ⟨q, 10, none⟩ = some (.int .i64 nx) := hpc1.cell 10
  have qz : ∀ j, w1.frozen? ⟨q, j, none⟩ = false := fun j => hpc1.frozen j
  clear hpc1 ha1 hw1 HW
  go_wp2_with fail
  generalize hW2 : World.setCell _ _ _ = W2
  have hp2 : PcAt W2 q #[.bool (decide (I < 0)), .bool p, .bool bl, .bool al, .bool z, .int .i64 (max I (-I)), .int .i64 pr, .int .u8 vb, .bool true, .bool true, .int .i64 nx] := by rw [← hW2]; exact (HP1.out.set 0 (.bool (decide (I < 0)))).set 5 (.int .i64 (max I (-I)))
  have hl2 : WrL W2 B b conv by_ (d :: L) out := by rw [← hW2]; exact (HL1.out.piece HP1.out hqb hB _ _).piece (HP1.out.set 0 _) hqb hB _ _
  have HA2 : Hid (Apart [b, q] w W2) := by rw [← hW2]; exact (((HA1.out.more (fun x hx => by simp at hx; simp [hx])).setCell _ (.inl (by simp)) _).setCell _ (.inl (by simp)) _)
  have HP2 := Lib.hid hp2
  have HL2 := Lib.hid hl2
  clear hW2 hp2 hl2 HP1 HL1 HA1
  clear q0 q1 q2 q3 q4 q5 q6 q7 q8 q9 q10 qz
  have hw3 := wholeL_cons HL2.out HD.out
  rw [HJ.out] at hw3
  refine hw3.mono ?_
  clear hw3
  rintro e w3 ⟨rfl, hw3, ha3⟩
  have hpc3 := HP2.out.keep ha3 (fun hh => hqb (List.mem_singleton.1 hh).symm)
  have HA3 := Lib.hid (HA2.out.trans ha3 (fun x hx => .inl (by simp at hx; simp [hx])))
  have HL3 := Lib.hid hw3
  have HP3 := Lib.hid hpc3
  have hql3 := hpc3.lt
  have q0 : w3.cell? ⟨q, 0, none⟩ = some (.bool (decide (I < 0))) := hpc3.cell 0
  have q1 : w3.cell? ⟨q, 1, none⟩ = some (.bool p) := hpc3.cell 1
  have q2 : w3.cell? ⟨q, 2, none⟩ = some (.bool bl) := hpc3.cell 2
  have q3 : w3.cell? ⟨q, 3, none⟩ = some (.bool al) := hpc3.cell 3
  have q4 : w3.cell? ⟨q, 4, none⟩ = some (.bool z) := hpc3.cell 4
  have q5 : w3.cell? ⟨q, 5, none⟩ = some (.int .i64 (max I (-I))) := hpc3.cell 5
  have q6 : w3.cell? ⟨q, 6, none⟩ = some (.int .i64 pr) := hpc3.cell 6
  have q7 : w3.cell? ⟨q, 7, none⟩ = some (.int .u8 vb) := hpc3.cell 7
  have q8 : w3.cell? ⟨q, 8, none⟩ = some (.bool true) := hpc3.cell 8
  have q9 : w3.cell? ⟨q, 9, none⟩ = some (.bool true) := hpc3.cell 9
  have q10 : w3.cell? ⟨q, 10, none⟩ = some (.int .i64 nx) := hpc3.cell 10
  have qz : ∀ j, w3.frozen? ⟨q, j, none⟩ = false := fun j => hpc3.frozen j
  clear hpc3 ha3 hw3
  go_wp2_with fail
  go_ret
  refine ⟨rfl, HA3.out.setCell _ (.inl (by simp)) _, HL3.out.piece HP3.out hqb hB _ _, ?_⟩
  exact HP3.out.set 6 _
 ·go_enter Tryz.func140, Tryz.ntmps140
  go_wp2_with fail
  refine HW.out.mono ?_
  rintro e w1 ⟨rfl, hw1, ha1⟩
  have hpc1 := HQ.out.keep ha1 (fun hh => hqb (List.mem_singleton.1 hh).symm)
  have HA1 := Lib.hid ha1
  have HL1 := Lib.hid hw1
  have HP1 := Lib.hid hpc1
  have hql1 := hpc1.lt
  clear q0 q1 q2 q3 q4 q5 q6 q7 q8 q9 q10 qz
  have q0 : w1.cell? ⟨q, 0, none⟩ = some (.bool true) := hpc1.cell 0
  have q1 : w1.cell? ⟨q, 1, none⟩ = some (.bool p) := hpc1.cell 1
  have q2 : w1.cell? ⟨q, 2, none⟩ = some (.bool bl) := hpc1.cell 2
  have q3 : w1.cell? ⟨q, 3, none⟩ = some (.bool al) := hpc1.cell 3
  have q4 : w1.cell? ⟨q, 4, none⟩ = some (.bool z) := hpc1.cell 4
  have q5 : w1.cell? ⟨q, 5, none⟩ = some (.int .i64 wd) := hpc1.cell 5
  have q6 : w1.cell? ⟨q, 6, none⟩ = some (.int .i64 pr) := hpc1.cell 6
  have q7 : w1.cell? ⟨q, 7, none⟩ = some (.int .u8 vb) := hpc1.cell 7
  have q8 : w1.cell? ⟨q, 8, none⟩ = some (.bool true) := hpc1.cell 8
  have q9 : w1.cell? ⟨q, 9, none⟩ = some (.bool true) := hpc1.cell 9
  have q10 : w1.cell? ⟨q, 10, none⟩ = some (.int .i64 nx) := hpc1.cell 10
  have qz : ∀ j, w1.frozen? ⟨q, j, none⟩ = false := fun j => hpc1.frozen j
  clear hpc1 ha1 hw1 HW
  go_wp2_with fail
  generalize hW2 : World.setCell _ _ _ = W2
  have hp2 : PcAt W2 q #[.bool true, .bool p, .bool bl, .bool al, .bool z, .int .i64 (max I (-I)), .int .i64 pr, .int .u8 vb, .bool true, .bool true, .int .i64 nx] := by rw [← hW2]; exact (HP1.out.set 0 (.bool true)).set 5 (.int .i64 (max I (-I)))
  have hl2 : WrL W2 B b conv by_ (d :: L) out := by rw [← hW2]; exact (HL1.out.piece HP1.out hqb hB _ _).piece (HP1.out.set 0 _) hqb hB _ _
  have HA2 : Hid (Apart [b, q] w W2) := by rw [← hW2]; exact (((HA1.out.more (fun x hx => by simp at hx; simp [hx])).setCell _ (.inl (by simp)) _).setCell _ (.inl (by simp)) _)
  have HP2 := Lib.hid hp2
  have HL2 := Lib.hid hl2
  clear hW2 hp2 hl2 HP1 HL1 HA1
  clear q0 q1 q2 q3 q4 q5 q6 q7 q8 q9 q10 qz
  have hw3 := wholeL_cons HL2.out HD.out
  rw [HJ.out] at hw3
  refine hw3.mono ?_
  clear hw3
  rintro e w3 ⟨rfl, hw3, ha3⟩
  have hpc3 := HP2.out.keep ha3 (fun hh => hqb (List.mem_singleton.1 hh).symm)
  have HA3 := Lib.hid (HA2.out.trans ha3 (fun x hx => .inl (by simp at hx; simp [hx])))
  have HL3 := Lib.hid hw3
  have HP3 := Lib.hid hpc3
  have hql3 := hpc3.lt
  have q0 : w3.cell? ⟨q, 0, none⟩ = some (.bool true) := hpc3.cell 0
  have q1 : w3.cell? ⟨q, 1, none⟩ = some (.bool p) := hpc3.cell 1
  have q2 : w3.cell? ⟨q, 2, none⟩ = some (.bool bl) := hpc3.cell 2
  have q3 : w3.cell? ⟨q, 3, none⟩ = some (.bool al) := hpc3.cell 3
  have q4 : w3.cell? ⟨q, 4, none⟩ = some (.bool z) := hpc3.cell 4
  have q5 : w3.cell? ⟨q, 5, none⟩ = some (.int .i64 (max I (-I))) := hpc3.cell 5
  have q6 : w3.cell? ⟨q, 6, none⟩ = some (.int .i64 pr) := hpc3.cell 6
  have q7 : w3.cell? ⟨q, 7, none⟩ = some (.int .u8 vb) := hpc3.cell 7
  have q8 : w3.cell? ⟨q, 8, none⟩ = some (.bool true) := hpc3.cell 8
  have q9 : w3.cell? ⟨q, 9, none⟩ = some (.bool true) := hpc3.cell 9
  have q10 : w3.cell? ⟨q, 10, none⟩ = some (.int .i64 nx) := hpc3.cell 10
  have qz : ∀ j, w3.frozen? ⟨q, j, none⟩ = false := fun j => hpc3.frozen j
  clear hpc3 ha3 hw3
  go_wp2_with fail
  go_ret
  refine ⟨rfl, HA3.out.setCell _ (.inl (by simp)) _, HL3.out.piece HP3.out hqb hB _ _, ?_⟩
  exact HP3.out.set 6 _
end Go.Proofs.YtfdnhkjeoeffoaaGreatDoor
end

section
/- Package ustr: Text. -/
namespace Go.Proofs.YtfdnhkjeoeffoaaGreatDoor
open Go.RowKit
set_option linter.unusedVariables false
theorem cell_u8 (w : World) (d : Nat) (hd : d < 256) : ∀ (j : Nat) (hj : j < [UInt8.ofNat d].length), (w.alloc (.cells #[.int .u8 (d : Int)] 5)).cell? ⟨w.heap.size, j, none⟩ = some (.int .u8 ([UInt8.ofNat d][j].toNat : Nat)) := fun j hj => by
 obtain rfl : j = 0 := by simpa using hj
 have e : (UInt8.ofNat d).toNat = d := by simp; omega
 simp [go_sem, e]
/-- the character of a code -/
def uTextF (n : Int) : ByteArray := if 1114112 ≤ n ∧ n < 1114368 then ⟨#[UInt8.ofNat (n - 1114112).toNat]⟩ else if n < 0 ∨ 1114112 ≤ n ∨ (55296 ≤ n ∧ n < 57344) then ⟨#[]⟩ else Utf8.encode n
set_option maxHeartbeats 4000000 in
set_option maxRecDepth 100000 in
theorem UText_any (n : Int) (w : World) (h0 : 0 ≤ n) (hb : n < 2147483648) :
 Calls Tryz.prog 208 #[.int .i64 n] w fun e w' => e = .returned (.string (uTextF n)) ∧ Below w.heap.size w w' := by
 have g0 : decide (n < 0) = false := by simp; omega
 by_cases h1 : n < 1114112
 ·have g1 : decide (1114112 ≤ n) = false := by simp; omega
  by_cases h3 : 55296 ≤ n
  ·by_cases h4 : n < 57344
   ·have e : Hid (uTextF n = ⟨#[]⟩) := by show _ = _; unfold uTextF; rw [if_neg (by omega), if_pos (by omega)]
    generalize uTextF n = U at *
    go_enter Tryz.func208, Tryz.ntmps208
    go_wp2_with fail
    go_ret
    exact ⟨by rw [e.out]; rfl, Below.refl _ _⟩
   ·have g4 : decide (n < 57344) = false := by simp; omega
    have e : Hid (uTextF n = Utf8.encode n) := by show _ = _; unfold uTextF; rw [if_neg (by omega), if_neg (by omega)]
    generalize uTextF n = U at *
    clear h4
    go_enter Tryz.func208, Tryz.ntmps208
    go_wp2_with fail
    go_ret
    exact ⟨by rw [e.out]; rfl, Below.refl _ _⟩
  ·have g3 : decide (55296 ≤ n) = false := by simp; omega
   have e : Hid (uTextF n = Utf8.encode n) := by show _ = _; unfold uTextF; rw [if_neg (by omega), if_neg (by omega)]
   generalize uTextF n = U at *
   clear h3
   go_enter Tryz.func208, Tryz.ntmps208
   go_wp2_with fail
   go_ret
   exact ⟨by rw [e.out]; rfl, Below.refl _ _⟩
 ·have g1 : 1114112 ≤ n := by omega
  by_cases h2 : n < 1114368
  ·obtain ⟨d, hd⟩ : ∃ d : Nat, n - 1114112 = (d : Int) := ⟨(n - 1114112).toNat, by omega⟩
   have hd2 : d < 256 := by omega
   have e : Hid (uTextF n = ⟨#[UInt8.ofNat d]⟩) := by show _ = _; unfold uTextF; rw [if_pos ⟨g1, h2⟩, hd, Int.toNat_natCast]
   generalize uTextF n = U at *
   have hw : IntKind.u8.wrap (d : Int) = (d : Int) := by rw [IntKind.wrap_u8]; omega
   clear h1 hb
   go_enter Tryz.func208, Tryz.ntmps208
   go_wp2_with (refine wpList_string _ rfl _ rfl w.heap.size 1 [UInt8.ofNat d] rfl (cell_u8 w d hd2) ?_)
   go_ret
   exact ⟨by rw [e.out]; rfl, (Below.refl _ _).alloc (Nat.le_refl _) _⟩
  ·have g2 : decide (n < 1114368) = false := by simp; omega
   have e : Hid (uTextF n = ⟨#[]⟩) := by show _ = _; unfold uTextF; rw [if_neg (by omega), if_pos (by omega)]
   generalize uTextF n = U at *
   clear h1 h2 hb
   go_enter Tryz.func208, Tryz.ntmps208
   go_wp2_with fail
   go_ret
   exact ⟨by rw [e.out]; rfl, Below.refl _ _⟩
end Go.Proofs.YtfdnhkjeoeffoaaGreatDoor
end

section
/- Package printf: letter. -/
namespace Go.Proofs.YtfdnhkjeoeffoaaGreatDoor
open Go.RowKit
set_option linter.unusedVariables false
/-- a number as a character's code -/
def codOk (x : Nat) : Bool := (FloatKind.f64.format.order (truncB x) 0 == some .gt || FloatKind.f64.format.order (truncB x) 0 == some .eq) && (FloatKind.f64.format.order (truncB x) 4746794007248502784 == some .lt)
def codC (x : Nat) : Nat := if codOk x = true then truncB x else 0
def codI (x : Nat) : Int := (floatToIntVal .f64 (codC x) .i64).getD 0
theorem codI_ok {x : Nat} (hx : truncB x < 18446744073709551616) : floatToIntVal .f64 (codC x) .i64 = some (codI x) ∧ 0 ≤ codI x ∧ codI x < 2147483648 := by
 have hk : codC x < 18446744073709551616 ∧ codC x % 9223372036854775808 < 4746794007248502784 ∧ 0 ≤ keyF (codC x) := by
  unfold codC
  cases h : codOk x
  ·rw [if_neg Bool.false_ne_true]; exact ⟨by decide, by decide, by decide⟩
  ·rw [if_pos rfl]
   unfold codOk at h
   rw [Bool.and_eq_true, Bool.or_eq_true] at h
   generalize truncB x = T at *
   have hn : T % 9223372036854775808 ≤ 9218868437227405312 := by
    rcases Nat.lt_or_ge 9218868437227405312 (T % 9223372036854775808) with h1 | h1
    ·exfalso
     obtain ⟨s, f, hr⟩ := read_nanG h1
     have h2 := h.2
     unfold Ieee.Format.order at h2
     rw [hr] at h2
     cases h2
    ·exact h1
   have o1 := order_key hx (show 0 < 18446744073709551616 by decide) hn (by decide)
   have o2 := order_key hx (show 4746794007248502784 < 18446744073709551616 by decide) hn (by decide)
   rw [show keyF 0 = 0 by decide] at o1
   rw [show keyF 4746794007248502784 = 4746794007248502784 by decide] at o2
   rw [o1, o2] at h
   have h1 : 0 ≤ keyF T := by
    rcases h.1 with h3 | h3
    ·have := eq_of_beq h3; exact Int.le_of_lt (Int.compare_eq_gt.1 (Option.some.inj this))
    ·have := eq_of_beq h3; exact Int.le_of_eq (Int.compare_eq_eq.1 (Option.some.inj this)).symm
   have h4 : keyF T < 4746794007248502784 := by
    have := eq_of_beq h.2; exact Int.compare_eq_lt.1 (Option.some.inj this)
   refine ⟨hx, ?_, h1⟩
   unfold keyF at h1 h4
   split at h1
   ·rename_i hlt; rw [if_pos hlt] at h4; omega
   ·rename_i hlt; rw [if_neg hlt] at h4; omega
 obtain ⟨h1, h2, h3⟩ := hk
 unfold codI
 generalize codC x = b at *
 have hv : vl (b % 9223372036854775808) < vl 4746794007248502784 := vl_lt h2
 have hw := (whole_bits (show 2147483648 < 9007199254740992 by decide)).2
 rw [show FloatKind.f64.nearest ((2147483648 : Nat) : Int) = 4746794007248502784 from by kernel_rfl] at hw
 change vl _ = _ at hw
 rw [hw] at hv
 have hq : vl (b % 9223372036854775808) / kk < 2147483648 := (Nat.div_lt_iff_lt_mul kk_pos).2 hv
 obtain ⟨s, e1, e2⟩ := int_fin h1 (Nat.lt_trans h2 (by decide))
 have e3 : (if s then -((vl (b % 9223372036854775808) / kk : Nat) : Int) else ((vl (b % 9223372036854775808) / kk : Nat) : Int)) = ((vl (b % 9223372036854775808) / kk : Nat) : Int) := by
  cases s
  ·rfl
  ·have hz : vl (b % 9223372036854775808) = 0 := by
    clear hv hw hq e1
    rw [if_pos rfl] at e2
    unfold sv at e2
    split at e2
    ·generalize vl (b % 9223372036854775808) = V at *; omega
    ·rename_i hb9
     have hb0 : b % 9223372036854775808 = 0 := by unfold keyF at h3; split at h3 <;> omega
     rw [hb0]; exact vl_zero
   rw [hz, Nat.zero_div]; rfl
 rw [e3] at e1
 clear hv hw e2 e3
 generalize vl (b % 9223372036854775808) / kk = q at *
 have i1 : IntKind.i64.min = -9223372036854775808 := by decide
 have i2 : IntKind.i64.max = 9223372036854775807 := by decide
 have e4 : floatToIntVal .f64 b .i64 = some (q : Int) := by
  unfold floatToIntVal
  rw [e1]
  simp only [i1, i2]
  rw [if_pos (by omega)]
 rw [e4]
 refine ⟨rfl, ?_, ?_⟩
 ·show 0 ≤ (q : Int); omega
 ·show (q : Int) < _; omega
/-- the character that a value stands for -/
def codN (x : Nat) (by_ : Bool) : ByteArray := if (uTextF (codI x)).toList.isEmpty = false ∧ (FloatKind.f64.format.order (codC x) 4697535886324137984 == some .lt) = true ∧ by_ = false then uTextF (codI x) else ⟨#[UInt8.ofNat (codI x % 256).toNat]⟩
def codF (c : CellT) (by_ : Bool) : ByteArray := if c.1 = 1 ∨ c.1 = 3 then codN c.2.1 by_ else c.2.2.extract 0 (placeC c.2.2 by_ 1)
set_option maxHeartbeats 8000000 in
set_option maxRecDepth 100000 in
theorem letter_str {w : World} {b : Nat} (c : CellT) (by_ : Bool) (hk : c.1 ≠ 1 ∧ c.1 ≠ 3) (hs : c.2.2.size ≤ 140737488351232) (hU : U8Ok w) (k1 : w.cell? ⟨b, 1, none⟩ = some (.bool by_)) :
 Calls Tryz.prog 143 #[.pointer (some ⟨b, 0, none⟩), .agg (agC c)] w fun e w' => e = .returned (.string (codF c by_)) ∧ Below w.heap.size w w' := by
 obtain ⟨ck, cx, cs⟩ := c
 have hf : codF (ck, cx, cs) by_ = cs.extract 0 (placeC cs by_ 1) := if_neg (fun h => by rcases h with h | h; exact hk.1 h; exact hk.2 h)
 rw [hf]
 have e1 : (ck == 1) = false := beq_eq_false_iff_ne.2 hk.1
 have e3 : (ck == 3) = false := beq_eq_false_iff_ne.2 hk.2
 have f1 : (ck != 1) = true := by unfold bne; rw [e1]; rfl
 have f3 : (ck != 3) = true := by unfold bne; rw [e3]; rfl
 have HS : Hid (∀ W, U8Ok W → Calls Tryz.prog 124 #[.string cs, .int .i64 1, .int .i64 2, .bool by_] W fun e w' => e = .returned (.string (cs.extract 0 (placeC cs by_ 1))) ∧ Below W.heap.size W w') := fun W h => USub_any cs 1 by_ W (by decide) hs h
 generalize cs.extract 0 (placeC cs by_ 1) = O at *
 have hlt := cell_lt k1
 have hz0 := (Below.refl w.heap.size w).alloc (Nat.le_refl _) (.cells #[.int .i64 ck, .float .f64 cx, .string cs] 48)
 have HU := Lib.hid (hU.below hz0)
 have HB0 := Lib.hid hz0
 have kb : (w.alloc (.cells #[.int .i64 ck, .float .f64 cx, .string cs] 48)).cell? ⟨b, 1, none⟩ = some (.bool by_) := (hz0.cell (p := ⟨b, 1, none⟩) hlt).trans k1
 have kc : (w.alloc (.cells #[.int .i64 ck, .float .f64 cx, .string cs] 48)).cell? ⟨w.heap.size, 2, none⟩ = some (.string cs) := by simp [go_sem]
 have HKK := Lib.hid (And.intro kb kc)
 unfold agC cellA
 simp only []
 clear hk hf hU hz0 kb kc hs
 go_enter Tryz.func143, Tryz.ntmps143
 go_wp2_with fail
 have kb := HKK.out.1
 have kc := HKK.out.2
 refine wp_region_guarded (by kernel_rfl) (by kernel_rfl) (fun a0 V0 L a W => ∃ u : Nat → Value, a = { tmps := (((((((((a0.tmps.setIfInBounds 15 (u 0)).setIfInBounds 16 (u 1)).setIfInBounds 17 (u 2)).setIfInBounds 18 (u 3)).setIfInBounds 19 (u 4)).setIfInBounds 20 (u 5)).setIfInBounds 21 (u 6)).setIfInBounds 22 (u 7)).setIfInBounds 4 (u 8)), defers := a0.defers } ∧ Hid (Below V0.heap.size V0 W) ∧ Hid (∀ i, L i = true → u i = valAt [.pointer (some ⟨w.heap.size, 2, none⟩), .string cs, .pointer (some ⟨b, 0, none⟩), .pointer (some ⟨b, 0, none⟩), .pointer (some ⟨b, 0, none⟩), .pointer (some ⟨b, 1, none⟩), .bool by_, .string O, .string O] i)) ?h0 ?hstep ?hdone
 case h0 =>
  refine ⟨valAt [undef, undef, undef, undef, undef, undef, undef, undef, .string ⟨#[]⟩], ?_, (Below.refl _ _).drew, fun _ h => (by cases h)⟩
  kernel_rfl
 case hstep =>
  refine ⟨?o0, ?o1, ?o2, ?o3, ?o4, ?o5, ?o6, ?o7, ?o8, trivial⟩
  case o0 =>
   rintro L a' W ⟨u, rfl, HI, E⟩ hL hd K hK
   simp only [List.setIfInBounds_toArray, List.set_cons_zero, List.set_cons_succ]
   refine ite_take rfl ?_
   clear hL hd
   go_simp
   refine hK _ _ ⟨withVal u 0 (.pointer (some ⟨w.heap.size, 2, none⟩)), ?_, HI, withVal_next E 0 _ rfl⟩
   kernel_rfl
  case o1 =>
   rintro L a' W ⟨u, rfl, HI, E⟩ hL hd K hK
   have e0 : u 0 = .pointer (some ⟨w.heap.size, 2, none⟩) := E.out 0 (hd 0 (List.elem_iff.1 (by kernel_rfl)))
   have kkc := cellNext HI.out kc
   simp only [List.setIfInBounds_toArray, List.set_cons_zero, List.set_cons_succ, e0]
   refine ite_take rfl ?_
   clear hL hd
   go_simp
   refine hK _ _ ⟨withVal (withVal u 0 (.pointer (some ⟨w.heap.size, 2, none⟩))) 1 (.string cs), ?_, HI, withVal_next (withVal_same E 0 _ rfl) 1 _ rfl⟩
   kernel_rfl
  case o2 =>
   rintro L a' W ⟨u, rfl, HI, E⟩ hL hd K hK
   simp only [List.setIfInBounds_toArray, List.set_cons_zero, List.set_cons_succ]
   refine ite_take rfl ?_
   clear hL hd
   go_simp
   refine hK _ _ ⟨withVal u 2 (.pointer (some ⟨b, 0, none⟩)), ?_, HI, withVal_next E 2 _ rfl⟩
   kernel_rfl
  case o3 =>
   rintro L a' W ⟨u, rfl, HI, E⟩ hL hd K hK
   have e2 : u 2 = .pointer (some ⟨b, 0, none⟩) := E.out 2 (hd 2 (List.elem_iff.1 (by kernel_rfl)))
   simp only [List.setIfInBounds_toArray, List.set_cons_zero, List.set_cons_succ, e2]
   refine ite_take rfl ?_
   clear hL hd
   go_simp
   refine hK _ _ ⟨withVal (withVal u 2 (.pointer (some ⟨b, 0, none⟩))) 3 (.pointer (some ⟨b, 0, none⟩)), ?_, HI, withVal_next (withVal_same E 2 _ rfl) 3 _ rfl⟩
   kernel_rfl
  case o4 =>
   rintro L a' W ⟨u, rfl, HI, E⟩ hL hd K hK
   have e3 : u 3 = .pointer (some ⟨b, 0, none⟩) := E.out 3 (hd 3 (List.elem_iff.1 (by kernel_rfl)))
   simp only [List.setIfInBounds_toArray, List.set_cons_zero, List.set_cons_succ, e3]
   refine ite_take rfl ?_
   clear hL hd
   go_simp
   refine hK _ _ ⟨withVal (withVal u 3 (.pointer (some ⟨b, 0, none⟩))) 4 (.pointer (some ⟨b, 0, none⟩)), ?_, HI, withVal_next (withVal_same E 3 _ rfl) 4 _ rfl⟩
   kernel_rfl
  case o5 =>
   rintro L a' W ⟨u, rfl, HI, E⟩ hL hd K hK
   have e4 : u 4 = .pointer (some ⟨b, 0, none⟩) := E.out 4 (hd 4 (List.elem_iff.1 (by kernel_rfl)))
   simp only [List.setIfInBounds_toArray, List.set_cons_zero, List.set_cons_succ, e4]
   refine ite_take rfl ?_
   clear hL hd
   go_simp
   refine hK _ _ ⟨withVal (withVal u 4 (.pointer (some ⟨b, 0, none⟩))) 5 (.pointer (some ⟨b, 1, none⟩)), ?_, HI, withVal_next (withVal_same E 4 _ rfl) 5 _ rfl⟩
   kernel_rfl
  case o6 =>
   rintro L a' W ⟨u, rfl, HI, E⟩ hL hd K hK
   have e5 : u 5 = .pointer (some ⟨b, 1, none⟩) := E.out 5 (hd 5 (List.elem_iff.1 (by kernel_rfl)))
   have kkb := cellNext HI.out kb
   simp only [List.setIfInBounds_toArray, List.set_cons_zero, List.set_cons_succ, e5]
   refine ite_take rfl ?_
   clear hL hd
   go_simp
   refine hK _ _ ⟨withVal (withVal u 5 (.pointer (some ⟨b, 1, none⟩))) 6 (.bool by_), ?_, HI, withVal_next (withVal_same E 5 _ rfl) 6 _ rfl⟩
   kernel_rfl
  case o7 =>
   rintro L a' W ⟨u, rfl, HI, E⟩ hL hd K hK
   have e1 : u 1 = .string cs := E.out 1 (hd 1 (List.elem_iff.1 (by kernel_rfl)))
   have e6 : u 6 = .bool by_ := E.out 6 (hd 6 (List.elem_iff.1 (by kernel_rfl)))
   simp only [List.setIfInBounds_toArray, List.set_cons_zero, List.set_cons_succ, e1, e6]
   refine ite_take rfl ?_
   clear hL hd
   go_simp
   refine (HS.out W (HU.out.below HI.out)).mono ?_
   rintro e W' ⟨rfl, hb⟩
   refine hK _ _ ⟨withVal (withVal (withVal u 1 (.string cs)) 6 (.bool by_)) 7 (.string O), ?_, HI.out.trans (hb.mono HI.out.size), withVal_next (withVal_same (withVal_same E 1 _ rfl) 6 _ rfl) 7 _ rfl⟩
   kernel_rfl
  case o8 =>
   rintro L a' W ⟨u, rfl, HI, E⟩ hL hd K hK
   have e7 : u 7 = .string O := E.out 7 (hd 7 (List.elem_iff.1 (by kernel_rfl)))
   simp only [List.setIfInBounds_toArray, List.set_cons_zero, List.set_cons_succ, e7]
   refine ite_take rfl ?_
   clear hL hd
   go_simp
   refine hK _ _ ⟨withVal (withVal u 7 (.string O)) 8 (.string O), ?_, HI, withVal_next (withVal_same E 7 _ rfl) 8 _ rfl⟩
   kernel_rfl
 case hdone =>
  rintro L a' W1 hall ⟨u, rfl, HI, E⟩
  have e0 : u 0 = .pointer (some ⟨w.heap.size, 2, none⟩) := E.out 0 (hall 0 (by decide))
  have e1 : u 1 = .string cs := E.out 1 (hall 1 (by decide))
  have e2 : u 2 = .pointer (some ⟨b, 0, none⟩) := E.out 2 (hall 2 (by decide))
  have e3 : u 3 = .pointer (some ⟨b, 0, none⟩) := E.out 3 (hall 3 (by decide))
  have e4 : u 4 = .pointer (some ⟨b, 0, none⟩) := E.out 4 (hall 4 (by decide))
  have e5 : u 5 = .pointer (some ⟨b, 1, none⟩) := E.out 5 (hall 5 (by decide))
  have e6 : u 6 = .bool by_ := E.out 6 (hall 6 (by decide))
  have e7 : u 7 = .string O := E.out 7 (hall 7 (by decide))
  have e8 : u 8 = .string O := E.out 8 (hall 8 (by decide))
  simp only [List.setIfInBounds_toArray, List.set_cons_zero, List.set_cons_succ, e0, e1, e2, e3, e4, e5, e6, e7, e8]
  clear hall E
  go_wp2_with fail
  go_ret
  exact ⟨rfl, HB0.out.trans (HI.out.mono HB0.out.size)⟩
set_option maxHeartbeats 8000000 in
set_option maxRecDepth 100000 in
theorem letter_num {w : World} {b : Nat} (c : CellT) (by_ : Bool) (hk : c.1 = 1 ∨ c.1 = 3) (hx : c.2.1 < 18446744073709551616) (k1 : w.cell? ⟨b, 1, none⟩ = some (.bool by_)) :
 Calls Tryz.prog 143 #[.pointer (some ⟨b, 0, none⟩), .agg (agC c)] w fun e w' => e = .returned (.string (codF c by_)) ∧ Below w.heap.size w w' := by
 obtain ⟨ck, cx, cs⟩ := c
 have hf : codF (ck, cx, cs) by_ = codN cx by_ := if_pos hk
 rw [hf]
 simp only [] at hx hk
 have HTr := Lib.hid (fun W => Trunc_any cx W hx)
 obtain ⟨i1, i2, i3⟩ := codI_ok (trunc_lt hx)
 have HTx := Lib.hid (fun W => UText_any (codI cx) W i2 i3)
 have m3 : ∀ w, (convert 24 3 (.float .f64 (codC cx))).run Tryz.prog w = .ok (.int .i64 (codI cx)) w := fun w => run_convert_float_int w 24 3 .f64 .i64 _ _ (by rw [Tryz.underlying24]; rfl) Tryz.underlying3 i1
 have hN : Hid (codN cx by_ = if (uTextF (codI cx)).toList.isEmpty = false ∧ (FloatKind.f64.format.order (codC cx) 4697535886324137984 == some .lt) = true ∧ by_ = false then uTextF (codI cx) else ⟨#[UInt8.ofNat (codI cx % 256).toNat]⟩) := rfl
 have hC : codC cx = if codOk cx = true then truncB cx else 0 := rfl
 have hOk : codOk cx = ((FloatKind.f64.format.order (truncB cx) 0 == some .gt || FloatKind.f64.format.order (truncB cx) 0 == some .eq) && (FloatKind.f64.format.order (truncB cx) 4746794007248502784 == some .lt)) := rfl
 generalize codN cx by_ = O at *
 generalize codI cx = I at *
 generalize codC cx = C at *
 generalize codOk cx = ok at *
 generalize truncB cx = T at *
 generalize uTextF I = U at *
 obtain ⟨d, hd⟩ : ∃ d : Nat, I % 256 = (d : Int) := ⟨(I % 256).toNat, by omega⟩
 have hd2 : d < 256 := by omega
 have hw : IntKind.u8.wrap I = (d : Int) := by rw [IntKind.wrap_u8]; exact hd
 rw [hd, Int.toNat_natCast] at hN
 have hlt := cell_lt k1
 have hz0 := (Below.refl w.heap.size w).alloc (Nat.le_refl _) (.cells #[.int .i64 ck, .float .f64 cx, .string cs] 48)
 have HB0 := Lib.hid hz0
 have kb : (w.alloc (.cells #[.int .i64 ck, .float .f64 cx, .string cs] 48)).cell? ⟨b, 1, none⟩ = some (.bool by_) := (hz0.cell (p := ⟨b, 1, none⟩) hlt).trans k1
 unfold agC cellA
 simp only []
 clear hz0 i1 hf hd k1
 have hkk : (ck != 1 && ck != 3) = false := by rcases hk with rfl | rfl <;> rfl
 rcases hk with rfl | rfl
 ·clear hkk
  cases ha : (FloatKind.f64.format.order T 0 == some .gt)
  ·cases hb : (FloatKind.f64.format.order T 0 == some .eq)
   ·rw [ha, hb] at hOk
    have ho : ok = false := hOk.trans rfl
    rw [ho, if_neg Bool.false_ne_true] at hC
    clear ho hOk
    subst hC
    cases hE : U.toList.isEmpty
    ·rw [hE] at hN
     have hE2 : ¬ U.toList = [] := fun h => by rw [h] at hE; cases hE
     cases hL : (FloatKind.f64.format.order 0 4697535886324137984 == some .lt)
     ·rw [hL, if_neg (fun h => by cases h.2.1)] at hN
      go_enter Tryz.func143, Tryz.ntmps143
      go_wp2_with fail
      refine (HTr.out _).mono ?_
      rintro e _ ⟨rfl, rfl⟩
      go_wp2_with fail
      refine (HTx.out _).mono ?_
      rintro e w1 ⟨rfl, hb1⟩
      have kb1 := cell_next hb1 kb
      have hb1b : b < w1.heap.size := by have := hb1.size; simp at this; omega
      have HB1 := Lib.hid (HB0.out.trans (hb1.mono HB0.out.size))
      clear hb1 kb
      go_wp2_with (refine wpList_string _ rfl _ rfl w1.heap.size 1 [UInt8.ofNat d] rfl (cell_u8 w1 d hd2) ?_)
      go_ret
      exact ⟨by rw [hN.out]; rfl, HB1.out.alloc HB1.out.size _⟩
     ·cases by_
      ·rw [hL, if_pos ⟨rfl, rfl, rfl⟩] at hN
       go_enter Tryz.func143, Tryz.ntmps143
       go_wp2_with fail
       refine (HTr.out _).mono ?_
       rintro e _ ⟨rfl, rfl⟩
       go_wp2_with fail
       refine (HTx.out _).mono ?_
       rintro e w1 ⟨rfl, hb1⟩
       have kb1 := cell_next hb1 kb
       have hb1b : b < w1.heap.size := by have := hb1.size; simp at this; omega
       have HB1 := Lib.hid (HB0.out.trans (hb1.mono HB0.out.size))
       clear hb1 kb
       go_wp2_with fail
       go_ret
       exact ⟨by rw [hN.out]; rfl, HB1.out⟩
      ·rw [hL, if_neg (fun h => by cases h.2.2)] at hN
       go_enter Tryz.func143, Tryz.ntmps143
       go_wp2_with fail
       refine (HTr.out _).mono ?_
       rintro e _ ⟨rfl, rfl⟩
       go_wp2_with fail
       refine (HTx.out _).mono ?_
       rintro e w1 ⟨rfl, hb1⟩
       have kb1 := cell_next hb1 kb
       have hb1b : b < w1.heap.size := by have := hb1.size; simp at this; omega
       have HB1 := Lib.hid (HB0.out.trans (hb1.mono HB0.out.size))
       clear hb1 kb
       go_wp2_with (refine wpList_string _ rfl _ rfl w1.heap.size 1 [UInt8.ofNat d] rfl (cell_u8 w1 d hd2) ?_)
       go_ret
       exact ⟨by rw [hN.out]; rfl, HB1.out.alloc HB1.out.size _⟩
    ·rw [hE, if_neg (fun h => by cases h.1)] at hN
     have hE2 : U.toList = [] := by cases hU : U.toList with | nil => rfl | cons x r => rw [hU] at hE; cases hE
     go_enter Tryz.func143, Tryz.ntmps143
     go_wp2_with fail
     refine (HTr.out _).mono ?_
     rintro e _ ⟨rfl, rfl⟩
     go_wp2_with fail
     refine (HTx.out _).mono ?_
     rintro e w1 ⟨rfl, hb1⟩
     have kb1 := cell_next hb1 kb
     have hb1b : b < w1.heap.size := by have := hb1.size; simp at this; omega
     have HB1 := Lib.hid (HB0.out.trans (hb1.mono HB0.out.size))
     clear hb1 kb
     go_wp2_with (refine wpList_string _ rfl _ rfl w1.heap.size 1 [UInt8.ofNat d] rfl (cell_u8 w1 d hd2) ?_)
     go_ret
     exact ⟨by rw [hN.out]; rfl, HB1.out.alloc HB1.out.size _⟩
   ·cases hc : (FloatKind.f64.format.order T 4746794007248502784 == some .lt)
    ·rw [ha, hb, hc] at hOk
     have ho : ok = false := hOk.trans rfl
     rw [ho, if_neg Bool.false_ne_true] at hC
     clear ho hOk
     subst hC
     cases hE : U.toList.isEmpty
     ·rw [hE] at hN
      have hE2 : ¬ U.toList = [] := fun h => by rw [h] at hE; cases hE
      cases hL : (FloatKind.f64.format.order 0 4697535886324137984 == some .lt)
      ·rw [hL, if_neg (fun h => by cases h.2.1)] at hN
       go_enter Tryz.func143, Tryz.ntmps143
       go_wp2_with fail
       refine (HTr.out _).mono ?_
       rintro e _ ⟨rfl, rfl⟩
       go_wp2_with fail
       refine (HTx.out _).mono ?_
       rintro e w1 ⟨rfl, hb1⟩
       have kb1 := cell_next hb1 kb
       have hb1b : b < w1.heap.size := by have := hb1.size; simp at this; omega
       have HB1 := Lib.hid (HB0.out.trans (hb1.mono HB0.out.size))
       clear hb1 kb
       go_wp2_with (refine wpList_string _ rfl _ rfl w1.heap.size 1 [UInt8.ofNat d] rfl (cell_u8 w1 d hd2) ?_)
       go_ret
       exact ⟨by rw [hN.out]; rfl, HB1.out.alloc HB1.out.size _⟩
      ·cases by_
       ·rw [hL, if_pos ⟨rfl, rfl, rfl⟩] at hN
        go_enter Tryz.func143, Tryz.ntmps143
        go_wp2_with fail
        refine (HTr.out _).mono ?_
        rintro e _ ⟨rfl, rfl⟩
        go_wp2_with fail
        refine (HTx.out _).mono ?_
        rintro e w1 ⟨rfl, hb1⟩
        have kb1 := cell_next hb1 kb
        have hb1b : b < w1.heap.size := by have := hb1.size; simp at this; omega
        have HB1 := Lib.hid (HB0.out.trans (hb1.mono HB0.out.size))
        clear hb1 kb
        go_wp2_with fail
        go_ret
        exact ⟨by rw [hN.out]; rfl, HB1.out⟩
       ·rw [hL, if_neg (fun h => by cases h.2.2)] at hN
        go_enter Tryz.func143, Tryz.ntmps143
        go_wp2_with fail
        refine (HTr.out _).mono ?_
        rintro e _ ⟨rfl, rfl⟩
        go_wp2_with fail
        refine (HTx.out _).mono ?_
        rintro e w1 ⟨rfl, hb1⟩
        have kb1 := cell_next hb1 kb
        have hb1b : b < w1.heap.size := by have := hb1.size; simp at this; omega
        have HB1 := Lib.hid (HB0.out.trans (hb1.mono HB0.out.size))
        clear hb1 kb
        go_wp2_with (refine wpList_string _ rfl _ rfl w1.heap.size 1 [UInt8.ofNat d] rfl (cell_u8 w1 d hd2) ?_)
        go_ret
        exact ⟨by rw [hN.out]; rfl, HB1.out.alloc HB1.out.size _⟩
     ·rw [hE, if_neg (fun h => by cases h.1)] at hN
      have hE2 : U.toList = [] := by cases hU : U.toList with | nil => rfl | cons x r => rw [hU] at hE; cases hE
      go_enter Tryz.func143, Tryz.ntmps143
      go_wp2_with fail
      refine (HTr.out _).mono ?_
      rintro e _ ⟨rfl, rfl⟩
      go_wp2_with fail
      refine (HTx.out _).mono ?_
      rintro e w1 ⟨rfl, hb1⟩
      have kb1 := cell_next hb1 kb
      have hb1b : b < w1.heap.size := by have := hb1.size; simp at this; omega
      have HB1 := Lib.hid (HB0.out.trans (hb1.mono HB0.out.size))
      clear hb1 kb
      go_wp2_with (refine wpList_string _ rfl _ rfl w1.heap.size 1 [UInt8.ofNat d] rfl (cell_u8 w1 d hd2) ?_)
      go_ret
      exact ⟨by rw [hN.out]; rfl, HB1.out.alloc HB1.out.size _⟩
    ·rw [ha, hb, hc] at hOk
     have ho : ok = true := hOk.trans rfl
     rw [ho, if_pos rfl] at hC
     clear ho hOk
     subst hC
     cases hE : U.toList.isEmpty
     ·rw [hE] at hN
      have hE2 : ¬ U.toList = [] := fun h => by rw [h] at hE; cases hE
      cases hL : (FloatKind.f64.format.order C 4697535886324137984 == some .lt)
      ·rw [hL, if_neg (fun h => by cases h.2.1)] at hN
       go_enter Tryz.func143, Tryz.ntmps143
       go_wp2_with fail
       refine (HTr.out _).mono ?_
       rintro e _ ⟨rfl, rfl⟩
       go_wp2_with fail
       refine (HTx.out _).mono ?_
       rintro e w1 ⟨rfl, hb1⟩
       have kb1 := cell_next hb1 kb
       have hb1b : b < w1.heap.size := by have := hb1.size; simp at this; omega
       have HB1 := Lib.hid (HB0.out.trans (hb1.mono HB0.out.size))
       clear hb1 kb
       go_wp2_with (refine wpList_string _ rfl _ rfl w1.heap.size 1 [UInt8.ofNat d] rfl (cell_u8 w1 d hd2) ?_)
       go_ret
       exact ⟨by rw [hN.out]; rfl, HB1.out.alloc HB1.out.size _⟩
      ·cases by_
       ·rw [hL, if_pos ⟨rfl, rfl, rfl⟩] at hN
        go_enter Tryz.func143, Tryz.ntmps143
        go_wp2_with fail
        refine (HTr.out _).mono ?_
        rintro e _ ⟨rfl, rfl⟩
        go_wp2_with fail
        refine (HTx.out _).mono ?_
        rintro e w1 ⟨rfl, hb1⟩
        have kb1 := cell_next hb1 kb
        have hb1b : b < w1.heap.size := by have := hb1.size; simp at this; omega
        have HB1 := Lib.hid (HB0.out.trans (hb1.mono HB0.out.size))
        clear hb1 kb
        go_wp2_with fail
        go_ret
        exact ⟨by rw [hN.out]; rfl, HB1.out⟩
       ·rw [hL, if_neg (fun h => by cases h.2.2)] at hN
        go_enter Tryz.func143, Tryz.ntmps143
        go_wp2_with fail
        refine (HTr.out _).mono ?_
        rintro e _ ⟨rfl, rfl⟩
        go_wp2_with fail
        refine (HTx.out _).mono ?_
        rintro e w1 ⟨rfl, hb1⟩
        have kb1 := cell_next hb1 kb
        have hb1b : b < w1.heap.size := by have := hb1.size; simp at this; omega
        have HB1 := Lib.hid (HB0.out.trans (hb1.mono HB0.out.size))
        clear hb1 kb
        go_wp2_with (refine wpList_string _ rfl _ rfl w1.heap.size 1 [UInt8.ofNat d] rfl (cell_u8 w1 d hd2) ?_)
        go_ret
        exact ⟨by rw [hN.out]; rfl, HB1.out.alloc HB1.out.size _⟩
     ·rw [hE, if_neg (fun h => by cases h.1)] at hN
      have hE2 : U.toList = [] := by cases hU : U.toList with | nil => rfl | cons x r => rw [hU] at hE; cases hE
      go_enter Tryz.func143, Tryz.ntmps143
      go_wp2_with fail
      refine (HTr.out _).mono ?_
      rintro e _ ⟨rfl, rfl⟩
      go_wp2_with fail
      refine (HTx.out _).mono ?_
      rintro e w1 ⟨rfl, hb1⟩
      have kb1 := cell_next hb1 kb
      have hb1b : b < w1.heap.size := by have := hb1.size; simp at this; omega
      have HB1 := Lib.hid (HB0.out.trans (hb1.mono HB0.out.size))
      clear hb1 kb
      go_wp2_with (refine wpList_string _ rfl _ rfl w1.heap.size 1 [UInt8.ofNat d] rfl (cell_u8 w1 d hd2) ?_)
      go_ret
      exact ⟨by rw [hN.out]; rfl, HB1.out.alloc HB1.out.size _⟩
  ·cases hc : (FloatKind.f64.format.order T 4746794007248502784 == some .lt)
   ·rw [ha, hc] at hOk
    have ho : ok = false := hOk.trans rfl
    rw [ho, if_neg Bool.false_ne_true] at hC
    clear ho hOk
    subst hC
    cases hE : U.toList.isEmpty
    ·rw [hE] at hN
     have hE2 : ¬ U.toList = [] := fun h => by rw [h] at hE; cases hE
     cases hL : (FloatKind.f64.format.order 0 4697535886324137984 == some .lt)
     ·rw [hL, if_neg (fun h => by cases h.2.1)] at hN
      go_enter Tryz.func143, Tryz.ntmps143
      go_wp2_with fail
      refine (HTr.out _).mono ?_
      rintro e _ ⟨rfl, rfl⟩
      go_wp2_with fail
      refine (HTx.out _).mono ?_
      rintro e w1 ⟨rfl, hb1⟩
      have kb1 := cell_next hb1 kb
      have hb1b : b < w1.heap.size := by have := hb1.size; simp at this; omega
      have HB1 := Lib.hid (HB0.out.trans (hb1.mono HB0.out.size))
      clear hb1 kb
      go_wp2_with (refine wpList_string _ rfl _ rfl w1.heap.size 1 [UInt8.ofNat d] rfl (cell_u8 w1 d hd2) ?_)
      go_ret
      exact ⟨by rw [hN.out]; rfl, HB1.out.alloc HB1.out.size _⟩
     ·cases by_
      ·rw [hL, if_pos ⟨rfl, rfl, rfl⟩] at hN
       go_enter Tryz.func143, Tryz.ntmps143
       go_wp2_with fail
       refine (HTr.out _).mono ?_
       rintro e _ ⟨rfl, rfl⟩
       go_wp2_with fail
       refine (HTx.out _).mono ?_
       rintro e w1 ⟨rfl, hb1⟩
       have kb1 := cell_next hb1 kb
       have hb1b : b < w1.heap.size := by have := hb1.size; simp at this; omega
       have HB1 := Lib.hid (HB0.out.trans (hb1.mono HB0.out.size))
       clear hb1 kb
       go_wp2_with fail
       go_ret
       exact ⟨by rw [hN.out]; rfl, HB1.out⟩
      ·rw [hL, if_neg (fun h => by cases h.2.2)] at hN
       go_enter Tryz.func143, Tryz.ntmps143
       go_wp2_with fail
       refine (HTr.out _).mono ?_
       rintro e _ ⟨rfl, rfl⟩
       go_wp2_with fail
       refine (HTx.out _).mono ?_
       rintro e w1 ⟨rfl, hb1⟩
       have kb1 := cell_next hb1 kb
       have hb1b : b < w1.heap.size := by have := hb1.size; simp at this; omega
       have HB1 := Lib.hid (HB0.out.trans (hb1.mono HB0.out.size))
       clear hb1 kb
       go_wp2_with (refine wpList_string _ rfl _ rfl w1.heap.size 1 [UInt8.ofNat d] rfl (cell_u8 w1 d hd2) ?_)
       go_ret
       exact ⟨by rw [hN.out]; rfl, HB1.out.alloc HB1.out.size _⟩
    ·rw [hE, if_neg (fun h => by cases h.1)] at hN
     have hE2 : U.toList = [] := by cases hU : U.toList with | nil => rfl | cons x r => rw [hU] at hE; cases hE
     go_enter Tryz.func143, Tryz.ntmps143
     go_wp2_with fail
     refine (HTr.out _).mono ?_
     rintro e _ ⟨rfl, rfl⟩
     go_wp2_with fail
     refine (HTx.out _).mono ?_
     rintro e w1 ⟨rfl, hb1⟩
     have kb1 := cell_next hb1 kb
     have hb1b : b < w1.heap.size := by have := hb1.size; simp at this; omega
     have HB1 := Lib.hid (HB0.out.trans (hb1.mono HB0.out.size))
     clear hb1 kb
     go_wp2_with (refine wpList_string _ rfl _ rfl w1.heap.size 1 [UInt8.ofNat d] rfl (cell_u8 w1 d hd2) ?_)
     go_ret
     exact ⟨by rw [hN.out]; rfl, HB1.out.alloc HB1.out.size _⟩
   ·rw [ha, hc] at hOk
    have ho : ok = true := hOk.trans rfl
    rw [ho, if_pos rfl] at hC
    clear ho hOk
    subst hC
    cases hE : U.toList.isEmpty
    ·rw [hE] at hN
     have hE2 : ¬ U.toList = [] := fun h => by rw [h] at hE; cases hE
     cases hL : (FloatKind.f64.format.order C 4697535886324137984 == some .lt)
     ·rw [hL, if_neg (fun h => by cases h.2.1)] at hN
      go_enter Tryz.func143, Tryz.ntmps143
      go_wp2_with fail
      refine (HTr.out _).mono ?_
      rintro e _ ⟨rfl, rfl⟩
      go_wp2_with fail
      refine (HTx.out _).mono ?_
      rintro e w1 ⟨rfl, hb1⟩
      have kb1 := cell_next hb1 kb
      have hb1b : b < w1.heap.size := by have := hb1.size; simp at this; omega
      have HB1 := Lib.hid (HB0.out.trans (hb1.mono HB0.out.size))
      clear hb1 kb
      go_wp2_with (refine wpList_string _ rfl _ rfl w1.heap.size 1 [UInt8.ofNat d] rfl (cell_u8 w1 d hd2) ?_)
      go_ret
      exact ⟨by rw [hN.out]; rfl, HB1.out.alloc HB1.out.size _⟩
     ·cases by_
      ·rw [hL, if_pos ⟨rfl, rfl, rfl⟩] at hN
       go_enter Tryz.func143, Tryz.ntmps143
       go_wp2_with fail
       refine (HTr.out _).mono ?_
       rintro e _ ⟨rfl, rfl⟩
       go_wp2_with fail
       refine (HTx.out _).mono ?_
       rintro e w1 ⟨rfl, hb1⟩
       have kb1 := cell_next hb1 kb
       have hb1b : b < w1.heap.size := by have := hb1.size; simp at this; omega
       have HB1 := Lib.hid (HB0.out.trans (hb1.mono HB0.out.size))
       clear hb1 kb
       go_wp2_with fail
       go_ret
       exact ⟨by rw [hN.out]; rfl, HB1.out⟩
      ·rw [hL, if_neg (fun h => by cases h.2.2)] at hN
       go_enter Tryz.func143, Tryz.ntmps143
       go_wp2_with fail
       refine (HTr.out _).mono ?_
       rintro e _ ⟨rfl, rfl⟩
       go_wp2_with fail
       refine (HTx.out _).mono ?_
       rintro e w1 ⟨rfl, hb1⟩
       have kb1 := cell_next hb1 kb
       have hb1b : b < w1.heap.size := by have := hb1.size; simp at this; omega
       have HB1 := Lib.hid (HB0.out.trans (hb1.mono HB0.out.size))
       clear hb1 kb
       go_wp2_with (refine wpList_string _ rfl _ rfl w1.heap.size 1 [UInt8.ofNat d] rfl (cell_u8 w1 d hd2) ?_)
       go_ret
       exact ⟨by rw [hN.out]; rfl, HB1.out.alloc HB1.out.size _⟩
    ·rw [hE, if_neg (fun h => by cases h.1)] at hN
     have hE2 : U.toList = [] := by cases hU : U.toList with | nil => rfl | cons x r => rw [hU] at hE; cases hE
     go_enter Tryz.func143, Tryz.ntmps143
     go_wp2_with fail
     refine (HTr.out _).mono ?_
     rintro e _ ⟨rfl, rfl⟩
     go_wp2_with fail
     refine (HTx.out _).mono ?_
     rintro e w1 ⟨rfl, hb1⟩
     have kb1 := cell_next hb1 kb
     have hb1b : b < w1.heap.size := by have := hb1.size; simp at this; omega
     have HB1 := Lib.hid (HB0.out.trans (hb1.mono HB0.out.size))
     clear hb1 kb
     go_wp2_with (refine wpList_string _ rfl _ rfl w1.heap.size 1 [UInt8.ofNat d] rfl (cell_u8 w1 d hd2) ?_)
     go_ret
     exact ⟨by rw [hN.out]; rfl, HB1.out.alloc HB1.out.size _⟩
 ·clear hkk
  cases ha : (FloatKind.f64.format.order T 0 == some .gt)
  ·cases hb : (FloatKind.f64.format.order T 0 == some .eq)
   ·rw [ha, hb] at hOk
    have ho : ok = false := hOk.trans rfl
    rw [ho, if_neg Bool.false_ne_true] at hC
    clear ho hOk
    subst hC
    cases hE : U.toList.isEmpty
    ·rw [hE] at hN
     have hE2 : ¬ U.toList = [] := fun h => by rw [h] at hE; cases hE
     cases hL : (FloatKind.f64.format.order 0 4697535886324137984 == some .lt)
     ·rw [hL, if_neg (fun h => by cases h.2.1)] at hN
      go_enter Tryz.func143, Tryz.ntmps143
      go_wp2_with fail
      refine (HTr.out _).mono ?_
      rintro e _ ⟨rfl, rfl⟩
      go_wp2_with fail
      refine (HTx.out _).mono ?_
      rintro e w1 ⟨rfl, hb1⟩
      have kb1 := cell_next hb1 kb
      have hb1b : b < w1.heap.size := by have := hb1.size; simp at this; omega
      have HB1 := Lib.hid (HB0.out.trans (hb1.mono HB0.out.size))
      clear hb1 kb
      go_wp2_with (refine wpList_string _ rfl _ rfl w1.heap.size 1 [UInt8.ofNat d] rfl (cell_u8 w1 d hd2) ?_)
      go_ret
      exact ⟨by rw [hN.out]; rfl, HB1.out.alloc HB1.out.size _⟩
     ·cases by_
      ·rw [hL, if_pos ⟨rfl, rfl, rfl⟩] at hN
       go_enter Tryz.func143, Tryz.ntmps143
       go_wp2_with fail
       refine (HTr.out _).mono ?_
       rintro e _ ⟨rfl, rfl⟩
       go_wp2_with fail
       refine (HTx.out _).mono ?_
       rintro e w1 ⟨rfl, hb1⟩
       have kb1 := cell_next hb1 kb
       have hb1b : b < w1.heap.size := by have := hb1.size; simp at this; omega
       have HB1 := Lib.hid (HB0.out.trans (hb1.mono HB0.out.size))
       clear hb1 kb
       go_wp2_with fail
       go_ret
       exact ⟨by rw [hN.out]; rfl, HB1.out⟩
      ·rw [hL, if_neg (fun h => by cases h.2.2)] at hN
       go_enter Tryz.func143, Tryz.ntmps143
       go_wp2_with fail
       refine (HTr.out _).mono ?_
       rintro e _ ⟨rfl, rfl⟩
       go_wp2_with fail
       refine (HTx.out _).mono ?_
       rintro e w1 ⟨rfl, hb1⟩
       have kb1 := cell_next hb1 kb
       have hb1b : b < w1.heap.size := by have := hb1.size; simp at this; omega
       have HB1 := Lib.hid (HB0.out.trans (hb1.mono HB0.out.size))
       clear hb1 kb
       go_wp2_with (refine wpList_string _ rfl _ rfl w1.heap.size 1 [UInt8.ofNat d] rfl (cell_u8 w1 d hd2) ?_)
       go_ret
       exact ⟨by rw [hN.out]; rfl, HB1.out.alloc HB1.out.size _⟩
    ·rw [hE, if_neg (fun h => by cases h.1)] at hN
     have hE2 : U.toList = [] := by cases hU : U.toList with | nil => rfl | cons x r => rw [hU] at hE; cases hE
     go_enter Tryz.func143, Tryz.ntmps143
     go_wp2_with fail
     refine (HTr.out _).mono ?_
     rintro e _ ⟨rfl, rfl⟩
     go_wp2_with fail
     refine (HTx.out _).mono ?_
     rintro e w1 ⟨rfl, hb1⟩
     have kb1 := cell_next hb1 kb
     have hb1b : b < w1.heap.size := by have := hb1.size; simp at this; omega
     have HB1 := Lib.hid (HB0.out.trans (hb1.mono HB0.out.size))
     clear hb1 kb
     go_wp2_with (refine wpList_string _ rfl _ rfl w1.heap.size 1 [UInt8.ofNat d] rfl (cell_u8 w1 d hd2) ?_)
     go_ret
     exact ⟨by rw [hN.out]; rfl, HB1.out.alloc HB1.out.size _⟩
   ·cases hc : (FloatKind.f64.format.order T 4746794007248502784 == some .lt)
    ·rw [ha, hb, hc] at hOk
     have ho : ok = false := hOk.trans rfl
     rw [ho, if_neg Bool.false_ne_true] at hC
     clear ho hOk
     subst hC
     cases hE : U.toList.isEmpty
     ·rw [hE] at hN
      have hE2 : ¬ U.toList = [] := fun h => by rw [h] at hE; cases hE
      cases hL : (FloatKind.f64.format.order 0 4697535886324137984 == some .lt)
      ·rw [hL, if_neg (fun h => by cases h.2.1)] at hN
       go_enter Tryz.func143, Tryz.ntmps143
       go_wp2_with fail
       refine (HTr.out _).mono ?_
       rintro e _ ⟨rfl, rfl⟩
       go_wp2_with fail
       refine (HTx.out _).mono ?_
       rintro e w1 ⟨rfl, hb1⟩
       have kb1 := cell_next hb1 kb
       have hb1b : b < w1.heap.size := by have := hb1.size; simp at this; omega
       have HB1 := Lib.hid (HB0.out.trans (hb1.mono HB0.out.size))
       clear hb1 kb
       go_wp2_with (refine wpList_string _ rfl _ rfl w1.heap.size 1 [UInt8.ofNat d] rfl (cell_u8 w1 d hd2) ?_)
       go_ret
       exact ⟨by rw [hN.out]; rfl, HB1.out.alloc HB1.out.size _⟩
      ·cases by_
       ·rw [hL, if_pos ⟨rfl, rfl, rfl⟩] at hN
        go_enter Tryz.func143, Tryz.ntmps143
        go_wp2_with fail
        refine (HTr.out _).mono ?_
        rintro e _ ⟨rfl, rfl⟩
        go_wp2_with fail
        refine (HTx.out _).mono ?_
        rintro e w1 ⟨rfl, hb1⟩
        have kb1 := cell_next hb1 kb
        have hb1b : b < w1.heap.size := by have := hb1.size; simp at this; omega
        have HB1 := Lib.hid (HB0.out.trans (hb1.mono HB0.out.size))
        clear hb1 kb
        go_wp2_with fail
        go_ret
        exact ⟨by rw [hN.out]; rfl, HB1.out⟩
       ·rw [hL, if_neg (fun h => by cases h.2.2)] at hN
        go_enter Tryz.func143, Tryz.ntmps143
        go_wp2_with fail
        refine (HTr.out _).mono ?_
        rintro e _ ⟨rfl, rfl⟩
        go_wp2_with fail
        refine (HTx.out _).mono ?_
        rintro e w1 ⟨rfl, hb1⟩
        have kb1 := cell_next hb1 kb
        have hb1b : b < w1.heap.size := by have := hb1.size; simp at this; omega
        have HB1 := Lib.hid (HB0.out.trans (hb1.mono HB0.out.size))
        clear hb1 kb
        go_wp2_with (refine wpList_string _ rfl _ rfl w1.heap.size 1 [UInt8.ofNat d] rfl (cell_u8 w1 d hd2) ?_)
        go_ret
        exact ⟨by rw [hN.out]; rfl, HB1.out.alloc HB1.out.size _⟩
     ·rw [hE, if_neg (fun h => by cases h.1)] at hN
      have hE2 : U.toList = [] := by cases hU : U.toList with | nil => rfl | cons x r => rw [hU] at hE; cases hE
      go_enter Tryz.func143, Tryz.ntmps143
      go_wp2_with fail
      refine (HTr.out _).mono ?_
      rintro e _ ⟨rfl, rfl⟩
      go_wp2_with fail
      refine (HTx.out _).mono ?_
      rintro e w1 ⟨rfl, hb1⟩
      have kb1 := cell_next hb1 kb
      have hb1b : b < w1.heap.size := by have := hb1.size; simp at this; omega
      have HB1 := Lib.hid (HB0.out.trans (hb1.mono HB0.out.size))
      clear hb1 kb
      go_wp2_with (refine wpList_string _ rfl _ rfl w1.heap.size 1 [UInt8.ofNat d] rfl (cell_u8 w1 d hd2) ?_)
      go_ret
      exact ⟨by rw [hN.out]; rfl, HB1.out.alloc HB1.out.size _⟩
    ·rw [ha, hb, hc] at hOk
     have ho : ok = true := hOk.trans rfl
     rw [ho, if_pos rfl] at hC
     clear ho hOk
     subst hC
     cases hE : U.toList.isEmpty
     ·rw [hE] at hN
      have hE2 : ¬ U.toList = [] := fun h => by rw [h] at hE; cases hE
      cases hL : (FloatKind.f64.format.order C 4697535886324137984 == some .lt)
      ·rw [hL, if_neg (fun h => by cases h.2.1)] at hN
       go_enter Tryz.func143, Tryz.ntmps143
       go_wp2_with fail
       refine (HTr.out _).mono ?_
       rintro e _ ⟨rfl, rfl⟩
       go_wp2_with fail
       refine (HTx.out _).mono ?_
       rintro e w1 ⟨rfl, hb1⟩
       have kb1 := cell_next hb1 kb
       have hb1b : b < w1.heap.size := by have := hb1.size; simp at this; omega
       have HB1 := Lib.hid (HB0.out.trans (hb1.mono HB0.out.size))
       clear hb1 kb
       go_wp2_with (refine wpList_string _ rfl _ rfl w1.heap.size 1 [UInt8.ofNat d] rfl (cell_u8 w1 d hd2) ?_)
       go_ret
       exact ⟨by rw [hN.out]; rfl, HB1.out.alloc HB1.out.size _⟩
      ·cases by_
       ·rw [hL, if_pos ⟨rfl, rfl, rfl⟩] at hN
        go_enter Tryz.func143, Tryz.ntmps143
        go_wp2_with fail
        refine (HTr.out _).mono ?_
        rintro e _ ⟨rfl, rfl⟩
        go_wp2_with fail
        refine (HTx.out _).mono ?_
        rintro e w1 ⟨rfl, hb1⟩
        have kb1 := cell_next hb1 kb
        have hb1b : b < w1.heap.size := by have := hb1.size; simp at this; omega
        have HB1 := Lib.hid (HB0.out.trans (hb1.mono HB0.out.size))
        clear hb1 kb
        go_wp2_with fail
        go_ret
        exact ⟨by rw [hN.out]; rfl, HB1.out⟩
       ·rw [hL, if_neg (fun h => by cases h.2.2)] at hN
        go_enter Tryz.func143, Tryz.ntmps143
        go_wp2_with fail
        refine (HTr.out _).mono ?_
        rintro e _ ⟨rfl, rfl⟩
        go_wp2_with fail
        refine (HTx.out _).mono ?_
        rintro e w1 ⟨rfl, hb1⟩
        have kb1 := cell_next hb1 kb
        have hb1b : b < w1.heap.size := by have := hb1.size; simp at this; omega
        have HB1 := Lib.hid (HB0.out.trans (hb1.mono HB0.out.size))
        clear hb1 kb
        go_wp2_with (refine wpList_string _ rfl _ rfl w1.heap.size 1 [UInt8.ofNat d] rfl (cell_u8 w1 d hd2) ?_)
        go_ret
        exact ⟨by rw [hN.out]; rfl, HB1.out.alloc HB1.out.size _⟩
     ·rw [hE, if_neg (fun h => by cases h.1)] at hN
      have hE2 : U.toList = [] := by cases hU : U.toList with | nil => rfl | cons x r => rw [hU] at hE; cases hE
      go_enter Tryz.func143, Tryz.ntmps143
      go_wp2_with fail
      refine (HTr.out _).mono ?_
      rintro e _ ⟨rfl, rfl⟩
      go_wp2_with fail
      refine (HTx.out _).mono ?_
      rintro e w1 ⟨rfl, hb1⟩
      have kb1 := cell_next hb1 kb
      have hb1b : b < w1.heap.size := by have := hb1.size; simp at this; omega
      have HB1 := Lib.hid (HB0.out.trans (hb1.mono HB0.out.size))
      clear hb1 kb
      go_wp2_with (refine wpList_string _ rfl _ rfl w1.heap.size 1 [UInt8.ofNat d] rfl (cell_u8 w1 d hd2) ?_)
      go_ret
      exact ⟨by rw [hN.out]; rfl, HB1.out.alloc HB1.out.size _⟩
  ·cases hc : (FloatKind.f64.format.order T 4746794007248502784 == some .lt)
   ·rw [ha, hc] at hOk
    have ho : ok = false := hOk.trans rfl
    rw [ho, if_neg Bool.false_ne_true] at hC
    clear ho hOk
    subst hC
    cases hE : U.toList.isEmpty
    ·rw [hE] at hN
     have hE2 : ¬ U.toList = [] := fun h => by rw [h] at hE; cases hE
     cases hL : (FloatKind.f64.format.order 0 4697535886324137984 == some .lt)
     ·rw [hL, if_neg (fun h => by cases h.2.1)] at hN
      go_enter Tryz.func143, Tryz.ntmps143
      go_wp2_with fail
      refine (HTr.out _).mono ?_
      rintro e _ ⟨rfl, rfl⟩
      go_wp2_with fail
      refine (HTx.out _).mono ?_
      rintro e w1 ⟨rfl, hb1⟩
      have kb1 := cell_next hb1 kb
      have hb1b : b < w1.heap.size := by have := hb1.size; simp at this; omega
      have HB1 := Lib.hid (HB0.out.trans (hb1.mono HB0.out.size))
      clear hb1 kb
      go_wp2_with (refine wpList_string _ rfl _ rfl w1.heap.size 1 [UInt8.ofNat d] rfl (cell_u8 w1 d hd2) ?_)
      go_ret
      exact ⟨by rw [hN.out]; rfl, HB1.out.alloc HB1.out.size _⟩
     ·cases by_
      ·rw [hL, if_pos ⟨rfl, rfl, rfl⟩] at hN
       go_enter Tryz.func143, Tryz.ntmps143
       go_wp2_with fail
       refine (HTr.out _).mono ?_
       rintro e _ ⟨rfl, rfl⟩
       go_wp2_with fail
       refine (HTx.out _).mono ?_
       rintro e w1 ⟨rfl, hb1⟩
       have kb1 := cell_next hb1 kb
       have hb1b : b < w1.heap.size := by have := hb1.size; simp at this; omega
       have HB1 := Lib.hid (HB0.out.trans (hb1.mono HB0.out.size))
       clear hb1 kb
       go_wp2_with fail
       go_ret
       exact ⟨by rw [hN.out]; rfl, HB1.out⟩
      ·rw [hL, if_neg (fun h => by cases h.2.2)] at hN
       go_enter Tryz.func143, Tryz.ntmps143
       go_wp2_with fail
       refine (HTr.out _).mono ?_
       rintro e _ ⟨rfl, rfl⟩
       go_wp2_with fail
       refine (HTx.out _).mono ?_
       rintro e w1 ⟨rfl, hb1⟩
       have kb1 := cell_next hb1 kb
       have hb1b : b < w1.heap.size := by have := hb1.size; simp at this; omega
       have HB1 := Lib.hid (HB0.out.trans (hb1.mono HB0.out.size))
       clear hb1 kb
       go_wp2_with (refine wpList_string _ rfl _ rfl w1.heap.size 1 [UInt8.ofNat d] rfl (cell_u8 w1 d hd2) ?_)
       go_ret
       exact ⟨by rw [hN.out]; rfl, HB1.out.alloc HB1.out.size _⟩
    ·rw [hE, if_neg (fun h => by cases h.1)] at hN
     have hE2 : U.toList = [] := by cases hU : U.toList with | nil => rfl | cons x r => rw [hU] at hE; cases hE
     go_enter Tryz.func143, Tryz.ntmps143
     go_wp2_with fail
     refine (HTr.out _).mono ?_
     rintro e _ ⟨rfl, rfl⟩
     go_wp2_with fail
     refine (HTx.out _).mono ?_
     rintro e w1 ⟨rfl, hb1⟩
     have kb1 := cell_next hb1 kb
     have hb1b : b < w1.heap.size := by have := hb1.size; simp at this; omega
     have HB1 := Lib.hid (HB0.out.trans (hb1.mono HB0.out.size))
     clear hb1 kb
     go_wp2_with (refine wpList_string _ rfl _ rfl w1.heap.size 1 [UInt8.ofNat d] rfl (cell_u8 w1 d hd2) ?_)
     go_ret
     exact ⟨by rw [hN.out]; rfl, HB1.out.alloc HB1.out.size _⟩
   ·rw [ha, hc] at hOk
    have ho : ok = true := hOk.trans rfl
    rw [ho, if_pos rfl] at hC
    clear ho hOk
    subst hC
    cases hE : U.toList.isEmpty
    ·rw [hE] at hN
     have hE2 : ¬ U.toList = [] := fun h => by rw [h] at hE; cases hE
     cases hL : (FloatKind.f64.format.order C 4697535886324137984 == some .lt)
     ·rw [hL, if_neg (fun h => by cases h.2.1)] at hN
      go_enter Tryz.func143, Tryz.ntmps143
      go_wp2_with fail
      refine (HTr.out _).mono ?_
      rintro e _ ⟨rfl, rfl⟩
      go_wp2_with fail
      refine (HTx.out _).mono ?_
      rintro e w1 ⟨rfl, hb1⟩
      have kb1 := cell_next hb1 kb
      have hb1b : b < w1.heap.size := by have := hb1.size; simp at this; omega
      have HB1 := Lib.hid (HB0.out.trans (hb1.mono HB0.out.size))
      clear hb1 kb
      go_wp2_with (refine wpList_string _ rfl _ rfl w1.heap.size 1 [UInt8.ofNat d] rfl (cell_u8 w1 d hd2) ?_)
      go_ret
      exact ⟨by rw [hN.out]; rfl, HB1.out.alloc HB1.out.size _⟩
     ·cases by_
      ·rw [hL, if_pos ⟨rfl, rfl, rfl⟩] at hN
       go_enter Tryz.func143, Tryz.ntmps143
       go_wp2_with fail
       refine (HTr.out _).mono ?_
       rintro e _ ⟨rfl, rfl⟩
       go_wp2_with fail
       refine (HTx.out _).mono ?_
       rintro e w1 ⟨rfl, hb1⟩
       have kb1 := cell_next hb1 kb
       have hb1b : b < w1.heap.size := by have := hb1.size; simp at this; omega
       have HB1 := Lib.hid (HB0.out.trans (hb1.mono HB0.out.size))
       clear hb1 kb
       go_wp2_with fail
       go_ret
       exact ⟨by rw [hN.out]; rfl, HB1.out⟩
      ·rw [hL, if_neg (fun h => by cases h.2.2)] at hN
       go_enter Tryz.func143, Tryz.ntmps143
       go_wp2_with fail
       refine (HTr.out _).mono ?_
       rintro e _ ⟨rfl, rfl⟩
       go_wp2_with fail
       refine (HTx.out _).mono ?_
       rintro e w1 ⟨rfl, hb1⟩
       have kb1 := cell_next hb1 kb
       have hb1b : b < w1.heap.size := by have := hb1.size; simp at this; omega
       have HB1 := Lib.hid (HB0.out.trans (hb1.mono HB0.out.size))
       clear hb1 kb
       go_wp2_with (refine wpList_string _ rfl _ rfl w1.heap.size 1 [UInt8.ofNat d] rfl (cell_u8 w1 d hd2) ?_)
       go_ret
       exact ⟨by rw [hN.out]; rfl, HB1.out.alloc HB1.out.size _⟩
    ·rw [hE, if_neg (fun h => by cases h.1)] at hN
     have hE2 : U.toList = [] := by cases hU : U.toList with | nil => rfl | cons x r => rw [hU] at hE; cases hE
     go_enter Tryz.func143, Tryz.ntmps143
     go_wp2_with fail
     refine (HTr.out _).mono ?_
     rintro e _ ⟨rfl, rfl⟩
     go_wp2_with fail
     refine (HTx.out _).mono ?_
     rintro e w1 ⟨rfl, hb1⟩
     have kb1 := cell_next hb1 kb
     have hb1b : b < w1.heap.size := by have := hb1.size; simp at this; omega
     have HB1 := Lib.hid (HB0.out.trans (hb1.mono HB0.out.size))
     clear hb1 kb
     go_wp2_with (refine wpList_string _ rfl _ rfl w1.heap.size 1 [UInt8.ofNat d] rfl (cell_u8 w1 d hd2) ?_)
     go_ret
     exact ⟨by rw [hN.out]; rfl, HB1.out.alloc HB1.out.size _⟩
theorem letter_any {w : World} {b : Nat} (c : CellT) (by_ : Bool) (hx : c.2.1 < 18446744073709551616) (hs : c.2.2.size ≤ 140737488351232) (hU : U8Ok w) (k1 : w.cell? ⟨b, 1, none⟩ = some (.bool by_)) :
 Calls Tryz.prog 143 #[.pointer (some ⟨b, 0, none⟩), .agg (agC c)] w fun e w' => e = .returned (.string (codF c by_)) ∧ Below w.heap.size w w' := by
 by_cases hk : c.1 = 1 ∨ c.1 = 3
 ·exact letter_num c by_ hk hx k1
 ·exact letter_str c by_ ⟨fun h => hk (.inl h), fun h => hk (.inr h)⟩ hs hU k1
end Go.Proofs.YtfdnhkjeoeffoaaGreatDoor
end

section
/- Package printf: stars, whatever the piece asks. -/
namespace Go.Proofs.YtfdnhkjeoeffoaaGreatDoor
open Go.RowKit
set_option linter.unusedVariables false
theorem stars_any {w : World} {B b q : Nat} {conv : ByteArray} {by_ : Bool} {L : List CellT} {out : List UInt8} (m p bl al z sw sp : Bool) (wd pr vb nx : Int) (h : WrL w B b conv by_ L out) (hq : PcAt w q (pieceA m p bl al z wd pr vb sw sp nx)) (hqb : b ≠ q) (hB : B ≤ q) (hC : ∀ c ∈ L, COk c) :
 Calls Tryz.prog 140 #[.pointer (some ⟨b, 0, none⟩), .pointer (some ⟨q, 0, none⟩)] w fun e w' => e = .returned (.bool (starsF sw sp m wd pr L).isSome) ∧ Apart [b, q] w w' ∧
  ∀ m' wd' pr' L', starsF sw sp m wd pr L = some (m', wd', pr', L') → WrL w' B b conv by_ L' out ∧ PcAt w' q (pieceA m' p bl al z wd' pr' vb sw sp nx) := by
 cases sw
 ·cases sp
  ·refine (stars_none m p bl al z wd pr vb nx h hq hqb hB).mono ?_
   rintro e w' ⟨rfl, ha, rfl⟩
   refine ⟨rfl, ha, fun m' wd' pr' L' he => ?_⟩
   have he' : some (m, wd, pr, L) = some (m', wd', pr', L') := by simpa [starsF] using he
   injection he' with e1; injection e1 with e1 e2; injection e2 with e2 e3; injection e3 with e3 e4
   subst e1 e2 e3 e4
   exact ⟨h, hq⟩
  ·cases L with
   | nil =>
     refine (stars_pnil m p bl al z wd pr vb nx h hq hqb hB).mono ?_
     rintro e w' ⟨rfl, ha⟩
     exact ⟨rfl, ha, fun m' wd' pr' L' he => by cases he⟩
   | cons c L =>
     refine (stars_pcons m p bl al z wd pr vb nx h hq hqb hB (hC c List.mem_cons_self)).mono ?_
     rintro e w' ⟨rfl, ha, h1, h2⟩
     refine ⟨rfl, ha, fun m' wd' pr' L' he => ?_⟩
     injection he with e1; injection e1 with e1 e2; injection e2 with e2 e3; injection e3 with e3 e4
     subst e1 e2 e3 e4
     exact ⟨h1, h2⟩
 ·cases sp
  ·cases L with
   | nil =>
     refine (stars_wnil m p bl al z wd pr vb nx h hq hqb hB).mono ?_
     rintro e w' ⟨rfl, ha⟩
     exact ⟨rfl, ha, fun m' wd' pr' L' he => by cases he⟩
   | cons c L =>
     refine (stars_wcons m p bl al z wd pr vb nx h hq hqb hB (hC c List.mem_cons_self)).mono ?_
     rintro e w' ⟨rfl, ha, h1, h2⟩
     refine ⟨rfl, ha, fun m' wd' pr' L' he => ?_⟩
     injection he with e1; injection e1 with e1 e2; injection e2 with e2 e3; injection e3 with e3 e4
     subst e1 e2 e3 e4
     exact ⟨h1, h2⟩
  ·cases L with
   | nil =>
     refine (stars_wnilp m p bl al z wd pr vb nx h hq hqb hB).mono ?_
     rintro e w' ⟨rfl, ha⟩
     exact ⟨rfl, ha, fun m' wd' pr' L' he => by cases he⟩
   | cons c L =>
     cases L with
     | nil =>
       refine (stars_wpnil m p bl al z wd pr vb nx h hq hqb hB (hC c List.mem_cons_self)).mono ?_
       rintro e w' ⟨rfl, ha⟩
       exact ⟨rfl, ha, fun m' wd' pr' L' he => by cases he⟩
     | cons d L =>
       refine (stars_wpcons m p bl al z wd pr vb nx h hq hqb hB (hC c List.mem_cons_self) (hC d (List.mem_cons_of_mem _ List.mem_cons_self))).mono ?_
       rintro e w' ⟨rfl, ha, h1, h2⟩
       refine ⟨rfl, ha, fun m' wd' pr' L' he => ?_⟩
       injection he with e1; injection e1 with e1 e2; injection e2 with e2 e3; injection e3 with e3 e4
       subst e1 e2 e3 e4
       exact ⟨h1, h2⟩
theorem starsF_sub {sw sp m : Bool} {wd pr : Int} {L : List CellT} {m' : Bool} {wd' pr' : Int} {L' : List CellT} (h : starsF sw sp m wd pr L = some (m', wd', pr', L')) : ∀ c ∈ L', c ∈ L := by
 intro x hx
 unfold starsF at h
 split at h
 all_goals first | (cases h; done) | skip
 all_goals (injection h with e1; injection e1 with e1 e2; injection e2 with e2 e3; injection e3 with e3 e4; subst e4)
 ·exact hx
 ·exact List.mem_cons_of_mem _ hx
 ·exact List.mem_cons_of_mem _ hx
 ·exact List.mem_cons_of_mem _ (List.mem_cons_of_mem _ hx)
end Go.Proofs.YtfdnhkjeoeffoaaGreatDoor
end

section
/- Package format: Number by the verbs of floats. -/
namespace Go.Proofs.YtfdnhkjeoeffoaaGreatDoor
open Go.RowKit
set_option linter.unusedVariables false
set_option maxHeartbeats 4000000 in
set_option maxRecDepth 1000000 in
theorem Number_102 (m p bl al z : Bool) (wd pr : Int) (b : Nat) (w : World) (hb : b < 18446744073709551616) (hf : fin b = true) (hp1 : -1 ≤ pr) (hp2 : pr ≤ 190) (hw : 0 ≤ wd) (hw2 : wd ≤ 1024) (hT : PowOk w) :
 Calls Tryz.prog 24 #[.agg (specA m p bl al z wd pr 102), .float .f64 b] w fun e w' => e = .returned (.tuple #[.string (floatO m p bl al z wd pr 102 b), .int .i64 0]) ∧ Below w.heap.size w w' := by
 have HT := Lib.hid hT
 have HFl := Lib.hid (fun W h => float_102 m p bl al z wd pr b W hb hf hp1 hp2 hw hw2 h)
 have HCk := Lib.hid (fun W => Check_ok m p bl al z wd pr 102 W (by
  unfold okS
  rw [show ixB verbsB 102 = 8 from by decide, decide_eq_true hw, decide_eq_true hw2, decide_eq_true hp1, decide_eq_true hp2]
  rfl))
 have HPt := Lib.hid (fun W => Parts_any b W hb)
 rw [hf] at HPt
 have HI1 : Hid (∀ W, Calls Tryz.prog 69 #[.string ⟨#[100, 105, 111, 120, 88, 117, 101, 69, 102, 70, 103, 71]⟩, .int .u8 102] W fun e w' => e = .returned (.int .i64 8) ∧ w' = W) := fun W => Tryz.strings_IndexByte ⟨#[100, 105, 111, 120, 88, 117, 101, 69, 102, 70, 103, 71]⟩ 102 W
 have HI2 : Hid (∀ W, Calls Tryz.prog 69 #[.string ⟨#[100, 105, 111, 120, 88, 117]⟩, .int .u8 102] W fun e w' => e = .returned (.int .i64 (-1)) ∧ w' = W) := fun W => Tryz.strings_IndexByte ⟨#[100, 105, 111, 120, 88, 117]⟩ 102 W
 generalize floatO m p bl al z wd pr 102 b = out at *
 unfold specA at HFl HCk ⊢
 clear hT hp1 hp2 hw hw2
 go_enter Tryz.func24, Tryz.ntmps24
 go_wp2_with fail
 refine (HCk.out _).mono ?_
 rintro e w1 ⟨rfl, hb1⟩
 have HB1 := Lib.hid (((Below.refl w.heap.size w).alloc (Nat.le_refl _) (.cells #[.bool m, .bool p, .bool bl, .bool al, .bool z, .int .i64 wd, .int .i64 pr, .int .u8 102] 35)).trans (hb1.mono (by simp)))
 have hsp : SpAt w1 w.heap.size #[.bool m, .bool p, .bool bl, .bool al, .bool z, .int .i64 wd, .int .i64 pr, .int .u8 102] := SpAt.next (heap_alloc_at w _) hb1
 have k0 : w1.cell? ⟨w.heap.size, 0, none⟩ = some (.bool m) := hsp.cell 0
 have k1 : w1.cell? ⟨w.heap.size, 1, none⟩ = some (.bool p) := hsp.cell 1
 have k2 : w1.cell? ⟨w.heap.size, 2, none⟩ = some (.bool bl) := hsp.cell 2
 have k3 : w1.cell? ⟨w.heap.size, 3, none⟩ = some (.bool al) := hsp.cell 3
 have k4 : w1.cell? ⟨w.heap.size, 4, none⟩ = some (.bool z) := hsp.cell 4
 have k5 : w1.cell? ⟨w.heap.size, 5, none⟩ = some (.int .i64 wd) := hsp.cell 5
 have k6 : w1.cell? ⟨w.heap.size, 6, none⟩ = some (.int .i64 pr) := hsp.cell 6
 have k7 : w1.cell? ⟨w.heap.size, 7, none⟩ = some (.int .u8 102) := hsp.cell 7
 clear hb1 hsp
 go_wp2_with fail
 refine (HI1.out _).mono ?_
 rintro e _ ⟨rfl, rfl⟩
 go_wp2_with fail
 refine (HPt.out _).mono ?_
 rintro e _ ⟨rfl, rfl⟩
 go_wp2_with fail
 refine (HI2.out _).mono ?_
 rintro e _ ⟨rfl, rfl⟩
 go_wp2_with fail
 refine (HFl.out _ (HT.out.below HB1.out)).mono ?_
 rintro e w2 ⟨rfl, hb2⟩
 have HB2 := Lib.hid (HB1.out.trans (hb2.mono HB1.out.size))
 clear hb2
 go_wp2_with fail
 go_ret2
 exact ⟨rfl, HB2.out⟩
end Go.Proofs.YtfdnhkjeoeffoaaGreatDoor
end

section
/- Package format: whole by the verbs of base sixteen. -/
namespace Go.Proofs.YtfdnhkjeoeffoaaGreatDoor
open Go.RowKit
set_option linter.unusedVariables false
end Go.Proofs.YtfdnhkjeoeffoaaGreatDoor
end

section
/- Package format: Number at any spec and any float. -/
namespace Go.Proofs.YtfdnhkjeoeffoaaGreatDoor
open Go.RowKit
set_option linter.unusedVariables false
theorem odd_size (b : Nat) : (oddO b).size = 4 := by unfold oddO; split; rfl; split <;> rfl
/-- the verbs of numbers -/
def numsV : ByteArray := ⟨#[100, 105, 111, 120, 88, 117, 101, 69, 102, 70, 103, 71]⟩
def isNum (vb : Nat) : Bool := decide (0 ≤ ixB numsV vb)
def numE (wd pr : Int) (vb : Nat) : Int := if okS wd pr vb = true ∧ isNum vb = true then 0 else 50
noncomputable def numO (m p bl al z : Bool) (wd pr : Int) (vb b : Nat) : ByteArray :=
 if okS wd pr vb = true ∧ isNum vb = true then
  (if fin b = false then ⟨(padL m false wd [] (oddO b).data.toList).toArray⟩
   else if vb = 101 ∨ vb = 69 ∨ vb = 102 ∨ vb = 70 ∨ vb = 103 ∨ vb = 71 then floatO m p bl al z wd pr vb b else wholeO m p bl al z wd pr vb b)
 else ⟨#[]⟩
theorem okS_facts {wd pr : Int} {vb : Nat} (h : okS wd pr vb = true) : 0 ≤ wd ∧ wd ≤ 1024 ∧ -1 ≤ pr ∧ pr ≤ 190 := by
 unfold okS at h
 simp only [Bool.and_eq_true, decide_eq_true_iff] at h
 omega
set_option maxHeartbeats 4000000 in
set_option maxRecDepth 1000000 in
theorem Number_bad (m p bl al z : Bool) (wd pr : Int) (vb b : Nat) (w : World) (hvb : vb < 256) (h : okS wd pr vb = false) :
 Calls Tryz.prog 24 #[.agg (specA m p bl al z wd pr vb), .float .f64 b] w fun e w' => e = .returned (.tuple #[.string ⟨#[]⟩, .int .i64 50]) ∧ Below w.heap.size w w' := by
 have HCk := Lib.hid (fun W => Check_bad m p bl al z wd pr vb W h)
 unfold specA at HCk ⊢
 clear h
 go_enter Tryz.func24, Tryz.ntmps24
 go_wp2_with fail
 refine (HCk.out _).mono ?_
 rintro e w1 ⟨rfl, hb1⟩
 have HB1 := Lib.hid (((Below.refl w.heap.size w).alloc (Nat.le_refl _) (.cells #[.bool m, .bool p, .bool bl, .bool al, .bool z, .int .i64 wd, .int .i64 pr, .int .u8 (vb : Int)] 35)).trans (hb1.mono (by simp)))
 have hsp : SpAt w1 w.heap.size #[.bool m, .bool p, .bool bl, .bool al, .bool z, .int .i64 wd, .int .i64 pr, .int .u8 (vb : Int)] := SpAt.next (heap_alloc_at w _) hb1
 have k0 : w1.cell? ⟨w.heap.size, 0, none⟩ = some (.bool m) := hsp.cell 0
 have k1 : w1.cell? ⟨w.heap.size, 1, none⟩ = some (.bool p) := hsp.cell 1
 have k2 : w1.cell? ⟨w.heap.size, 2, none⟩ = some (.bool bl) := hsp.cell 2
 have k3 : w1.cell? ⟨w.heap.size, 3, none⟩ = some (.bool al) := hsp.cell 3
 have k4 : w1.cell? ⟨w.heap.size, 4, none⟩ = some (.bool z) := hsp.cell 4
 have k5 : w1.cell? ⟨w.heap.size, 5, none⟩ = some (.int .i64 wd) := hsp.cell 5
 have k6 : w1.cell? ⟨w.heap.size, 6, none⟩ = some (.int .i64 pr) := hsp.cell 6
 have k7 : w1.cell? ⟨w.heap.size, 7, none⟩ = some (.int .u8 (vb : Int)) := hsp.cell 7
 clear hb1 hsp
 go_wp2_with fail
 go_ret2
 exact ⟨rfl, HB1.out⟩
set_option maxHeartbeats 4000000 in
set_option maxRecDepth 1000000 in
theorem Number_odd (m p bl al z : Bool) (wd pr : Int) (vb b : Nat) (w : World) (hvb : vb < 256) (hb : b < 18446744073709551616) (h : okS wd pr vb = true) (hn : isNum vb = true) (hf : fin b = false) :
 Calls Tryz.prog 24 #[.agg (specA m p bl al z wd pr vb), .float .f64 b] w fun e w' => e = .returned (.tuple #[.string ⟨(padL m false wd [] (oddO b).data.toList).toArray⟩, .int .i64 0]) ∧ Below w.heap.size w w' := by
 have HCk := Lib.hid (fun W => Check_ok m p bl al z wd pr vb W h)
 have HI1 : Hid (∀ W, Calls Tryz.prog 69 #[.string ⟨#[100, 105, 111, 120, 88, 117, 101, 69, 102, 70, 103, 71]⟩, .int .u8 (vb : Int)] W fun e w' => e = .returned (.int .i64 (ixB numsV vb)) ∧ w' = W) := fun W => Tryz.strings_IndexByte ⟨#[100, 105, 111, 120, 88, 117, 101, 69, 102, 70, 103, 71]⟩ (vb : Int) W
 have hneg : 0 ≤ ixB numsV vb := by unfold isNum at hn; simp at hn; exact hn
 have hneg2 : decide (ixB numsV vb < 0) = false := by simp; omega
 have HPt := Lib.hid (fun W => Parts_any b W hb)
 rw [hf] at HPt
 obtain ⟨o1, o2, o3, o4⟩ := okS_facts h
 have HOd := Lib.hid (fun W => odd_any b W)
 have hos := odd_size b
 have HPd : Hid (∀ W, Calls Tryz.prog 70 #[.agg (specA m p bl al z wd pr vb), .string ⟨#[]⟩, .string (oddO b), .bool false] W fun e w' => e = .returned (.string ⟨(padL m false wd [] (oddO b).data.toList).toArray⟩) ∧ Below W.heap.size W w') := fun W => padded_any m p bl al z false wd pr vb ⟨#[]⟩ (oddO b) W o1 o2 (by decide) (by omega)
 generalize ixB numsV vb = q at *
 generalize (⟨(padL m false wd [] (oddO b).data.toList).toArray⟩ : ByteArray) = out at *
 generalize oddO b = od at *
 unfold specA at HCk HPd ⊢
 clear h hn o1 o2 o3 o4 hos
 go_enter Tryz.func24, Tryz.ntmps24
 go_wp2_with fail
 refine (HCk.out _).mono ?_
 rintro e w1 ⟨rfl, hb1⟩
 have HB1 := Lib.hid (((Below.refl w.heap.size w).alloc (Nat.le_refl _) (.cells #[.bool m, .bool p, .bool bl, .bool al, .bool z, .int .i64 wd, .int .i64 pr, .int .u8 (vb : Int)] 35)).trans (hb1.mono (by simp)))
 have hsp : SpAt w1 w.heap.size #[.bool m, .bool p, .bool bl, .bool al, .bool z, .int .i64 wd, .int .i64 pr, .int .u8 (vb : Int)] := SpAt.next (heap_alloc_at w _) hb1
 have k0 : w1.cell? ⟨w.heap.size, 0, none⟩ = some (.bool m) := hsp.cell 0
 have k1 : w1.cell? ⟨w.heap.size, 1, none⟩ = some (.bool p) := hsp.cell 1
 have k2 : w1.cell? ⟨w.heap.size, 2, none⟩ = some (.bool bl) := hsp.cell 2
 have k3 : w1.cell? ⟨w.heap.size, 3, none⟩ = some (.bool al) := hsp.cell 3
 have k4 : w1.cell? ⟨w.heap.size, 4, none⟩ = some (.bool z) := hsp.cell 4
 have k5 : w1.cell? ⟨w.heap.size, 5, none⟩ = some (.int .i64 wd) := hsp.cell 5
 have k6 : w1.cell? ⟨w.heap.size, 6, none⟩ = some (.int .i64 pr) := hsp.cell 6
 have k7 : w1.cell? ⟨w.heap.size, 7, none⟩ = some (.int .u8 (vb : Int)) := hsp.cell 7
 clear hb1 hsp
 go_wp2_with fail
 refine (HI1.out _).mono ?_
 rintro e _ ⟨rfl, rfl⟩
 go_wp2_with fail
 refine (HPt.out _).mono ?_
 rintro e _ ⟨rfl, rfl⟩
 go_wp2_with fail
 refine wp_region_guarded (by kernel_rfl) (by kernel_rfl) (fun a0 V0 L a W => ∃ u : Nat → Value, a = { tmps := ((((((a0.tmps.setIfInBounds 27 (u 0)).setIfInBounds 28 (u 1)).setIfInBounds 29 (u 2)).setIfInBounds 30 (u 3)).setIfInBounds 4 (u 4)).setIfInBounds 5 (u 5)), defers := a0.defers } ∧ Hid (Below V0.heap.size V0 W) ∧ Hid (∀ i, L i = true → u i = valAt [.agg #[.bool m, .bool p, .bool bl, .bool al, .bool z, .int .i64 wd, .int .i64 pr, .int .u8 (vb : Int)], .float .f64 b, .string od, .string out, .string out, .int .i64 0] i)) ?h0 ?hstep ?hdone
 case h0 =>
  refine ⟨valAt [undef, undef, undef, undef, .string ⟨#[]⟩, .int .i64 0], ?_, (Below.refl _ _).drew, fun _ h => (by cases h)⟩
  kernel_rfl
 case hstep =>
  refine ⟨?o0, ?o1, ?o2, ?o3, ?o4, ?o5, trivial⟩
  case o0 =>
   rintro L a' W ⟨u, rfl, HI, E⟩ hL hd K hK
   have kk0 := cellNext HI.out k0
   have kk1 := cellNext HI.out k1
   have kk2 := cellNext HI.out k2
   have kk3 := cellNext HI.out k3
   have kk4 := cellNext HI.out k4
   have kk5 := cellNext HI.out k5
   have kk6 := cellNext HI.out k6
   have kk7 := cellNext HI.out k7
   simp only [List.setIfInBounds_toArray, List.set_cons_zero, List.set_cons_succ]
   refine ite_take rfl ?_
   clear hL hd
   go_simp
   refine hK _ _ ⟨withVal u 0 (.agg #[.bool m, .bool p, .bool bl, .bool al, .bool z, .int .i64 wd, .int .i64 pr, .int .u8 (vb : Int)]), ?_, HI, withVal_next E 0 _ rfl⟩
   kernel_rfl
  case o1 =>
   rintro L a' W ⟨u, rfl, HI, E⟩ hL hd K hK
   simp only [List.setIfInBounds_toArray, List.set_cons_zero, List.set_cons_succ]
   refine ite_take rfl ?_
   clear hL hd
   go_simp
   refine hK _ _ ⟨withVal u 1 (.float .f64 b), ?_, HI, withVal_next E 1 _ rfl⟩
   kernel_rfl
  case o2 =>
   rintro L a' W ⟨u, rfl, HI, E⟩ hL hd K hK
   have e1 : u 1 = .float .f64 b := E.out 1 (hd 1 (List.elem_iff.1 (by kernel_rfl)))
   simp only [List.setIfInBounds_toArray, List.set_cons_zero, List.set_cons_succ, e1]
   refine ite_take rfl ?_
   clear hL hd
   go_simp
   refine (HOd.out W).mono ?_
   rintro e _ ⟨rfl, rfl⟩
   refine hK _ _ ⟨withVal (withVal u 1 (.float .f64 b)) 2 (.string od), ?_, HI, withVal_next (withVal_same E 1 _ rfl) 2 _ rfl⟩
   kernel_rfl
  case o3 =>
   rintro L a' W ⟨u, rfl, HI, E⟩ hL hd K hK
   have e0 : u 0 = .agg #[.bool m, .bool p, .bool bl, .bool al, .bool z, .int .i64 wd, .int .i64 pr, .int .u8 (vb : Int)] := E.out 0 (hd 0 (List.elem_iff.1 (by kernel_rfl)))
   have e2 : u 2 = .string od := E.out 2 (hd 2 (List.elem_iff.1 (by kernel_rfl)))
   simp only [List.setIfInBounds_toArray, List.set_cons_zero, List.set_cons_succ, e0, e2]
   refine ite_take rfl ?_
   clear hL hd
   go_simp
   refine (HPd.out W).mono ?_
   rintro e W' ⟨rfl, hb⟩
   refine hK _ _ ⟨withVal (withVal (withVal u 0 (.agg #[.bool m, .bool p, .bool bl, .bool al, .bool z, .int .i64 wd, .int .i64 pr, .int .u8 (vb : Int)])) 2 (.string od)) 3 (.string out), ?_, HI.out.trans (hb.mono HI.out.size), withVal_next (withVal_same (withVal_same E 0 _ rfl) 2 _ rfl) 3 _ rfl⟩
   kernel_rfl
  case o4 =>
   rintro L a' W ⟨u, rfl, HI, E⟩ hL hd K hK
   have e3 : u 3 = .string out := E.out 3 (hd 3 (List.elem_iff.1 (by kernel_rfl)))
   simp only [List.setIfInBounds_toArray, List.set_cons_zero, List.set_cons_succ, e3]
   refine ite_take rfl ?_
   clear hL hd
   go_simp
   refine hK _ _ ⟨withVal (withVal u 3 (.string out)) 4 (.string out), ?_, HI, withVal_next (withVal_same E 3 _ rfl) 4 _ rfl⟩
   kernel_rfl
  case o5 =>
   rintro L a' W ⟨u, rfl, HI, E⟩ hL hd K hK
   simp only [List.setIfInBounds_toArray, List.set_cons_zero, List.set_cons_succ]
   refine ite_take rfl ?_
   clear hL hd
   go_simp
   refine hK _ _ ⟨withVal u 5 (.int .i64 0), ?_, HI, withVal_next E 5 _ rfl⟩
   kernel_rfl
 case hdone =>
  rintro L a' W1 hall ⟨u, rfl, HI, E⟩
  have e0 : u 0 = .agg #[.bool m, .bool p, .bool bl, .bool al, .bool z, .int .i64 wd, .int .i64 pr, .int .u8 (vb : Int)] := E.out 0 (hall 0 (by decide))
  have e1 : u 1 = .float .f64 b := E.out 1 (hall 1 (by decide))
  have e2 : u 2 = .string od := E.out 2 (hall 2 (by decide))
  have e3 : u 3 = .string out := E.out 3 (hall 3 (by decide))
  have e4 : u 4 = .string out := E.out 4 (hall 4 (by decide))
  have e5 : u 5 = .int .i64 0 := E.out 5 (hall 5 (by decide))
  simp only [List.setIfInBounds_toArray, List.set_cons_zero, List.set_cons_succ, e0, e1, e2, e3, e4, e5]
  clear hall E
  go_wp2_with fail
  go_ret2
  exact ⟨rfl, HB1.out.trans (HI.out.mono HB1.out.size)⟩
end Go.Proofs.YtfdnhkjeoeffoaaGreatDoor
end

section
/- Plain: what Number writes is short. -/
namespace Go.Proofs.YtfdnhkjeoeffoaaGreatDoor
open Go.RowKit
set_option linter.unusedVariables false
theorem wholeO_size (m p bl al z : Bool) (wd pr : Int) (vb b : Nat) (hb : b < 18446744073709551616) (hf : fin b = true) (hp2 : pr ≤ 190) (hw2 : wd ≤ 1024) : (wholeO m p bl al z wd pr vb b).size ≤ 20000 := by
 obtain ⟨l, hc, hl, hfx, hdl⟩ := whole_text hb hf
 have hnb := whole_bits5 b
 have hd8 := baseD_len (B := 8) (by decide) hnb
 have hd16 := baseD_len (B := 16) (by decide) hnb
 have hbw : (baseW al vb (wholeN b)).length ≤ 4002 := by
  unfold baseW
  split
  ·split
   ·simp; omega
   ·omega
  ·split
   ·omega
   ·rw [hdl]; omega
 have hnw : (numW al pr vb (wholeN b)).length ≤ 5000 := by
  unfold numW
  split
  ·split
   ·simp; omega
   ·split
    ·simp
    ·simp; omega
  ·simp; omega
 have hhd : (headW p bl al vb (wholeS b) (wholeN b)).length ≤ 3 := by
  have s1 := signL_size5 p bl (wholeS b)
  have s2 := signL_size5 false false (wholeS b)
  unfold headW
  split
  ·omega
  ·split
   ·simp; omega
   ·split
    ·simp
    ·omega
 have hpl := padL_size5 (m := m) (z := z && decide (pr < 0)) (h := headW p bl al vb (wholeS b) (wholeN b)) (s := numW al pr vb (wholeN b)) hw2
 unfold wholeO
 split
 ·show (Lib.toUpperA (padW m p bl al z wd pr vb b)).length ≤ _
  unfold Lib.toUpperA padW
  rw [List.length_map]; omega
 ·show (padW m p bl al z wd pr vb b).length ≤ _
  unfold padW; omega
theorem floatO_size9 (m p bl al z : Bool) (wd pr : Int) (vb b : Nat) (w : World) (hb : b < 18446744073709551616) (hf : fin b = true) (hp2 : pr ≤ 190) (hw2 : wd ≤ 1024) (hT : PowOk w) : (floatO m p bl al z wd pr vb b).size ≤ 20000 := by
 have hbo := (bodyF_ok al vb hb hf (precF_le hp2) hT).2
 have hsl := signL_size5 p bl (decide (9223372036854775808 ≤ b))
 have hpl := padL_size5 (m := m) (z := z) (h := signL p bl (decide (9223372036854775808 ≤ b))) (s := (bodyF al vb (precF pr) b).data.toList) hw2
 rw [← sz_list (bodyF al vb (precF pr) b)] at hpl
 unfold floatO
 split
 ·show (Lib.toUpperA (padO m p bl al z wd pr vb b)).length ≤ _
  unfold Lib.toUpperA padO
  rw [List.length_map]
  omega
 ·show (padO m p bl al z wd pr vb b).length ≤ _
  unfold padO
  omega
theorem numO_size (m p bl al z : Bool) (wd pr : Int) (vb b : Nat) (w : World) (hb : b < 18446744073709551616) (hT : PowOk w) : (numO m p bl al z wd pr vb b).size ≤ 20000 := by
 unfold numO
 split
 ·rename_i h
  obtain ⟨o1, o2, o3, o4⟩ := okS_facts h.1
  cases hf : fin b
  ·rw [if_pos rfl]
   have h2 := padL_size5 (m := m) (z := false) (h := []) (s := (oddO b).data.toList) o2
   have h3 := odd_size b
   show (padL m false wd [] (oddO b).data.toList).length ≤ _
   simp at h2; omega
  ·rw [if_neg (by decide)]
   split
   ·exact floatO_size9 m p bl al z wd pr vb b w hb hf o4 o2 hT
   ·exact wholeO_size m p bl al z wd pr vb b hb hf o4 o2
 ·show 0 ≤ _; omega
end Go.Proofs.YtfdnhkjeoeffoaaGreatDoor
end
