/- Several texts in one (G1, E2, I1, P1, P2, N0, N1, N2, N3, N4, N5). -/
import Derived.Test.YtfdnhkjeoeffoaaGreatDoorProg
import Derived.WalkKit
import Derived.WalkSpells
import Derived.WalkLawsBesides
import Derived.Maps.OwnOps
import Derived.Maps.RangeWalk
import Derived.Lib.Hide
import Derived.Lib.Builder
import Derived.Lib.AppendStr
import Derived.Maps.AppendAt
import Derived.LaidEqlPtr
import Derived.StillTailTactics
import Derived.Deep.RegionHeld3
import Derived.BigRegion
import Init
import Derived.BigQuiet
import Derived.Deep.QuietTactic
import Derived.Laws.MakeOwn
import Derived.Test.YtfdnhkjeoeffoaaGreatDoorShelf
section
/- Small laws of no program: stores of floats and maps; worlds that part in a few named blocks; a step over a map. -/
namespace Go.Proofs.YtfdnhkjeoeffoaaGreatDoor
open Go.RowKit
set_option linter.unusedVariables false
@[go_sem] theorem run_store_float {P : Program} {w : World} {a : Addr} {m : Mode} (k : FloatKind) (n : Nat) : (store a (.float k n) m).run P w = stored P w a (.float k n) m := run_store P w a _ m rfl
@[go_sem] theorem run_store_map {P : Program} {w : World} {a : Addr} {m : Mode} (r : Option Nat) : (store a (.map r) m).run P w = stored P w a (.map r) m := run_store P w a _ m rfl
/-- what was there is as it was, but for the blocks of S -/
structure Apart (S : List Nat) (w w' : World) : Prop where
 os : w'.os = w.os
 tape : w'.tape = w.tape
 output : w'.output = w.output
 size : w.heap.size ≤ w'.heap.size
 block : ∀ k, k < w.heap.size → k ∉ S → w'.heap[k]? = w.heap[k]?
theorem Apart.refl (S : List Nat) (w : World) : Apart S w w := ⟨rfl, rfl, rfl, Nat.le_refl _, fun _ _ _ => rfl⟩
theorem Apart.trans {S T : List Nat} {a b c : World} (h : Apart S a b) (k : Apart T b c) (hT : ∀ x, x ∈ T → x ∈ S ∨ a.heap.size ≤ x) : Apart S a c :=
 ⟨k.os.trans h.os, k.tape.trans h.tape, k.output.trans h.output, Nat.le_trans h.size k.size, fun i hi hn =>
  (k.block i (Nat.lt_of_lt_of_le hi h.size) (fun ht => (hT i ht).elim hn (fun hl => absurd hi (by omega)))).trans (h.block i hi hn)⟩
theorem Apart.of_below {w w' : World} (h : Below w.heap.size w w') (S : List Nat) : Apart S w w' := ⟨h.os, h.tape, h.output, h.size, fun k hk _ => h.block k hk⟩
theorem Apart.below {S : List Nat} {w w' : World} (h : Apart S w w') {B : Nat} (hB : B ≤ w.heap.size) (hS : ∀ x, x ∈ S → B ≤ x) : Below B w w' :=
 ⟨h.os, h.tape, h.output, h.size, fun k hk => h.block k (by omega) (fun hs => by have := hS k hs; omega)⟩
theorem Apart.alloc {S : List Nat} {a w : World} (h : Apart S a w) (o : Obj) : Apart S a (w.alloc o) :=
 h.trans (T := []) ⟨rfl, rfl, rfl, by simp, fun k hk _ => Below.heap_alloc _ _ _ hk⟩ (by simp)
theorem Apart.drew {S : List Nat} {a w : World} (h : Apart S a w) : Apart S a w.drew := ⟨h.os, h.tape, h.output, h.size, h.block⟩
theorem Apart.setCell {S : List Nat} {a w : World} (h : Apart S a w) (p : Addr) (hp : p.block ∈ S ∨ a.heap.size ≤ p.block) (u : Value) : Apart S a (w.setCell p u) :=
 h.trans (T := [p.block]) ⟨rfl, rfl, rfl, by simp [World.setCell], fun k hk hn => Below.heap_setCell _ _ _ _ (by simpa using hn)⟩ (by simpa using hp)
theorem _root_.Go.RowKit.Below.drewN {B : Nat} {a w : World} (h : Below B a w) (n : Nat) : Below B a (w.drewN n) := ⟨h.os, h.tape, h.output, h.size, h.block⟩
theorem heap_alloc_lt (w : World) (o : Obj) (k : Nat) (h : k < w.heap.size) : (w.alloc o).heap[k]? = w.heap[k]? := Below.heap_alloc w o k h
theorem heap_alloc_at (w : World) (o : Obj) : (w.alloc o).heap[w.heap.size]? = some o := by show (w.heap.push o)[w.heap.size]? = _; simp
theorem setCell_heap_same {w : World} {b : Nat} {c : Array Value} {t : TypeId} {f : Nat × Nat} (h : w.heap[b]? = some (.cells c t f)) (i : Nat) (v : Value) :
 (w.setCell ⟨b, i, none⟩ v).heap[b]? = some (.cells (c.setIfInBounds i v) t f) := by
 simp [World.setCell, Array.getElem?_modify, h]
theorem lt_of_heap {w : World} {k : Nat} {o : Obj} (h : w.heap[k]? = some o) : k < w.heap.size := (Array.getElem?_eq_some_iff.1 h).1
/-! one step of a loop over a map -/
end Go.Proofs.YtfdnhkjeoeffoaaGreatDoor
end

section
/- strings.Builder as a field of a struct behind a pointer: copyCheck, WriteString, Len. -/
namespace Go.Proofs.YtfdnhkjeoeffoaaGreatDoor
open Go.RowKit
set_option linter.unusedVariables false
theorem sizeBuilderE : (Tryz.prog.info? 122).map (·.size) = some 2 := by kernel_rfl
theorem liesBuilderE : liesAt Tryz.prog Tryz.prog.depth 124 (5 / Tryz.prog.cellsOf 124) 3 122 1 = true := by kernel_rfl
theorem infoByteE : (Tryz.prog.info? 5).map (fun i => (i.zero, i.size, i.bytes)) = some (some (.int .u8 0), 1, 1) := by kernel_rfl
/-- append of a string: where the row lies behind it -/
theorem app_str_at {P : Program} (w : World) (base : Nat) (t u ty e : TypeId) (i : TypeInfo) (ht : P.underlying t = some (.slice e)) (hu : P.underlying u = some .string) (hi : P.info? e = some i) (hz : i.zero = some (.int .u8 0))
 (hsize : i.size = 1) (hby : i.bytes = 1) (v : Value) (n : Nat) (xs : List Value) (hown : w.ownsRow base e 1 v n xs) (s : ByteArray)
 (hbytes : n + s.size ≤ 140737488355328) (hbase : base ≤ w.heap.size) {v' : Value} {w' : World} (hr : (Builtin.append_ #[t, u] ty #[v, .string s]).run P w = .ok v' w') :
 v'.ownBlock = v.ownBlock ∨ v'.ownBlock = some w.heap.size := by
 rcases hown.2 with ⟨rfl, rfl⟩ | ⟨g, cap, cur, rfl, hbg, hg, hnc, hcm, hcs, htake⟩
 ·by_cases hm : s.size = 0
  ·obtain ⟨v2, w2, hr2, h2, h3, h4⟩ := Lib.run_append_own_string (P := P) w base t u ty e i ht hu hi hz hsize hby _ _ _ hown s (by unfold maxLen; omega) (by omega) hbase
   rw [hr] at hr2
   cases hr2
   exact .inl (by rw [h4.2 ⟨rfl, hm⟩])
  ·have hr2 := run_append_nil_string (P := P) w t u ty e i (.int .u8 0) ht hu hi hz s (by omega) (by omega) (by rw [hby]; omega)
   rw [hr] at hr2
   cases hr2
   exact .inr rfl
 ·by_cases hroom : n + s.size ≤ cap
  ·have hcs' : cur.size = cap := by simpa using hcs
   have hr2 := Lib.run_append_room_string (P := P) w t u ty e i ht hu hi hsize g n cap cur hg s hroom (by omega)
   rw [hr] at hr2
   cases hr2
   exact .inl rfl
  ·have holds : ∀ j u, xs[j]? = some u → w.cell? ((⟨g, 0, none⟩ : Addr).add j) = some u := hown.cells (g := g) rfl
   have hr2 := Lib.run_append_grow_string (P := P) w t u ty e i (.int .u8 0) ht hu hi hz ⟨g, 0, none⟩ n cap xs (by rw [hsize]; exact hown.1) holds s (by omega) (by omega) (by rw [hby]; exact growslice_fits (by omega) (by omega))
   rw [hr] at hr2
   cases hr2
   exact .inr rfl
theorem wpList_app_str {ops : Array Oper} {rest : List Oper} {o : Oper} {a : Act} {Q : Exit → Act → World → Prop} (w : World) (hgd : o.guard = none) (sl x : Operand)
 (ho : o.op = .call { callee := .builtin .append, args := #[sl, x], argTypes := #[64, 9] })
 (base : Nat) (v : Value) (n : Nat) (xs : List Value) (hs : a.eval sl = v) (hown : w.ownsRow base 5 1 v n xs) (s : ByteArray) (hx : a.eval x = .string s)
 (hbytes : n + s.size ≤ 140737488355328) (hbase : base ≤ w.heap.size)
 (h : ∀ v' w', w'.ownsRow base 5 1 v' (n + s.size) (xs ++ Lib.strCells s) → w.grownBy w' v.ownBlock → (v'.ownBlock = v.ownBlock ∨ v'.ownBlock = some w.heap.size) → wpList Tryz.prog ops Q rest (a.put o.dst v') w') : wpList Tryz.prog ops Q (o :: rest) a w := by
 obtain ⟨i0, hi, hz0, hz1, hz2⟩ := info_parts infoByteE
 refine wpList_plain hgd fun K hK => ?_
 obtain ⟨v', w', hr, h2, h3, h4⟩ := Lib.run_append_own_string (P := Tryz.prog) w base 64 9 o.type 5 i0 Tryz.underlying64 Tryz.underlying9 hi hz0 hz1 hz2 v n xs hown s (by unfold maxLen; omega) (by omega) hbase
 have h5 := app_str_at (P := Tryz.prog) w base 64 9 o.type 5 i0 Tryz.underlying64 Tryz.underlying9 hi hz0 hz1 hz2 v n xs hown s hbytes hbase hr
 unfold Oper.wp execOp
 simp only [ho, resolve, invoke, builtin, Sem.run_bind, Sem.run_pure, Result.andThen_ok, List.map_toArray, List.map_cons, List.map_nil, hs, hx, hr]
 exact hK _ _ (h v' w' h2 h3 h5)
theorem Apart.more {S S' : List Nat} {w w' : World} (h : Apart S w w') (hs : ∀ x ∈ S, x ∈ S') : Apart S' w w' := ⟨h.os, h.tape, h.output, h.size, fun k hk hn => h.block k hk (fun hm => hn (hs k hm))⟩
theorem Apart.ofGrown {w w' : World} {row : Option Nat} (h : w.grownBy w' row) : Apart row.toList w w' := ⟨h.os, h.tape, h.output, h.size, fun k hk hn => h.block k hk (fun e => hn (by simp [← e]))⟩
/-- v' lies where v lay, or is new -/
def Loc (w : World) (v v' : Value) : Prop := ∀ g, v'.ownBlock = some g → v.ownBlock = some g ∨ w.heap.size ≤ g
/-- a builder as a field of the struct in block b: its two cells and what it holds -/
structure InB (w : World) (B b : Nat) (cs : Array Value) (p v : Value) (bs : List Value) : Prop where
 lo : B ≤ b
 heap : w.heap[b]? = some (.cells cs 124 (0, 0))
 size : cs.size = 5
 c0 : cs[3]? = some p
 c1 : cs[4]? = some v
 ptr : p = .pointer none ∨ p = .pointer (some ⟨b, 3, none⟩)
 own : w.ownsRow B 5 1 v bs.length bs
theorem InB.cell0 {w : World} {B b : Nat} {cs : Array Value} {p v : Value} {bs : List Value} (h : InB w B b cs p v bs) : w.cell? ⟨b, 3, none⟩ = some p := (Lib.cell_of_heap h.heap 3).trans h.c0
theorem InB.cell1 {w : World} {B b : Nat} {cs : Array Value} {p v : Value} {bs : List Value} (h : InB w B b cs p v bs) : w.cell? ⟨b, 4, none⟩ = some v := (Lib.cell_of_heap h.heap 4).trans h.c1
theorem InB.ne {w : World} {B b : Nat} {cs : Array Value} {p v : Value} {bs : List Value} (h : InB w B b cs p v bs) : v.ownBlock ≠ some b := Lib.ownBlock_ne h.own h.heap (by decide)
theorem InB.lt {w : World} {B b : Nat} {cs : Array Value} {p v : Value} {bs : List Value} (h : InB w B b cs p v bs) : b < w.heap.size := lt_of_heap h.heap
set_option maxHeartbeats 1000000 in
set_option maxRecDepth 100000 in
theorem copyCheckE_used (b : Nat) (w : World) (h0 : w.cell? ⟨b, 3, none⟩ = some (.pointer (some ⟨b, 3, none⟩))) :
 Calls Tryz.prog 139 #[.pointer (some ⟨b, 3, none⟩)] w fun e w' => e = .returned (.tuple #[]) ∧ w' = w := by
 obtain ⟨j, hj, _⟩ := Option.map_eq_some_iff.1 sizeBuilderE
 go_enter Tryz.func139, Tryz.ntmps139
 go_wp2
 rw [Lib.run_neq_ptr_same w _ Tryz.underlying120 hj]
 go_wp2
 go_end0
 exact ⟨rfl, rfl⟩
set_option maxHeartbeats 1000000 in
set_option maxRecDepth 100000 in
theorem copyCheckE_fresh (b : Nat) (w : World) (h0 : w.cell? ⟨b, 3, none⟩ = some (.pointer none)) (hsh : w.shape? b = some (124, 5)) (hfz : w.frozen? ⟨b, 3, none⟩ = false) :
 Calls Tryz.prog 139 #[.pointer (some ⟨b, 3, none⟩)] w fun e w' => e = .returned (.tuple #[]) ∧ w' = w.setCell ⟨b, 3, none⟩ (.pointer (some ⟨b, 3, none⟩)) := by
 obtain ⟨j, hj, hjs⟩ := Option.map_eq_some_iff.1 sizeBuilderE
 go_enter Tryz.func139, Tryz.ntmps139
 go_wp2
 rw [Lib.run_to_unsafe w ⟨b, 3, none⟩ Tryz.underlying120 Tryz.underlying255 hj (by rw [hjs]; decide) hsh (show 3 < 5 by decide)]
 simp only [Result.andThen]
 rw [Oper.upon_value]
 go_wp2
 rw [run_callFunc_extern Tryz.func206 (by kernel_rfl) (by kernel_rfl) (by kernel_rfl) (e := Extern.AbiNoEscape.same) (by kernel_rfl)]
 rw [Lib.run_noEscape]
 simp only [Result.andThen]
 rw [Oper.upon_value]
 go_wp2
 rw [Lib.run_from_unsafe w ⟨b, 3, none⟩ Tryz.underlying255 Tryz.underlying120 hj hsh liesBuilderE]
 simp only [Result.andThen]
 rw [Oper.upon_value]
 go_wp2
 go_end0
 exact ⟨rfl, rfl⟩
/-- the struct's cells behind a write -/
def wroteB (b : Nat) (cs : Array Value) (v' : Value) : Array Value := (cs.setIfInBounds 3 (.pointer (some ⟨b, 3, none⟩))).setIfInBounds 4 v'
theorem copyCheckE_any {w : World} {B b : Nat} {cs : Array Value} {p v : Value} {bs : List Value} (h : InB w B b cs p v bs) :
 Calls Tryz.prog 139 #[.pointer (some ⟨b, 3, none⟩)] w fun e w' => e = .returned (.tuple #[]) ∧ InB w' B b (cs.setIfInBounds 3 (.pointer (some ⟨b, 3, none⟩))) (.pointer (some ⟨b, 3, none⟩)) v bs ∧ Apart [b] w w' := by
 have hk : 3 < cs.size := by rw [h.size]; decide
 have hs : cs.setIfInBounds 3 (.pointer (some ⟨b, 3, none⟩)) = cs.setIfInBounds 3 (.pointer (some ⟨b, 3, none⟩)) := rfl
 rcases h.ptr with hp | hp
 ·have h0 := h.cell0
  rw [hp] at h0
  refine (copyCheckE_fresh b w h0 (by simp [World.shape?, h.heap, h.size]) (by simp [World.frozen?, h.heap])).mono ?_
  rintro e w' ⟨rfl, rfl⟩
  refine ⟨rfl, ⟨h.lo, setCell_heap_same h.heap _ _, by simpa using h.size, by simp [hk], ?_, .inr rfl, ?_⟩, (Apart.refl _ _).setCell _ (.inl (by simp)) _⟩
  ·rw [Array.getElem?_setIfInBounds]
   rw [if_neg (by decide)]
   exact h.c1
  ·exact h.own.kept (row := some b) ⟨rfl, rfl, rfl, by simp [World.setCell], fun k _ hk => Below.heap_setCell _ _ _ _ (fun e => hk (by simp [e]))⟩ (.inr h.ne)
 ·have h0 := h.cell0
  rw [hp] at h0
  refine (copyCheckE_used b w h0).mono ?_
  rintro e w' ⟨rfl, rfl⟩
  have hse : cs.setIfInBounds 3 (.pointer (some ⟨b, 3, none⟩)) = cs := by
   apply Array.ext (by simp)
   intro i h1 h2
   rw [Array.getElem_setIfInBounds]
   split
   ·have := h.c0
    rename_i e
    subst e
    rw [Array.getElem?_eq_getElem h2, hp] at this
    exact (Option.some.inj this).symm
   ·rfl
  rw [hse]
  exact ⟨rfl, hp ▸ h, Apart.refl _ _⟩
set_option maxHeartbeats 4000000 in
set_option maxRecDepth 100000 in
theorem WriteStringE_any {w : World} {B b : Nat} {cs : Array Value} {p v : Value} {bs : List Value} (s : ByteArray) (h : InB w B b cs p v bs) (hlen : bs.length + s.size ≤ 140737488355328) (hBw : B ≤ w.heap.size) :
 Calls Tryz.prog 88 #[.pointer (some ⟨b, 3, none⟩), .string s] w fun e w' => e = .returned (.tuple #[.int .i64 s.size, .nilIface]) ∧
  ∃ v', InB w' B b (wroteB b cs v') (.pointer (some ⟨b, 3, none⟩)) v' (bs ++ Lib.strCells s) ∧ Apart (b :: v.ownBlock.toList) w w' ∧ Loc w v v' := by
 go_enter Tryz.func88, Tryz.ntmps88
 go_wp2_with fail
 refine (copyCheckE_any h).mono ?_
 rintro e w1 ⟨rfl, h1, ha1⟩
 have c0 := h1.cell0
 have c1 := h1.cell1
 have hsz : w.heap.size ≤ w1.heap.size := ha1.size
 have HA1 := Lib.hid ha1
 have H1 := Lib.hid h1
 have H := Lib.hid h
 clear ha1 h1 h
 go_wp2_with (at_builtin; refine wpList_app_str _ rfl _ _ rfl B _ _ _ rfl H1.out.own s rfl ?c4 ?c5 ?_)
 case c4 => omega
 case c5 => omega
 intro v' w2 hown' hgrow hat
 have hb2 : w2.heap[b]? = some (.cells (cs.setIfInBounds 3 (.pointer (some ⟨b, 3, none⟩))) 124 (0, 0)) := by
  rw [hgrow.block b H1.out.lt (fun e => H1.out.ne e.symm)]
  exact H1.out.heap
 have d0 : w2.cell? ⟨b, 3, none⟩ = some (.pointer (some ⟨b, 3, none⟩)) := (Lib.cell_of_heap hb2 3).trans H1.out.c0
 have d1 : w2.cell? ⟨b, 4, none⟩ = some v := (Lib.cell_of_heap hb2 4).trans H1.out.c1
 have f1 : w2.frozen? ⟨b, 4, none⟩ = false := Lib.frozen_of_heap hb2 4
 have HOWN := Lib.hid hown'
 have HGR := Lib.hid hgrow
 have HAT := Lib.hid hat
 have HB2 := Lib.hid hb2
 obtain ⟨ao, n', cap, rfl⟩ : ∃ ao n' cap, v' = .slice ao n' cap := by
  rcases hown'.2 with ⟨hv, _⟩ | ⟨g, cap, cur, hv, _⟩
  ·exact ⟨_, _, _, hv⟩
  ·exact ⟨_, _, _, hv⟩
 clear hown' hgrow hat hb2
 go_wp2_with fail
 go_ret2
 have hne2 : Value.ownBlock (.slice ao n' cap) ≠ some b := Lib.ownBlock_ne HOWN.out HB2.out (by decide)
 have hksz : 4 < (cs.setIfInBounds 3 (.pointer (some ⟨b, 3, none⟩))).size := by rw [H1.out.size]; decide
 refine ⟨rfl, _, ⟨H.out.lo, setCell_heap_same HB2.out _ _, by unfold wroteB; rw [Array.size_setIfInBounds]; exact H1.out.size, ?_, by simp only [wroteB]; rw [Array.getElem?_setIfInBounds_self_of_lt hksz], .inr rfl, ?_⟩, ?_, ?_⟩
 ·unfold wroteB
  rw [Array.getElem?_setIfInBounds, if_neg (by decide)]
  exact H1.out.c0
 ·have hx := HOWN.out
  rw [show (bs ++ Lib.strCells s).length = bs.length + s.size from by simp [Lib.strCells_length]]
  exact hx.kept (row := some b) ⟨rfl, rfl, rfl, by simp [World.setCell], fun k _ hk => Below.heap_setCell _ _ _ _ (fun e => hk (by simp [e]))⟩ (.inr hne2)
 ·refine Apart.setCell ?_ _ (.inl (by simp)) _
  exact (HA1.out.more (fun x hx => by simp at hx; simp [hx])).trans (Apart.ofGrown HGR.out) (fun x hx => .inl (List.mem_cons_of_mem _ hx))
 ·intro g hg
  rcases HAT.out with e | e
  ·exact .inl (e ▸ hg)
  ·rw [e] at hg
   cases hg
   exact .inr hsz
theorem InB.slice {w : World} {B b : Nat} {cs : Array Value} {p v : Value} {bs : List Value} (h : InB w B b cs p v bs) : ∃ a cap, v = .slice a bs.length cap := by
 rcases h.own.2 with ⟨rfl, h0⟩ | ⟨g, cap, cur, hv, _⟩
 ·exact ⟨none, 0, by rw [h0]⟩
 ·exact ⟨_, cap, hv⟩
set_option maxHeartbeats 1000000 in
set_option maxRecDepth 100000 in
theorem LenE_any {w : World} {B b : Nat} {cs : Array Value} {p v : Value} {bs : List Value} (h : InB w B b cs p v bs) :
 Calls Tryz.prog 90 #[.pointer (some ⟨b, 3, none⟩)] w fun e w' => e = .returned (.int .i64 bs.length) ∧ w' = w := by
 have c1 := h.cell1
 obtain ⟨a, cap, rfl⟩ := h.slice
 clear h
 go_enter Tryz.func90, Tryz.ntmps90
 go_wp2
 go_ret
 exact ⟨rfl, rfl⟩
theorem cell_old {w : World} {o : Obj} {a : Addr} (h : a.block < w.heap.size) : (w.alloc o).cell? a = w.cell? a := by
 have e : (w.alloc o).heap[a.block]? = w.heap[a.block]? := heap_alloc_lt w o a.block h
 simp only [World.cell?, e]
set_option maxHeartbeats 4000000 in
set_option maxRecDepth 100000 in
/-- String: what the builder holds; one draw -/
theorem StringE_any {w : World} {B b : Nat} {cs : Array Value} {p v : Value} {l : List UInt8} (h : InB w B b cs p v (Lib.byteCells l)) (hBw : B ≤ w.heap.size) :
 Calls Tryz.prog 91 #[.pointer (some ⟨b, 3, none⟩)] w fun e w' => e = .returned (.string ⟨l.toArray⟩) ∧ ∃ w0, (w0 = w ∨ ∃ o, w0 = w.alloc o) ∧ (w' = w0.drew ∨ ∃ g n, v.ownBlock = some g ∧ w' = w0.drew.freeze ⟨g, 0, none⟩ n) := by
 have c1 : w.drew.cell? ⟨b, 4, none⟩ = some v := h.cell1
 have hlt := h.lt
 have hown := h.own
 clear h
 rw [Lib.byteCells_length] at hown
 have hUS0 : ∀ (W : World) (q : Option Addr), (Builtin.unsafeString_ #[193, 3] 9 #[.pointer q, .int .i64 0]).run Tryz.prog W = .ok (.string .empty) W := fun W q => Lib.run_unsafeString_none W _ _ _ q
 rcases hown.2 with ⟨rfl, h0⟩ | ⟨g, cap, cur, rfl, hbg, hg, hnc, hcm, hcs, htake⟩
 ·obtain rfl : l = [] := List.eq_nil_of_length_eq_zero h0
  have hSD : (Builtin.unsafeSliceData_ #[64] 193 #[.slice none 0 0]).run Tryz.prog w.drew = .ok (.pointer none) w.drew := rfl
  go_enter Tryz.func91, Tryz.ntmps91
  go_wp2
  go_region
  all_goals go_wp2
  all_goals go_ret
  all_goals exact ⟨rfl, w, .inl rfl, .inl rfl⟩
 ·by_cases hl0 : l = []
  ·subst hl0
   by_cases hc0 : cap = 0
   ·subst hc0
    have hSD : (Builtin.unsafeSliceData_ #[64] 193 #[.slice (some ⟨g, 0, none⟩) 0 0]).run Tryz.prog w.drew = .ok (.pointer (some ⟨w.drew.heap.size, 0, none⟩)) (w.drew.alloc (.view ⟨g, 0, none⟩ 5)) :=
     Lib.run_unsafeSliceData_zero w.drew _ _ 5 Tryz.underlying193 ⟨g, 0, none⟩ 0 (5, cur.size) (by have hg' : w.drew.heap[g]? = some (.cells cur 5 (0, 0)) := hg; simp [World.shape?, hg'])
    have c2 : (w.drew.alloc (.view ⟨g, 0, none⟩ 5)).cell? ⟨b, 4, none⟩ = some (.slice (some ⟨g, 0, none⟩) 0 0) := (cell_old (w := w.drew) (a := ⟨b, 4, none⟩) hlt).trans c1
    have c3 : (w.alloc (.view ⟨g, 0, none⟩ 5)).drew.cell? ⟨b, 4, none⟩ = some (.slice (some ⟨g, 0, none⟩) 0 0) := c2
    have c0 : w.cell? ⟨b, 4, none⟩ = some (.slice (some ⟨g, 0, none⟩) 0 0) := c1
    go_enter Tryz.func91, Tryz.ntmps91
    go_wp2
    go_region
    all_goals go_wp2
    all_goals go_ret
    all_goals exact ⟨rfl, _, .inr ⟨_, rfl⟩, .inl rfl⟩
   ·have hSD : (Builtin.unsafeSliceData_ #[64] 193 #[.slice (some ⟨g, 0, none⟩) 0 cap]).run Tryz.prog w.drew = .ok (.pointer (some ⟨g, 0, none⟩)) w.drew :=
     Lib.run_unsafeSliceData_row _ _ _ _ _ _ hc0
    clear hc0
    go_enter Tryz.func91, Tryz.ntmps91
    go_wp2
    go_region
    all_goals go_wp2
    all_goals go_ret
    all_goals exact ⟨rfl, w, .inl rfl, .inl rfl⟩
  ·have hl1 : l.length ≠ 0 := by simpa using hl0
   have hSD : (Builtin.unsafeSliceData_ #[64] 193 #[.slice (some ⟨g, 0, none⟩) l.length cap]).run Tryz.prog w.drew = .ok (.pointer (some ⟨g, 0, none⟩)) w.drew :=
    Lib.run_unsafeSliceData_row _ _ _ _ _ _ (by omega)
   have hUS : (Builtin.unsafeString_ #[193, 3] 9 #[.pointer (some ⟨g, 0, none⟩), .int .i64 l.length]).run Tryz.prog w.drew = .ok (.string ⟨l.toArray⟩) (w.drew.freeze ⟨g, 0, none⟩ l.length) := by
    refine Lib.run_unsafeString_row w.drew 193 3 9 5 Tryz.underlying193 (by kernel_rfl) g cur.size (by have hg' : w.drew.heap[g]? = some (.cells cur 5 (0, 0)) := hg; simp [World.shape?, hg']) l hl0 (by omega) (by unfold maxLen at hcm; omega) ?_
    intro j x hx
    exact hown.cells (g := g) rfl j (.int .u8 x.toNat) (by simp [Lib.byteCells, hx])
   clear hown hcs htake hnc hcm hg hl1 hUS0
   go_enter Tryz.func91, Tryz.ntmps91
   go_wp2
   go_region
   all_goals go_wp2
   all_goals go_ret
   all_goals exact ⟨rfl, w, .inl rfl, .inr ⟨g, _, rfl, rfl⟩⟩
end Go.Proofs.YtfdnhkjeoeffoaaGreatDoor
end

section
/- strings.Builder as a field of printf.writer: WriteByte. -/
namespace Go.Proofs.YtfdnhkjeoeffoaaGreatDoor
open Go.RowKit
set_option linter.unusedVariables false
set_option maxHeartbeats 4000000 in
set_option maxRecDepth 100000 in
theorem WriteByteE_any {w : World} {B b : Nat} {cs : Array Value} {p v : Value} {bs : List Value} (c : Nat) (hc : c < 256) (h : InB w B b cs p v bs) (hlen : bs.length + 1 ≤ 140737488355328) (hBw : B ≤ w.heap.size) :
 Calls Tryz.prog 141 #[.pointer (some ⟨b, 3, none⟩), .int .u8 (c : Int)] w fun e w' => e = .returned .nilIface ∧
  ∃ v', InB w' B b (wroteB b cs v') (.pointer (some ⟨b, 3, none⟩)) v' (bs ++ [.int .u8 (c : Int)]) ∧ Apart (b :: v.ownBlock.toList) w w' ∧ Loc w v v' := by
 obtain ⟨i0, hi, hz0, hz1, hz2⟩ := info_parts infoByteE
 go_enter Tryz.func141, Tryz.ntmps141
 go_wp2_with fail
 refine (copyCheckE_any h).mono ?_
 rintro e w1 ⟨rfl, h1, ha1⟩
 have c0 := h1.cell0
 have c1 := h1.cell1
 have hsz : w.heap.size ≤ w1.heap.size := ha1.size
 have HA1 := Lib.hid ha1
 have H1 := Lib.hid h1
 have H := Lib.hid h
 clear ha1 h1 h
 go_wp2_with (at_builtin; refine wpList_append_own_at _ rfl _ _ 64 rfl B 5 i0 (.int .u8 0) 1 1 Tryz.underlying64 hi hz0 hz1 hz2 rfl (by decide) _ _ _ rfl (H1.out.own.alloc _) ⟨w1.heap.size, 0, none⟩ 1 1 [.int .u8 (c : Int)] rfl rfl ?c1 ?c2 ?c3 ?c4 ?c5 ?_)
 case c1 =>
  intro j u hj
  match j, hj with
  | 0, hj => simp at hj; subst hj; simp [Addr.add]
 case c2 => intro u hu; simp at hu; subst hu; rfl
 case c3 => unfold maxLen; omega
 case c4 => omega
 case c5 => simp; omega
 intro v' w2 hown' hgrow _ hat
 have hb2 : w2.heap[b]? = some (.cells (cs.setIfInBounds 3 (.pointer (some ⟨b, 3, none⟩))) 124 (0, 0)) := by
  rw [hgrow.block b (by have := H1.out.lt; simp; omega) (fun e => H1.out.ne e.symm), Lib.alloc_old w1 _ b H1.out.lt]
  exact H1.out.heap
 have d0 : w2.cell? ⟨b, 3, none⟩ = some (.pointer (some ⟨b, 3, none⟩)) := (Lib.cell_of_heap hb2 3).trans H1.out.c0
 have d1 : w2.cell? ⟨b, 4, none⟩ = some v := (Lib.cell_of_heap hb2 4).trans H1.out.c1
 have f1 : w2.frozen? ⟨b, 4, none⟩ = false := Lib.frozen_of_heap hb2 4
 have HOWN := Lib.hid hown'
 have HGR := Lib.hid hgrow
 have HAT := Lib.hid hat
 have HB2 := Lib.hid hb2
 obtain ⟨g, cap, rfl⟩ : ∃ g cap, v' = .slice (some ⟨g, 0, none⟩) (bs.length + 1) cap := by
  rcases hown'.2 with ⟨_, h0⟩ | ⟨g, cap, cur, hv, _⟩
  ·omega
  ·exact ⟨g, cap, hv⟩
 clear hown' hgrow hat hb2
 go_wp2_with fail
 go_ret
 have hne2 : Value.ownBlock (.slice (some ⟨g, 0, none⟩) (bs.length + 1) cap) ≠ some b := Lib.ownBlock_ne HOWN.out HB2.out (by decide)
 have hksz : 4 < (cs.setIfInBounds 3 (.pointer (some ⟨b, 3, none⟩))).size := by rw [H1.out.size]; decide
 refine ⟨rfl, _, ⟨H.out.lo, setCell_heap_same HB2.out _ _, by unfold wroteB; rw [Array.size_setIfInBounds]; exact H1.out.size, ?_, by simp only [wroteB]; rw [Array.getElem?_setIfInBounds_self_of_lt hksz], .inr rfl, ?_⟩, ?_, ?_⟩
 ·unfold wroteB
  rw [Array.getElem?_setIfInBounds, if_neg (by decide)]
  exact H1.out.c0
 ·have hx := HOWN.out
  rw [show (bs ++ [Value.int .u8 (c : Int)]).length = bs.length + 1 from by simp]
  exact hx.kept (row := some b) ⟨rfl, rfl, rfl, by simp [World.setCell], fun k _ hk => Below.heap_setCell _ _ _ _ (fun e => hk (by simp [e]))⟩ (.inr hne2)
 ·refine Apart.setCell ?_ _ (.inl (by simp)) _
  have e1 : Apart v.ownBlock.toList w1 (w1.alloc (.cells #[.int .u8 (c : Int)] 5)) := (Apart.refl _ _).alloc _
  have e2 := e1.trans (Apart.ofGrown HGR.out) (fun x hx => .inl hx)
  exact (HA1.out.more (fun x hx => by simp at hx; simp [hx])).trans e2 (fun x hx => .inl (List.mem_cons_of_mem _ hx))
 ·intro g' hg
  rcases HAT.out with e | e
  ·exact .inl (e ▸ hg)
  ·rw [e] at hg
   cases hg
   exact .inr (by first | omega | (simp; omega))
end Go.Proofs.YtfdnhkjeoeffoaaGreatDoor
end

section
/- Package format: the reader: next and flags. -/
namespace Go.Proofs.YtfdnhkjeoeffoaaGreatDoor
open Go.RowKit
set_option linter.unusedVariables false
theorem sz_list (s : ByteArray) : s.size = s.data.toList.length := by cases s; simp [ByteArray.size]
/-- the byte at a place; nought where there is none -/
def ch (s : ByteArray) (i : Nat) : Nat := (s.data.toList.getD i 0).toNat
def chr (s : ByteArray) (i : Int) : Nat := if i < 0 then 0 else ch s i.toNat
theorem chr_nat (s : ByteArray) (i : Nat) : chr s (i : Int) = ch s i := by
 unfold chr
 rw [if_neg (by omega)]
 rfl
theorem ch_out {s : ByteArray} {i : Nat} (h : s.size ≤ i) : ch s i = 0 := by
 unfold ch
 rw [List.getD_eq_getElem?_getD, List.getElem?_eq_none (by rw [← sz_list]; exact h)]
 rfl
theorem ch_lt (s : ByteArray) (i : Nat) : ch s i < 256 := by
 unfold ch
 exact UInt8.toNat_lt _
theorem ch_in {s : ByteArray} {i : Nat} (h : i < s.size) : s[i].toNat = ch s i := by
 unfold ch
 have hl : i < s.data.toList.length := by rw [← sz_list]; exact h
 rw [List.getD_eq_getElem?_getD, List.getElem?_eq_getElem hl]
 rfl
/-- the reader's block -/
def RdAt (w : World) (r : Nat) (s : ByteArray) (i : Int) : Prop := w.heap[r]? = some (.cells #[.string s, .int .i64 i] 172 (0, 0))
theorem RdAt.c0 {w : World} {r : Nat} {s : ByteArray} {i : Int} (h : RdAt w r s i) : w.cell? ⟨r, 0, none⟩ = some (.string s) := by rw [Lib.cell_of_heap h]; rfl
theorem RdAt.c1 {w : World} {r : Nat} {s : ByteArray} {i : Int} (h : RdAt w r s i) : w.cell? ⟨r, 1, none⟩ = some (.int .i64 i) := by rw [Lib.cell_of_heap h]; rfl
theorem RdAt.f1 {w : World} {r : Nat} {s : ByteArray} {i : Int} (h : RdAt w r s i) : w.frozen? ⟨r, 1, none⟩ = false := Lib.frozen_of_heap h 1
theorem RdAt.lt {w : World} {r : Nat} {s : ByteArray} {i : Int} (h : RdAt w r s i) : r < w.heap.size := lt_of_heap h
theorem RdAt.keep {w w' : World} {r : Nat} {s : ByteArray} {i : Int} {S : List Nat} (h : RdAt w r s i) (ha : Apart S w w') (hS : r ∉ S) : RdAt w' r s i := (ha.block r h.lt hS).trans h
theorem RdAt.below {w w' : World} {r : Nat} {s : ByteArray} {i : Int} (h : RdAt w r s i) (hb : Below w.heap.size w w') : RdAt w' r s i := (hb.block r h.lt).trans h
theorem RdAt.step {w : World} {r : Nat} {s : ByteArray} {i : Int} (h : RdAt w r s i) (j : Int) : RdAt (w.setCell ⟨r, 1, none⟩ (.int .i64 j)) r s j := setCell_heap_same h 1 _
set_option maxHeartbeats 8000000 in
set_option maxRecDepth 100000 in
theorem next_any (s : ByteArray) (i : Int) (r : Nat) (w : World) (hr : RdAt w r s i) :
 Calls Tryz.prog 121 #[.pointer (some ⟨r, 0, none⟩)] w fun e w' => e = .returned (.int .u8 (chr s i)) ∧ Below w.heap.size w w' := by
 have c0 := hr.c0
 have c1 := hr.c1
 obtain ⟨c, hc⟩ : ∃ c, c = chr s i := ⟨_, rfl⟩
 rw [← hc]
 have HC := Lib.hid hc
 clear hc hr
 rcases Int.lt_or_le i 0 with h | h
 ·have h0 : c = 0 := by rw [HC.out]; unfold chr; rw [if_pos h]
  subst h0
  clear HC
  go_enter Tryz.func121, Tryz.ntmps121
  go_wp2_with fail
  go_region
  go_wp2_with fail
  go_ret
  exact ⟨rfl, (Below.refl _ _).drew⟩
 ·obtain ⟨k, rfl⟩ : ∃ k : Nat, i = (k : Int) := ⟨i.toNat, by omega⟩
  rw [chr_nat] at HC
  have hneg : ¬ ((k : Int) < 0) := by omega
  rcases Nat.lt_or_ge k s.size with hk | hk
  ·have hI : (k : Int) < (s.size : Int) := by omega
   have hcc : s[k].toNat = c := by rw [HC.out]; exact ch_in hk
   go_enter Tryz.func121, Tryz.ntmps121
   go_wp2_with fail
   go_region
   all_goals go_wp2_with fail
   all_goals go_region
   all_goals go_wp2_with fail
   all_goals go_ret
   all_goals exact ⟨rfl, (Below.refl _ _).drew.drew⟩
  ·have h0 : c = 0 := by rw [HC.out]; exact ch_out hk
   have hI : (s.size : Int) ≤ (k : Int) := by omega
   subst h0
   clear HC
   go_enter Tryz.func121, Tryz.ntmps121
   go_wp2_with fail
   go_region
   all_goals go_wp2_with fail
   all_goals go_ret
   all_goals exact ⟨rfl, (Below.refl _ _).drew⟩
def isFlag (c : UInt8) : Bool := c == 45 || c == 43 || c == 32 || c == 35 || c == 48
/-- how many signs of flags stand there -/
def flagN (s : ByteArray) (i : Nat) : Nat := ((s.data.toList.drop i).takeWhile isFlag).length
def hasF (c : UInt8) (s : ByteArray) (i n : Nat) : Bool := ((s.data.toList.drop i).take n).contains c
theorem takeWhile_at {α : Type} (p : α → Bool) : ∀ (l : List α) (k : Nat), k < (l.takeWhile p).length → ∃ x, l[k]? = some x ∧ p x = true
 | [], k, h => by simp at h
 | a :: l, k, h => by
   rw [List.takeWhile_cons] at h
   split at h
   ·rename_i ha
    cases k with
    | zero => exact ⟨a, rfl, ha⟩
    | succ k =>
      obtain ⟨x, h1, h2⟩ := takeWhile_at p l k (by simpa using h)
      exact ⟨x, by simpa using h1, h2⟩
   ·simp at h
theorem takeWhile_stop {α : Type} (p : α → Bool) : ∀ (l : List α) (x : α), l[(l.takeWhile p).length]? = some x → p x = false
 | [], x, h => by simp at h
 | a :: l, x, h => by
   rw [List.takeWhile_cons] at h
   split at h
   ·rename_i ha
    exact takeWhile_stop p l x (by simpa using h)
   ·rename_i ha
    simp at h
    subst h
    simpa using ha
theorem ch_get {s : ByteArray} {i k : Nat} {x : UInt8} (h : (s.data.toList.drop i)[k]? = some x) : ch s (i + k) = x.toNat := by
 rw [List.getElem?_drop] at h
 unfold ch
 rw [List.getD_eq_getElem?_getD, h]
 rfl
theorem ch_none {s : ByteArray} {i k : Nat} (h : (s.data.toList.drop i)[k]? = none) : ch s (i + k) = 0 := by
 rw [List.getElem?_drop] at h
 unfold ch
 rw [List.getD_eq_getElem?_getD, h]
 rfl
theorem hasF_zero (c : UInt8) (s : ByteArray) (i : Nat) : hasF c s i 0 = false := by simp [hasF]
theorem hasF_step (c : UInt8) (s : ByteArray) (i n : Nat) (x : UInt8) (h : (s.data.toList.drop i)[n]? = some x) : hasF c s i (n + 1) = (hasF c s i n || c == x) := by
 unfold hasF
 rw [List.take_add_one, h]
 simp
 rfl
/-- the byte behind the flags is none -/
theorem flag_stop (s : ByteArray) (i : Nat) : ch s (i + flagN s i) ≠ 45 ∧ ch s (i + flagN s i) ≠ 43 ∧ ch s (i + flagN s i) ≠ 32 ∧ ch s (i + flagN s i) ≠ 35 ∧ ch s (i + flagN s i) ≠ 48 := by
 cases h : (s.data.toList.drop i)[flagN s i]? with
 | none => rw [ch_none h]; decide
 | some x =>
   have := takeWhile_stop isFlag _ x h
   rw [ch_get h]
   unfold isFlag at this
   simp only [Bool.or_eq_false_iff, beq_eq_false_iff_ne] at this
   obtain ⟨⟨⟨⟨h1, h2⟩, h3⟩, h4⟩, h5⟩ := this
   refine ⟨fun e => h1 ?_, fun e => h2 ?_, fun e => h3 ?_, fun e => h4 ?_, fun e => h5 ?_⟩ <;> exact UInt8.toNat_inj.1 e
theorem flag_at {s : ByteArray} {i k : Nat} (h : k < flagN s i) : ∃ x : UInt8, (s.data.toList.drop i)[k]? = some x ∧ ch s (i + k) = x.toNat ∧ (x = 45 ∨ x = 43 ∨ x = 32 ∨ x = 35 ∨ x = 48) := by
 obtain ⟨x, h1, h2⟩ := takeWhile_at isFlag _ k h
 refine ⟨x, h1, ch_get h1, ?_⟩
 unfold isFlag at h2
 simp only [Bool.or_eq_true, beq_iff_eq] at h2
 rcases h2 with (((h | h) | h) | h) | h
 ·exact .inl h
 ·exact .inr (.inl h)
 ·exact .inr (.inr (.inl h))
 ·exact .inr (.inr (.inr (.inl h)))
 ·exact .inr (.inr (.inr (.inr h)))
/-- a piece's cells -/
def pieceA (m p b a z : Bool) (wd pr : Int) (vb : Int) (sw sp : Bool) (nx : Int) : Array Value := #[.bool m, .bool p, .bool b, .bool a, .bool z, .int .i64 wd, .int .i64 pr, .int .u8 vb, .bool sw, .bool sp, .int .i64 nx]
def PcAt (w : World) (r : Nat) (A : Array Value) : Prop := w.heap[r]? = some (.cells A 101 (0, 0))
theorem PcAt.lt {w : World} {r : Nat} {A : Array Value} (h : PcAt w r A) : r < w.heap.size := lt_of_heap h
theorem PcAt.cell {w : World} {r : Nat} {A : Array Value} (h : PcAt w r A) (i : Nat) : w.cell? ⟨r, i, none⟩ = A[i]? := by rw [Lib.cell_of_heap h]
theorem PcAt.frozen {w : World} {r : Nat} {A : Array Value} (h : PcAt w r A) (i : Nat) : w.frozen? ⟨r, i, none⟩ = false := Lib.frozen_of_heap h i
theorem PcAt.keep {w w' : World} {r : Nat} {A : Array Value} {S : List Nat} (h : PcAt w r A) (ha : Apart S w w') (hS : r ∉ S) : PcAt w' r A := (ha.block r h.lt hS).trans h
theorem PcAt.below {w w' : World} {r : Nat} {A : Array Value} (h : PcAt w r A) (hb : Below w.heap.size w w') : PcAt w' r A := (hb.block r h.lt).trans h
theorem PcAt.set {w : World} {r : Nat} {A : Array Value} (h : PcAt w r A) (i : Nat) (v : Value) : PcAt (w.setCell ⟨r, i, none⟩ v) r (A.setIfInBounds i v) := setCell_heap_same h i v
theorem PcAt.other {w : World} {r q : Nat} {A : Array Value} (h : PcAt w r A) (i : Nat) (v : Value) (hq : r ≠ q) : PcAt (w.setCell ⟨q, i, none⟩ v) r A := (Below.heap_setCell _ _ _ _ hq).trans h
theorem RdAt.other {w : World} {r q : Nat} {s : ByteArray} {j : Int} (h : RdAt w r s j) (i : Nat) (v : Value) (hq : r ≠ q) : RdAt (w.setCell ⟨q, i, none⟩ v) r s j := (Below.heap_setCell _ _ _ _ hq).trans h
end Go.Proofs.YtfdnhkjeoeffoaaGreatDoor
end

section
/- Package format: the reader: flags. -/
namespace Go.Proofs.YtfdnhkjeoeffoaaGreatDoor
open Go.RowKit
set_option linter.unusedVariables false
theorem ne45_43 : ((45 : UInt8) == 43) = false := by decide
theorem ne45_32 : ((45 : UInt8) == 32) = false := by decide
theorem ne45_35 : ((45 : UInt8) == 35) = false := by decide
theorem ne45_48 : ((45 : UInt8) == 48) = false := by decide
theorem ne43_45 : ((43 : UInt8) == 45) = false := by decide
theorem ne43_32 : ((43 : UInt8) == 32) = false := by decide
theorem ne43_35 : ((43 : UInt8) == 35) = false := by decide
theorem ne43_48 : ((43 : UInt8) == 48) = false := by decide
theorem ne32_45 : ((32 : UInt8) == 45) = false := by decide
theorem ne32_43 : ((32 : UInt8) == 43) = false := by decide
theorem ne32_35 : ((32 : UInt8) == 35) = false := by decide
theorem ne32_48 : ((32 : UInt8) == 48) = false := by decide
theorem ne35_45 : ((35 : UInt8) == 45) = false := by decide
theorem ne35_43 : ((35 : UInt8) == 43) = false := by decide
theorem ne35_32 : ((35 : UInt8) == 32) = false := by decide
theorem ne35_48 : ((35 : UInt8) == 48) = false := by decide
theorem ne48_45 : ((48 : UInt8) == 45) = false := by decide
theorem ne48_43 : ((48 : UInt8) == 43) = false := by decide
theorem ne48_32 : ((48 : UInt8) == 32) = false := by decide
theorem ne48_35 : ((48 : UInt8) == 35) = false := by decide
set_option maxHeartbeats 4000000 in
set_option maxRecDepth 100000 in
/-- flags: from a place on, into a piece without flags -/
theorem flags_any (s : ByteArray) (i r p : Nat) (wd pr : Int) (vb : Int) (sw sp : Bool) (nx : Int) (w : World) (hr : RdAt w r s i) (hp : PcAt w p (pieceA false false false false false wd pr vb sw sp nx)) (hrp : r ≠ p) (hi : i + s.size ≤ 1000000000000000) :
 Calls Tryz.prog 122 #[.pointer (some ⟨r, 0, none⟩), .pointer (some ⟨p, 0, none⟩)] w fun e w' => e = .returned (.tuple #[]) ∧
  RdAt w' r s ((i + flagN s i : Nat) : Int) ∧ PcAt w' p (pieceA (hasF 45 s i (flagN s i)) (hasF 43 s i (flagN s i)) (hasF 32 s i (flagN s i)) (hasF 35 s i (flagN s i)) (hasF 48 s i (flagN s i)) wd pr vb sw sp nx) ∧ Apart [r, p] w w' := by
 have hpr : p ≠ r := fun e => hrp e.symm
 have HR := Lib.hid hr
 have HP := Lib.hid hp
 have hfl : flagN s i ≤ s.size := by
  unfold flagN
  refine Nat.le_trans (List.takeWhile_sublist _).length_le ?_
  rw [List.length_drop, sz_list]
  omega
 obtain ⟨n, hn⟩ : ∃ n, n = flagN s i := ⟨_, rfl⟩
 rw [← hn] at hfl ⊢
 have HN := Lib.hid hn
 have HS := Lib.hid hi
 have hi2 : i + n ≤ 1000000000000000 := by omega
 clear hr hp hn hi hfl
 go_enter Tryz.func122, Tryz.ntmps122
 go_wp2_with fail
 go_loopw [] (fun wr => ∃ k : Nat, k ≤ n ∧ RdAt wr r s ((i + k : Nat) : Int) ∧ PcAt wr p (pieceA (hasF 45 s i k) (hasF 43 s i k) (hasF 32 s i k) (hasF 35 s i k) (hasF 48 s i k) wd pr vb sw sp nx) ∧ Apart [r, p] w wr)
  (fun wr => i + n - (match wr.cell? ⟨r, 1, none⟩ with | some v => (intOf v).toNat | none => 0))
 case atStart =>
  refine ⟨0, Nat.zero_le _, HR.out, ?_, Apart.refl _ _⟩
  rw [hasF_zero, hasF_zero, hasF_zero, hasF_zero, hasF_zero]
  exact HP.out
 case round =>
  obtain ⟨k, hk, hr, hp, ha⟩ := hrel
  have HR1 := Lib.hid hr
  have HP1 := Lib.hid hp
  have HA1 := Lib.hid ha
  clear hr hp ha
  have HX := Lib.hid (next_any s ((i + k : Nat) : Int) r wr HR1.out)
  rw [chr_nat] at HX
  rcases Nat.lt_or_ge k n with hlt | hge
  ·rw [HN.out] at hlt
   obtain ⟨x, hx, hcx, hx5⟩ := flag_at hlt
   rw [← HN.out] at hlt
   rw [hcx] at HX
   have HXX := Lib.hid hx
   clear hx hcx
   rcases hx5 with rfl | rfl | rfl | rfl | rfl
   all_goals
    go_wp2_with fail
    refine HX.out.mono ?_
    rintro e w1 ⟨rfl, hb⟩
    have HR2 := Lib.hid (HR1.out.below hb)
    have HP2 := Lib.hid (HP1.out.below hb)
    have HA2 := Lib.hid (HA1.out.trans (Apart.of_below hb []) (by simp))
    have c0 := HR2.out.c0
    have c1 := HR2.out.c1
    have f1 := HR2.out.f1
    have k0 : w1.cell? ⟨p, 0, none⟩ = some (.bool (hasF 45 s i k)) := HP2.out.cell 0
    have k1 : w1.cell? ⟨p, 1, none⟩ = some (.bool (hasF 43 s i k)) := HP2.out.cell 1
    have k2 : w1.cell? ⟨p, 2, none⟩ = some (.bool (hasF 32 s i k)) := HP2.out.cell 2
    have k3 : w1.cell? ⟨p, 3, none⟩ = some (.bool (hasF 35 s i k)) := HP2.out.cell 3
    have k4 : w1.cell? ⟨p, 4, none⟩ = some (.bool (hasF 48 s i k)) := HP2.out.cell 4
    have g0 := HP2.out.frozen 0
    have g1 := HP2.out.frozen 1
    have g2 := HP2.out.frozen 2
    have g3 := HP2.out.frozen 3
    have g4 := HP2.out.frozen 4
    have q1 : ∀ (j : Nat) (v : Value), (w1.setCell ⟨p, j, none⟩ v).cell? ⟨r, 1, none⟩ = some (.int .i64 ((i + k : Nat) : Int)) := fun j v => (HR2.out.other j v hrp).c1
    have q2 : ∀ (j : Nat) (v : Value), (w1.setCell ⟨p, j, none⟩ v).frozen? ⟨r, 1, none⟩ = false := fun j v => (HR2.out.other j v hrp).f1
    clear hb
    go_wp2_with fail
    refine ⟨⟨k + 1, hlt, ?_, ?_, ?_⟩, ?_⟩
    ·rw [show ((i + (k + 1) : Nat) : Int) = (i : Int) + k + 1 from by omega]
     exact (HR2.out.other _ _ hrp).step _
    ·simp (decide := true) only [hasF_step _ _ _ _ _ HXX.out, beq_self_eq_true, ne45_43, ne45_32, ne45_35, ne45_48, ne43_45, ne43_32, ne43_35, ne43_48, ne32_45, ne32_43, ne32_35, ne32_48, ne35_45, ne35_43, ne35_32, ne35_48, ne48_45, ne48_43, ne48_32, ne48_35, Bool.or_true, Bool.or_false]
     exact (HP2.out.set _ _).other _ _ hpr
    ·exact (HA2.out.setCell _ (by simp) _).setCell _ (by simp) _
    ·rw [((HR2.out.other _ _ hrp).step _).c1, HR1.out.c1]
     simp only [intOf]
     omega
  ·obtain rfl : k = n := by omega
   rw [HN.out] at HX
   obtain ⟨h1, h2, h3, h4, h5⟩ := flag_stop s i
   rw [← HN.out] at h1 h2 h3 h4 h5 HX
   generalize ch s (i + k) = c at *
   have b1 : ((c : Int) == 45) = false := by simp; omega
   have b2 : ((c : Int) == 43) = false := by simp; omega
   have b3 : ((c : Int) == 32) = false := by simp; omega
   have b4 : ((c : Int) == 35) = false := by simp; omega
   have b5 : ((c : Int) == 48) = false := by simp; omega
   clear h1 h2 h3 h4 h5
   go_wp2_with fail
   refine HX.out.mono ?_
   rintro e w1 ⟨rfl, hb⟩
   have HR2 := Lib.hid (HR1.out.below hb)
   have HP2 := Lib.hid (HP1.out.below hb)
   have HA2 := Lib.hid (HA1.out.trans (Apart.of_below hb []) (by simp))
   clear hb
   go_wp2_with fail
   exact bodyPost_ret (v := .tuple #[]) (by simp [results, Tryz.results122, go_sem]) rfl ⟨rfl, HR2.out, HP2.out, HA2.out⟩
end Go.Proofs.YtfdnhkjeoeffoaaGreatDoor
end

section
/- Numbers as lists of limbs: plain facts, no program in sight. -/
namespace Go.Proofs.YtfdnhkjeoeffoaaGreatDoor
set_option linter.unusedVariables false
/-- two to the 32 -/
abbrev B32 : Nat := 4294967296
def val : List Nat → Nat
 | [] => 0
 | x :: l => x + B32 * val l
theorem val_append : ∀ (xs ys : List Nat), val (xs ++ ys) = val xs + B32 ^ xs.length * val ys
 | [], ys => by simp [val]
 | x :: l, ys => by
   simp only [List.cons_append, val, val_append l ys, List.length_cons, Nat.pow_succ, Nat.mul_add]
   rw [Nat.mul_comm (B32 ^ l.length) B32, Nat.mul_assoc]; omega
theorem val_lt : ∀ (L : List Nat), (∀ x ∈ L, x < B32) → val L < B32 ^ L.length
 | [], _ => by simp [val]
 | x :: l, h => by
   have h1 := h x (by simp)
   have h2 := val_lt l (fun y hy => h y (by simp [hy]))
   simp only [val, List.length_cons, Nat.pow_succ]
   have h3 : B32 * (val l + 1) ≤ B32 * B32 ^ l.length := Nat.mul_le_mul_left _ h2
   rw [Nat.mul_comm (B32 ^ l.length)]
   rw [Nat.mul_add] at h3
   omega
theorem val_set : ∀ (L : List Nat) (i y : Nat) (h : i < L.length), val (L.set i y) + L[i] * B32 ^ i = val L + y * B32 ^ i
 | x :: l, 0, y, _ => by simp [val]; omega
 | x :: l, i + 1, y, h => by
   have ih := val_set l i y (by simpa using h)
   simp only [List.set_cons_succ, val, List.getElem_cons_succ, Nat.pow_succ]
   have e1 : l[i]'(by simpa using h) * (B32 ^ i * B32) = B32 * (l[i]'(by simpa using h) * B32 ^ i) := by
    rw [Nat.mul_comm (B32 ^ i) B32, ← Nat.mul_assoc, Nat.mul_comm _ B32, Nat.mul_assoc]
   have e2 : y * (B32 ^ i * B32) = B32 * (y * B32 ^ i) := by
    rw [Nat.mul_comm (B32 ^ i) B32, ← Nat.mul_assoc, Nat.mul_comm _ B32, Nat.mul_assoc]
   rw [e1, e2, Nat.add_assoc, ← Nat.mul_add, ih, Nat.mul_add, Nat.add_assoc]
theorem val_zeros : ∀ (n : Nat), val (List.replicate n 0) = 0
 | 0 => rfl
 | n + 1 => by simp [List.replicate_succ, val, val_zeros n]
/-- without noughts at the top -/
def trimL : List Nat → List Nat
 | [] => []
 | x :: l => if x = 0 ∧ trimL l = [] then [] else x :: trimL l
theorem trimL_snoc_zero : ∀ (l : List Nat), trimL (l ++ [0]) = trimL l
 | [] => by simp [trimL]
 | x :: l => by simp only [List.cons_append, trimL, trimL_snoc_zero l]
theorem trimL_snoc_pos (x : Nat) (hx : x ≠ 0) : ∀ (l : List Nat), trimL (l ++ [x]) = l ++ [x]
 | [] => by simp [trimL, hx]
 | y :: l => by simp [trimL, trimL_snoc_pos x hx l]
theorem trimL_prefix : ∀ (l : List Nat), trimL l = l.take (trimL l).length
 | [] => rfl
 | x :: l => by
   unfold trimL
   split
   ·simp
   ·simp [← trimL_prefix l]
theorem trimL_length_le (l : List Nat) : (trimL l).length ≤ l.length := by
 have := congrArg List.length (trimL_prefix l)
 simp at this; omega
/-- the limbs of a number, the lowest first -/
def limbs (n : Nat) : List Nat := if h : n = 0 then [] else n % B32 :: limbs (n / B32)
termination_by n
decreasing_by exact Nat.div_lt_self (Nat.pos_of_ne_zero h) (by decide)
theorem limbs_zero : limbs 0 = [] := by unfold limbs; simp
theorem limbs_pos {n : Nat} (h : n ≠ 0) : limbs n = n % B32 :: limbs (n / B32) := by
 conv => lhs; unfold limbs
 simp [h]
theorem limbs_lt (n : Nat) : ∀ x ∈ limbs n, x < B32 := by
 induction n using Nat.strongRecOn with
 | _ n ih =>
   by_cases h : n = 0
   ·subst h; simp [limbs_zero]
   ·rw [limbs_pos h]
    intro x hx
    rcases List.mem_cons.1 hx with rfl | hx
    ·exact Nat.mod_lt _ (by decide)
    ·exact ih _ (Nat.div_lt_self (Nat.pos_of_ne_zero h) (by decide)) x hx
theorem val_limbs (n : Nat) : val (limbs n) = n := by
 induction n using Nat.strongRecOn with
 | _ n ih =>
   by_cases h : n = 0
   ·subst h; simp [limbs_zero, val]
   ·rw [limbs_pos h, val, ih _ (Nat.div_lt_self (Nat.pos_of_ne_zero h) (by decide))]
    exact Nat.mod_add_div n B32
theorem trimL_limbs : ∀ (l : List Nat), (∀ x ∈ l, x < B32) → trimL l = limbs (val l)
 | [], _ => by simp [trimL, val, limbs_zero]
 | x :: l, h => by
   have h1 := h x (by simp)
   have ih := trimL_limbs l (fun y hy => h y (by simp [hy]))
   have e1 : (x + B32 * val l) % B32 = x := by rw [Nat.add_mul_mod_self_left, Nat.mod_eq_of_lt h1]
   have e2 : (x + B32 * val l) / B32 = val l := by
    rw [Nat.add_mul_div_left _ _ (by decide), Nat.div_eq_of_lt h1]; omega
   by_cases hz : x + B32 * val l = 0
   ·have hx : x = 0 := by omega
    have hv : val l = 0 := by have : B32 * val l = 0 := by omega
                              rcases Nat.mul_eq_zero.1 this with h | h; exact absurd h (by decide); exact h
    rw [hv, limbs_zero] at ih
    simp only [trimL, hx, ih, val, hv]
    simp [limbs_zero]
   ·rw [val, limbs_pos hz, e1, e2]
    unfold trimL
    rw [if_neg, ih]
    intro hh
    rw [ih] at hh
    have : val (limbs (val l)) = 0 := by rw [hh.2]; rfl
    rw [val_limbs] at this
    rw [hh.1, this] at hz
    simp at hz
theorem limbs_length_le {n k : Nat} (h : n < B32 ^ k) : (limbs n).length ≤ k := by
 induction k generalizing n with
 | zero => have : n = 0 := by simpa using h
           subst this; simp [limbs_zero]
 | succ k ih =>
   by_cases hz : n = 0
   ·subst hz; simp [limbs_zero]
   ·rw [limbs_pos hz]
    have : n / B32 < B32 ^ k := by
     rw [Nat.div_lt_iff_lt_mul (by decide)]; rw [Nat.pow_succ] at h; exact h
    have := ih this
    simp; omega
theorem lt_of_limbs_length {n k : Nat} (h : (limbs n).length ≤ k) : n < B32 ^ k := by
 have := val_lt (limbs n) (limbs_lt n)
 rw [val_limbs] at this
 exact Nat.lt_of_lt_of_le this (Nat.pow_le_pow_right (by decide) h)
theorem limbs_last {n : Nat} (h : limbs n ≠ []) : (limbs n).getLast h ≠ 0 := by
 induction n using Nat.strongRecOn with
 | _ n ih =>
   have hz : n ≠ 0 := fun e => h (by rw [e, limbs_zero])
   by_cases hq : n / B32 = 0
   ·have e : limbs n = [n % B32] := by rw [limbs_pos hz, hq, limbs_zero]
    have hm : n % B32 = n := Nat.mod_eq_of_lt (by
     rcases Nat.lt_or_ge n B32 with h | h
     ·exact h
     ·exact absurd hq (Nat.ne_of_gt (Nat.div_pos h (by decide))))
    simp only [e, List.getLast_singleton, hm]; exact hz
   ·have hne : limbs (n / B32) ≠ [] := by rw [limbs_pos hq]; simp
    have e : limbs n = n % B32 :: limbs (n / B32) := limbs_pos hz
    simp only [e, List.getLast_cons hne]
    exact ih _ (Nat.div_lt_self (Nat.pos_of_ne_zero hz) (by decide)) hne
theorem limbs_eq_nil {n : Nat} : limbs n = [] ↔ n = 0 := by
 constructor
 ·intro h; have := val_limbs n; rw [h] at this; exact this.symm
 ·intro h; rw [h, limbs_zero]
theorem limbs_len_lt {x y : Nat} (h : (limbs x).length < (limbs y).length) : x < y := by
 rcases Nat.lt_or_ge x y with h1 | h1
 ·exact h1
 ·have h2 : x < B32 ^ (limbs x).length := lt_of_limbs_length (Nat.le_refl _)
  have h3 := limbs_length_le (Nat.lt_of_le_of_lt h1 h2)
  omega
/-- the first limb from the top that parts two lists decides -/
theorem val_lt_of_top {X Y : List Nat} (hX : ∀ x ∈ X, x < B32) (k : Nat) (h1 : k < X.length) (h2 : k < Y.length) (hd : X.drop (k + 1) = Y.drop (k + 1)) (hlt : X[k] < Y[k]) : val X < val Y := by
 have eX : X = X.take k ++ X[k] :: X.drop (k + 1) := by rw [← List.drop_eq_getElem_cons h1, List.take_append_drop]
 have eY : Y = Y.take k ++ Y[k] :: Y.drop (k + 1) := by rw [← List.drop_eq_getElem_cons h2, List.take_append_drop]
 have vX := congrArg val eX
 have vY := congrArg val eY
 rw [val_append] at vX vY
 simp only [val, List.length_take, Nat.min_eq_left (Nat.le_of_lt h1), Nat.min_eq_left (Nat.le_of_lt h2)] at vX vY
 have hb := val_lt (X.take k) (fun x hx => hX x (List.mem_of_mem_take hx))
 simp only [List.length_take, Nat.min_eq_left (Nat.le_of_lt h1)] at hb
 rw [hd] at vX
 have hm : B32 ^ k * (X[k] + 1) ≤ B32 ^ k * Y[k] := Nat.mul_le_mul_left _ hlt
 rw [vX, vY, Nat.mul_add, Nat.mul_add]
 rw [Nat.mul_add] at hm
 omega
theorem p2_le {a b : Nat} (h : a ≤ b) : (2 : Nat) ^ a ≤ 2 ^ b := Nat.pow_le_pow_right (by decide) h
theorem p10_le {a b : Nat} (h : a ≤ b) : (10 : Nat) ^ a ≤ 10 ^ b := Nat.pow_le_pow_right (by decide) h
theorem two_ten (k : Nat) : (2 : Nat) ^ k ≤ 10 ^ k := Nat.pow_le_pow_left (by decide) k
theorem b32_pow (k : Nat) : B32 ^ k = 2 ^ (32 * k) := by rw [show B32 = 2 ^ 32 by decide, ← Nat.pow_mul]
theorem thousand {i : Nat} (h : 0 < i) : (10 : Nat) ^ (3 * i) < 2 ^ (10 * i) := by
 rw [Nat.pow_mul, Nat.pow_mul]; exact Nat.pow_lt_pow_left (by decide) (by omega)
theorem tens {i : Nat} (h : 0 < i) : (10 : Nat) ^ (31 * i) < 2 ^ (103 * i) := by
 rw [Nat.pow_mul, Nat.pow_mul]; exact Nat.pow_lt_pow_left (by decide) (by omega)
end Go.Proofs.YtfdnhkjeoeffoaaGreatDoor
end

section
/- Package nat: lists of limbs in memory; trim, Clip, told, Valid. -/
namespace Go.Proofs.YtfdnhkjeoeffoaaGreatDoor
open Go.RowKit
set_option linter.unusedVariables false
/-- the slice a, cap holds these words -/
structure Lies (w : World) (a : Option Addr) (cap : Nat) (L : List Nat) : Prop where
 lt : ∀ x ∈ L, x < 4294967296
 le : L.length ≤ cap
 max : cap ≤ 9223372036854775807
 spot : ∀ x, a = some x → x.spot = none
 at_ : ∀ i (h : i < L.length), ∃ b off, a = some ⟨b, off, none⟩ ∧ w.cell? ⟨b, off + i, none⟩ = some (.int .u32 (L[i] : Nat))
theorem Lies.below {w w' : World} {a : Option Addr} {cap : Nat} {L : List Nat} (h : Lies w a cap L) (hb : Below w.heap.size w w') : Lies w' a cap L :=
 ⟨h.lt, h.le, h.max, h.spot, fun i hi => by
  obtain ⟨b, off, rfl, hc⟩ := h.at_ i hi
  exact ⟨b, off, rfl, (hb.cell (World.block_lt_of_cell? w _ hc)).trans hc⟩⟩
theorem Lies.take {w : World} {a : Option Addr} {cap : Nat} {L : List Nat} (h : Lies w a cap L) (k : Nat) : Lies w a cap (L.take k) :=
 ⟨fun x hx => h.lt x (List.mem_of_mem_take hx), by have := h.le; simp; omega, h.max, h.spot, fun i hi => by
  simp at hi
  obtain ⟨b, off, rfl, hc⟩ := h.at_ i (by omega)
  exact ⟨b, off, rfl, by rw [hc]; simp⟩⟩
theorem Lies.nil (w : World) (a : Option Addr) (cap : Nat) (h : cap ≤ 9223372036854775807) (hs : ∀ x, a = some x → x.spot = none) : Lies w a cap [] :=
 ⟨by simp, by simp, h, hs, by simp⟩
theorem Lies.clip {w : World} {a : Option Addr} {cap : Nat} {L : List Nat} (h : Lies w a cap L) : Lies w a L.length L :=
 ⟨h.lt, Nat.le_refl _, Nat.le_trans h.le h.max, h.spot, h.at_⟩
/-- a slice's length -/
def lenV : Value → Nat | .slice _ k _ => k | _ => 0
set_option maxHeartbeats 1000000 in
theorem trim_any (a : Option Addr) (cap : Nat) (L : List Nat) (w : World) (h : Lies w a cap L) :
 Calls Tryz.prog 176 #[.slice a L.length cap] w fun e w' => e = .returned (.slice a (trimL L).length cap) ∧ w = w' := by
 have hle := h.le
 have hmx := h.max
 have H := Lib.hid h
 clear h
 go_enter Tryz.func176, Tryz.ntmps176
 go_wp2
 go_loop [0] (fun v => ∃ k : Nat, k ≤ L.length ∧ v = .slice a k cap ∧ trimL (L.take k) = trimL L) lenV
 case atStart => exact ⟨L.length, Nat.le_refl _, rfl, by rw [List.take_length]⟩
 case round =>
  obtain ⟨k, hk, rfl, ht⟩ := hrel
  have HT := Lib.hid ht
  clear ht
  cases k with
  | zero =>
    go_wp2
    go_ret
    have e : (trimL L).length = 0 := by rw [← HT.out]; rfl
    exact ⟨by rw [e]; rfl, rfl⟩
  | succ k =>
    obtain ⟨b, off, rfl, hc⟩ := H.out.at_ k (by omega)
    have hsn : L.take (k + 1) = L.take k ++ [L[k]'(by omega)] := List.take_succ_eq_append_getElem (by omega)
    by_cases hz : L[k]'(by omega) = 0
    ·rw [hz] at hc hsn
     have HT' : Hid (trimL (L.take k) = trimL L) := by rw [← HT.out, hsn]; exact (trimL_snoc_zero _).symm
     clear hsn hz HT
     have hc' : w.cell? ⟨b, off + k, none⟩ = some (.int .u32 0) := by simpa using hc
     clear hc
     go_wp2
     go_round
     case rel => exact ⟨k, by omega, rfl, HT'.out⟩
     case measure => simp [lenV]
    ·have e : Hid ((trimL L).length = k + 1) := by
      show (trimL L).length = k + 1
      rw [← HT.out, hsn, trimL_snoc_pos _ hz]; rw [← hsn, List.length_take]; exact Nat.min_eq_left hk
     generalize L[k]'(by omega) = x at *
     have hx : ((x : Int) == 0) = false := by simp; omega
     clear hsn hz HT
     go_wp2
     go_ret
     exact ⟨by rw [e.out]; rfl, rfl⟩
theorem clip_any (a : Option Addr) (len cap : Nat) (w : World) (h : len ≤ cap) :
 Calls Tryz.prog 243 #[.slice a len cap] w fun e w' => e = .returned (.slice a len len) ∧ w = w' := by
 go_enter Tryz.func243, Tryz.ntmps243
 go_wp2
 go_ret
 exact ⟨rfl, rfl⟩
theorem told_any (a : Option Addr) (cap : Nat) (L : List Nat) (w : World) (h : Lies w a cap L) (hl : (trimL L).length ≤ 256) :
 Calls Tryz.prog 231 #[.slice a L.length cap] w fun e w' => e = .returned (.tuple #[.slice a (trimL L).length (trimL L).length, .int .i64 0]) ∧ w = w' := by
 have H := Lib.hid h
 have h1 := trimL_length_le L
 have h2 := h.le
 clear h
 go_enter Tryz.func231, Tryz.ntmps231
 go_wp2_with fail
 refine (trim_any a cap L _ H.out).mono ?_
 rintro e w1 ⟨rfl, rfl⟩
 go_wp2_with fail
 refine (clip_any a _ cap _ (by omega)).mono ?_
 rintro e w1 ⟨rfl, rfl⟩
 go_wp2_with fail
 go_ret2
 exact ⟨rfl, rfl⟩
set_option maxRecDepth 100000 in
theorem valid_any (a : Option Addr) (cap : Nat) (n : Nat) (w : World) (h : Lies w a cap (limbs n)) (hl : (limbs n).length ≤ 256) :
 Calls Tryz.prog 174 #[.slice a (limbs n).length cap] w fun e w' => e = .returned (.bool true) ∧ w = w' := by
 by_cases hn : n = 0
 ·have e : (limbs n).length = 0 := by rw [hn, limbs_zero]; rfl
  rw [e]
  clear e h hl hn
  go_enter Tryz.func174, Tryz.ntmps174
  go_wp2
  go_ret
  exact ⟨rfl, rfl⟩
 ·have hne : limbs n ≠ [] := fun e => hn (limbs_eq_nil.1 e)
  have hlast := limbs_last hne
  have hpos : 0 < (limbs n).length := List.length_pos_iff.2 hne
  obtain ⟨b, off, rfl, hc⟩ := h.at_ ((limbs n).length - 1) (by omega)
  rw [← List.getLast_eq_getElem hne] at hc
  generalize (limbs n).getLast hne = x at *
  generalize (limbs n).length = k at *
  have hx : ((x : Int) != 0) = true := by simp; omega
  have hk : ((k : Int) == 0) = false := by simp; omega
  obtain ⟨j, rfl⟩ : ∃ j, k = j + 1 := ⟨k - 1, by omega⟩
  have hc' : w.cell? ⟨b, off + j, none⟩ = some (.int .u32 x) := by simpa using hc
  clear hc h hlast
  go_enter Tryz.func174, Tryz.ntmps174
  go_wp2
  go_ret
  exact ⟨rfl, rfl⟩
end Go.Proofs.YtfdnhkjeoeffoaaGreatDoor
end

section
/- Package nat: From, Cmp. -/
namespace Go.Proofs.YtfdnhkjeoeffoaaGreatDoor
open Go.RowKit
set_option linter.unusedVariables false
theorem From_any (n : Nat) (hn : n < 18446744073709551616) (w : World) :
 Calls Tryz.prog 180 #[.int .u64 n] w fun e w' => ∃ a cap, e = .returned (.slice a (limbs n).length cap) ∧ Lies w' a cap (limbs n) ∧ Below w.heap.size w w' := by
 go_enter Tryz.func180, Tryz.ntmps180
 go_wp2_with fail
 have h1 : ((n : Int) % 4294967296) = ((n % 4294967296 : Nat) : Int) := by omega
 have h2 : ((n : Int) / 4294967296) = ((n / 4294967296 : Nat) : Int) := by omega
 rw [h1, h2]
 have hl : Lies (w.alloc (.cells #[.int .u32 (n % 4294967296 : Nat), .int .u32 (n / 4294967296 : Nat)] 227)) (some ⟨w.heap.size, 0, none⟩) 2 [n % 4294967296, n / 4294967296] :=
  ⟨by simp; omega, by simp, by omega, by simp, fun i hi => ⟨w.heap.size, 0, rfl, by
   match i, hi with
   | 0, _ => simp [go_sem]
   | 1, _ => simp [go_sem]⟩⟩
 have hv : trimL [n % 4294967296, n / 4294967296] = limbs n := by
  rw [trimL_limbs _ hl.lt]
  congr 1
  simp only [val, B32]; omega
 have ht := trim_any _ _ _ _ hl
 simp only [List.length_cons, List.length_nil] at ht
 rw [hv] at ht
 refine ht.mono ?_
 rintro e w1 ⟨rfl, rfl⟩
 have hl2 := hl.take (limbs n).length
 rw [← hv, ← trimL_prefix, hv] at hl2
 clear ht hv h1 h2
 have HL := Lib.hid hl2
 clear hl2 hl
 go_wp2_with fail
 go_ret
 exact ⟨_, _, rfl, HL.out, (Below.refl _ _).alloc (Nat.le_refl _) _⟩
/-- the order of two numbers -/
def cmpN (x y : Nat) : Int := if x < y then -1 else if x = y then 0 else 1
set_option maxHeartbeats 1000000 in
theorem Cmp_any (a : Option Addr) (ca : Nat) (x : Nat) (b : Option Addr) (cb : Nat) (y : Nat) (w : World) (ha : Lies w a ca (limbs x)) (hb : Lies w b cb (limbs y)) :
 Calls Tryz.prog 232 #[.slice a (limbs x).length ca, .slice b (limbs y).length cb] w fun e w' => e = .returned (.int .i64 (cmpN x y)) ∧ Below w.heap.size w w' := by
 have h1 := ha.le; have h2 := ha.max; have h3 := hb.le; have h4 := hb.max
 have HA := Lib.hid ha; have HB := Lib.hid hb
 clear ha hb
 by_cases hl : (limbs x).length = (limbs y).length
 ·have hne : (((limbs x).length : Int) != ((limbs y).length : Int)) = false := by simp [hl]
  have HL := Lib.hid hl
  have HX := Lib.hid (limbs_lt x); have HY := Lib.hid (limbs_lt y)
  have e1 : Hid (val (limbs x) = x) := val_limbs x
  have e2 : Hid (val (limbs y) = y) := val_limbs y
  clear hl
  generalize hLX : limbs x = X at *
  generalize hLY : limbs y = Y at *
  have HLX := Lib.hid hLX; have HLY := Lib.hid hLY
  clear hLX hLY
  go_enter Tryz.func232, Tryz.ntmps232
  go_wp2_with fail
  go_loopw [5] (fun i wr => ∃ k : Nat, k ≤ X.length ∧ i = .int .i64 ((k : Int) - 1) ∧ X.drop k = Y.drop k ∧ Below w.heap.size w wr) (fun i _ => (intOf i + 1).toNat)
  case atStart => exact ⟨X.length, Nat.le_refl _, rfl, by rw [List.drop_length, HL.out, List.drop_length], Below.refl _ _⟩
  case round =>
   obtain ⟨k, hk, rfl, hd, hbw⟩ := hrel
   have HD := Lib.hid hd
   have BW := Lib.hid hbw
   clear hd hbw
   cases k with
   | zero =>
     go_wp2_with fail
     go_ret
     have e : X = Y := by simpa using HD.out
     have e' : x = y := by rw [← e1.out, ← e2.out, e]
     exact ⟨by rw [show cmpN x y = 0 by simp [cmpN, e']]; rfl, BW.out⟩
   | succ k =>
     have hkY : k < Y.length := by have := HL.out; omega
     obtain ⟨ba, oa, rfl, hca⟩ := HA.out.at_ k (by omega)
     obtain ⟨bb, ob, rfl, hcb⟩ := HB.out.at_ k hkY
     have hca' := (BW.out.cell (World.block_lt_of_cell? w _ hca)).trans hca
     have hcb' := (BW.out.cell (World.block_lt_of_cell? w _ hcb)).trans hcb
     clear hca hcb
     have i0 : (0 : Int) ≤ (k : Int) := Int.natCast_nonneg _
     have i1 : (k : Int) < (X.length : Int) := by omega
     have i2 : (k : Int) < (Y.length : Int) := by omega
     by_cases hq : X[k] = Y[k]
     ·have HD' : Hid (X.drop k = Y.drop k) := by
       show X.drop k = Y.drop k
       rw [List.drop_eq_getElem_cons (show k < X.length by omega), List.drop_eq_getElem_cons hkY, hq, HD.out]
      have hb1 : ((X[k] : Int) != (Y[k] : Int)) = false := by simp [hq]
      clear hq HD
      generalize X[k] = xk at *
      generalize Y[k] = yk at *
      go_wp2_with fail
      go_quiet (fail)
      go_wp2_with fail
      go_roundw
      case rel => exact ⟨k, by omega, rfl, HD'.out, BW.out.drewN _⟩
      case measure => simp [intOf]
     ·have hb1 : ((X[k] : Int) != (Y[k] : Int)) = true := by simp; omega
      by_cases hlt : X[k] < Y[k]
      ·have hb2 : ((X[k] : Int) < (Y[k] : Int)) := by omega
       have hr : Hid (cmpN x y = -1) := by
        show cmpN x y = -1
        have := val_lt_of_top HX.out k (by omega) hkY HD.out hlt
        rw [e1.out, e2.out] at this
        simp [cmpN, this]
       clear hq HD hlt
       generalize X[k] = xk at *
       generalize Y[k] = yk at *
       go_wp2_with fail
       go_quiet (fail)
       go_wp2_with fail
       go_quiet (fail)
       go_wp2_with fail
       go_ret
       exact ⟨by rw [hr.out]; rfl, (BW.out.drewN _).drewN _⟩
      ·have hb2 : ¬ ((X[k] : Int) < (Y[k] : Int)) := by omega
       have hb3 : decide ((X[k] : Int) < (Y[k] : Int)) = false := by simp; omega
       have hr : Hid (cmpN x y = 1) := by
        show cmpN x y = 1
        have := val_lt_of_top HY.out k hkY (by omega) HD.out.symm (by omega)
        rw [e1.out, e2.out] at this
        simp only [cmpN]
        rw [if_neg (by omega), if_neg (by omega)]
       clear hq HD hlt
       generalize X[k] = xk at *
       generalize Y[k] = yk at *
       go_wp2_with fail
       go_quiet (fail)
       go_wp2_with fail
       go_quiet (fail)
       go_wp2_with fail
       go_ret
       exact ⟨by rw [hr.out]; rfl, (BW.out.drewN _).drewN _⟩
 ·have hne : (((limbs x).length : Int) != ((limbs y).length : Int)) = true := by simp; omega
  by_cases hlt : (limbs x).length < (limbs y).length
  ·have hr : Hid (cmpN x y = -1) := by
    show cmpN x y = -1
    simp [cmpN, limbs_len_lt hlt]
   clear hl
   generalize (limbs x).length = lx at *
   generalize (limbs y).length = ly at *
   clear HA HB
   go_enter Tryz.func232, Tryz.ntmps232
   go_wp2_with fail
   go_ret
   exact ⟨by rw [hr.out]; rfl, Below.refl _ _⟩
  ·have hr : Hid (cmpN x y = 1) := by
    show cmpN x y = 1
    have := limbs_len_lt (x := y) (y := x) (by omega)
    simp only [cmpN]
    rw [if_neg (by omega), if_neg (by omega)]
   clear hl
   generalize (limbs x).length = lx at *
   generalize (limbs y).length = ly at *
   clear HA HB
   go_enter Tryz.func232, Tryz.ntmps232
   go_wp2_with fail
   go_ret
   exact ⟨by rw [hr.out]; rfl, Below.refl _ _⟩
end Go.Proofs.YtfdnhkjeoeffoaaGreatDoor
end

section
/- Rows of words that a call has made itself: made, appended to, written. -/
namespace Go.Proofs.YtfdnhkjeoeffoaaGreatDoor
open Go.RowKit
set_option linter.unusedVariables false
/-- words as cells -/
def cellsU (L : List Nat) : List Value := L.map fun n : Nat => Value.int .u32 (n : Int)
/-- v is a row of the call's own (from block base on) that holds these words -/
structure OwnU (w : World) (base : Nat) (v : Value) (L : List Nat) : Prop where
 lt : ∀ x ∈ L, x < B32
 own : w.ownsRow base 227 1 v L.length (cellsU L)
theorem infoU : (Tryz.prog.info? 227).map (fun i => (i.zero, i.size, i.bytes)) = some (some (.int .u32 0), 1, 4) := by kernel_rfl
theorem undU : Tryz.prog.underlying 161 = some (.slice 227) := by kernel_rfl
theorem cellsU_length (L : List Nat) : (cellsU L).length = L.length := by simp [cellsU]
theorem OwnU.nil (w : World) (base : Nat) : OwnU w base (.slice none 0 0) [] := ⟨by simp, World.ownsRow_nil w base _ _⟩
/-- where it lies -/
theorem OwnU.at_ {w : World} {base : Nat} {v : Value} {L : List Nat} (h : OwnU w base v L) :
 (v = .slice none 0 0 ∧ L = []) ∨ ∃ g cap cur, v = .slice (some ⟨g, 0, none⟩) L.length cap ∧ base ≤ g ∧ w.heap[g]? = some (.cells cur 227 (0, 0)) ∧ L.length ≤ cap ∧ cap ≤ 9223372036854775807 ∧ cur.size = cap ∧ cur.toList.take L.length = cellsU L := by
 obtain ⟨h1, h2⟩ := h
 obtain ⟨h3, h4⟩ := h2
 rcases h4 with ⟨rfl, hn⟩ | ⟨g, cap, cur, rfl, hb, hg, hl, hm, hs, ht⟩
 ·exact .inl ⟨rfl, List.eq_nil_of_length_eq_zero hn⟩
 ·exact .inr ⟨g, cap, cur, rfl, hb, hg, hl, by simpa [maxLen] using hm, by simpa using hs, by simpa using ht⟩
theorem cur_get {cur : Array Value} {L : List Nat} (ht : cur.toList.take L.length = cellsU L) (i : Nat) (h : i < L.length) : cur[i]? = some (.int .u32 (L[i] : Nat)) := by
 have e : (cur.toList.take L.length)[i]? = (cellsU L)[i]? := by rw [ht]
 rw [List.getElem?_take_of_lt h] at e
 simpa [cellsU, h] using e
theorem lies_of_row {w : World} {g cap : Nat} {cur : Array Value} {L : List Nat} (hlt : ∀ x ∈ L, x < B32) (hg : w.heap[g]? = some (.cells cur 227 (0, 0))) (hl : L.length ≤ cap) (hm : cap ≤ 9223372036854775807)
 (ht : cur.toList.take L.length = cellsU L) : Lies w (some ⟨g, 0, none⟩) cap L :=
 ⟨hlt, hl, hm, by simp, fun i hi => ⟨g, 0, rfl, by simp [World.cell?, hg, cur_get ht i hi]⟩⟩
theorem OwnU.lies {w : World} {base : Nat} {v : Value} {L : List Nat} (h : OwnU w base v L) : ∃ a cap, v = .slice a L.length cap ∧ Lies w a cap L := by
 rcases h.at_ with ⟨rfl, rfl⟩ | ⟨g, cap, cur, rfl, hb, hg, hl, hm, hs, ht⟩
 ·exact ⟨none, 0, rfl, Lies.nil _ _ _ (by omega) (by simp)⟩
 ·exact ⟨_, cap, rfl, lies_of_row h.lt hg hl hm ht⟩
/-- a row that is not nil, as a block -/
structure RowU (w : World) (g cap : Nat) (L : List Nat) : Prop where
 lt : ∀ x ∈ L, x < B32
 le : L.length ≤ cap
 max : cap ≤ 9223372036854775807
 row : ∃ cur, w.heap[g]? = some (.cells cur 227 (0, 0)) ∧ cur.size = cap ∧ cur.toList.take L.length = cellsU L
theorem RowU.lies {w : World} {g cap : Nat} {L : List Nat} (h : RowU w g cap L) : Lies w (some ⟨g, 0, none⟩) cap L := by
 obtain ⟨cur, hg, hs, ht⟩ := h.row
 exact lies_of_row h.lt hg h.le h.max ht
theorem RowU.ltg {w : World} {g cap : Nat} {L : List Nat} (h : RowU w g cap L) : g < w.heap.size := by
 obtain ⟨cur, hg, hs, ht⟩ := h.row
 exact lt_of_heap hg
theorem RowU.cell {w : World} {g cap : Nat} {L : List Nat} (h : RowU w g cap L) (i : Nat) (hi : i < L.length) : w.cell? ⟨g, i, none⟩ = some (.int .u32 (L[i] : Nat)) := by
 obtain ⟨b, off, e, hc⟩ := h.lies.at_ i hi
 cases e
 simpa using hc
theorem RowU.frozen {w : World} {g cap : Nat} {L : List Nat} (h : RowU w g cap L) (i : Nat) : w.frozen? ⟨g, i, none⟩ = false := by
 obtain ⟨cur, hg, hs, ht⟩ := h.row
 simp [World.frozen?, hg]
theorem RowU.keep {w w' : World} {g cap : Nat} {L : List Nat} (h : RowU w g cap L) (hk : w'.heap[g]? = w.heap[g]?) : RowU w' g cap L := by
 obtain ⟨cur, hg, hs, ht⟩ := h.row
 exact ⟨h.lt, h.le, h.max, cur, hk.trans hg, hs, ht⟩
theorem RowU.below {w w' : World} {g cap B : Nat} {L : List Nat} (h : RowU w g cap L) (hb : Below B w w') (hB : g < B) : RowU w' g cap L := h.keep (hb.block g hB)
theorem RowU.own {w : World} {g cap base : Nat} {L : List Nat} (h : RowU w g cap L) (hb : base ≤ g) : OwnU w base (.slice (some ⟨g, 0, none⟩) L.length cap) L := by
 obtain ⟨cur, hg, hs, ht⟩ := h.row
 exact ⟨h.lt, by simp [cellsU_length], .inr ⟨g, cap, cur, rfl, hb, hg, h.le, by simpa [maxLen] using h.max, by simpa using hs, by simpa using ht⟩⟩
theorem RowU.take {w : World} {g cap : Nat} {L : List Nat} (h : RowU w g cap L) (k : Nat) : RowU w g cap (L.take k) := by
 obtain ⟨cur, hg, hs, ht⟩ := h.row
 refine ⟨fun x hx => h.lt x (List.mem_of_mem_take hx), by have := h.le; simp; omega, h.max, cur, hg, hs, ?_⟩
 rw [cellsU, List.map_take, ← cellsU, ← ht, List.take_take, List.length_take]
theorem RowU.set {w : World} {g cap : Nat} {L : List Nat} (h : RowU w g cap L) (i y : Nat) (hi : i < L.length) (hy : y < B32) : RowU (w.setCell ⟨g, i, none⟩ (.int .u32 (y : Nat))) g cap (L.set i y) := by
 obtain ⟨cur, hg, hs, ht⟩ := h.row
 refine ⟨fun x hx => ?_, by simpa using h.le, h.max, _, setCell_heap_same hg i _, by simpa using hs, ?_⟩
 ·rcases List.mem_or_eq_of_mem_set hx with hx | rfl
  ·exact h.lt x hx
  ·exact hy
 ·rw [Array.toList_setIfInBounds, List.length_set, List.take_set, ht]
  simp [cellsU, List.map_set]
section
variable (w : World) {ops : Array Oper} {rest : List Oper} {o : Oper} {a : Act} {Q : Exit → Act → World → Prop}
/-- append of one word -/
theorem wpList_app1 (hg : o.guard = none) (s x : Operand) (ho : o.op = .call { callee := .builtin .append, args := #[s, x], argTypes := #[161, 161] })
 (base : Nat) (v : Value) (L : List Nat) (hs : a.eval s = v) (hown : OwnU w base v L) (p y : Nat) (hx : a.eval x = .slice (some ⟨p, 0, none⟩) 1 1) (hc : w.cell? ⟨p, 0, none⟩ = some (.int .u32 (y : Nat))) (hy : y < B32)
 (hbase : base ≤ w.heap.size) (hlen : L.length ≤ 1000000000)
 (hK : ∀ v' w', OwnU w' base v' (L ++ [y]) → w.grownBy w' v.ownBlock → wpList Tryz.prog ops Q rest (a.put o.dst v') w') : wpList Tryz.prog ops Q (o :: rest) a w := by
 obtain ⟨i0, hi, hz0, hz1, hz2⟩ := info_parts infoU
 refine wpList_append_own w hg s x 161 ho base 227 i0 (.int .u32 0) 1 4 undU hi hz0 hz1 hz2 rfl (by decide) v L.length (cellsU L) hs hown.own ⟨p, 0, none⟩ 1 1 [.int .u32 (y : Nat)] hx rfl ?_ ?_ ?_ ?_ hbase ?_
 ·intro j u hj
  cases j with
  | zero => simp at hj; subst hj; simpa [Addr.add] using hc
  | succ j => simp at hj
 ·simp [Value.oneCell']
 ·simp [maxLen]; omega
 ·omega
 ·intro v' w' ho hgr _
  refine hK v' w' ⟨?_, ?_⟩ hgr
  ·intro z hz
   rcases List.mem_append.1 hz with hz | hz
   ·exact hown.lt z hz
   ·simp at hz; subst hz; exact hy
  ·have e : cellsU (L ++ [y]) = cellsU L ++ [.int .u32 (y : Nat)] := by simp [cellsU]
   rw [e]; simpa using ho
/-- make with room, without elements -/
theorem wpList_make0 (hg : o.guard = none) (l c : Operand) (ho : o.op = .makeSlice 161 l c) (base cap : Nat) (ci : Int) (hl : a.eval l = .int .i64 0) (hc : a.eval c = .int .i64 ci) (hci : ci = (cap : Int)) (hcap : cap ≤ 1000000000) (hbase : base ≤ w.heap.size)
 (hK : ∀ v' w', OwnU w' base v' [] → w.grownBy w' none → wpList Tryz.prog ops Q rest (a.put o.dst v') w') : wpList Tryz.prog ops Q (o :: rest) a w := by
 subst hci
 obtain ⟨i0, hi, hz0, hz1, hz2⟩ := info_parts infoU
 obtain ⟨w', hr, hw, hgr⟩ := run_make_own (P := Tryz.prog) w base 161 227 i0 (.int .u32 0) 1 undU hi hz0 hz1 .i64 .i64 cap (by rw [hz2]; omega) (by simp [maxLen]; omega) hbase
 refine wpList_plain hg fun K' hK' => ?_
 unfold Oper.wp
 simp [execOp, ho, hl, hc, hr, Result.andThen]
 exact hK' _ _ (hK _ w' ⟨by simp, hw⟩ hgr)
theorem madeCells_toList (n : Nat) : (madeCells (Value.int .u32 0).cells n).toList = cellsU (List.replicate n 0) := by
 apply List.ext_getElem
 ·simp [size_madeCells, cellsU]
 ·intro i h1 h2
  simp [madeCells, cellsU, Value.cells, Nat.mod_one]
/-- make of so many noughts -/
theorem wpList_make1 (hg : o.guard = none) (l c : Operand) (ho : o.op = .makeSlice 161 l c) (len cap : Nat) (li ci : Int) (hl : a.eval l = .int .i64 li) (hc : a.eval c = .int .i64 ci) (hli : li = (len : Int)) (hci : ci = (cap : Int)) (hlc : len ≤ cap) (hcap : cap ≤ 1000000000)
 (hK : ∀ w', RowU w' w.heap.size cap (List.replicate len 0) → Below w.heap.size w w' → wpList Tryz.prog ops Q rest (a.put o.dst (.slice (some ⟨w.heap.size, 0, none⟩) len cap)) w') : wpList Tryz.prog ops Q (o :: rest) a w := by
 subst hci hli
 obtain ⟨i0, hi, hz0, hz1, hz2⟩ := info_parts infoU
 have hr := run_make (P := Tryz.prog) w 161 227 i0 (.int .u32 0) undU hi hz0 .i64 .i64 (len : Nat) (cap : Nat) (by omega) (by omega) (by rw [hz2]; omega) (by omega)
 refine wpList_plain hg fun K' hK' => ?_
 unfold Oper.wp
 simp [execOp, ho, hl, hc, hr, Result.andThen]
 refine hK' _ _ (hK _ ⟨?_, by simpa using hlc, by omega, _, heap_alloc_at w _, ?_, ?_⟩ ((Below.refl _ _).alloc (Nat.le_refl _) _))
 ·intro x hx; rw [List.eq_of_mem_replicate hx]; decide
 ·rw [size_madeCells, hz1]; omega
 ·rw [hz1, Nat.mul_one, madeCells_toList]
  simp only [cellsU, ← List.map_take, List.length_replicate, List.take_replicate]
  rw [Nat.min_eq_left hlc]
end
/-- slices.Clone of words -/
theorem Clone_any (s : Option Addr) (cap : Nat) (L : List Nat) (w : World) (h : Lies w s cap L) (hlen : L.length ≤ 1000000000) :
 Calls Tryz.prog 175 #[.slice s L.length cap] w fun e w' => ∃ v, e = .returned v ∧ OwnU w' w.heap.size v L ∧ Below w.heap.size w w' := by
 obtain ⟨i0, hi, hz0, hz1, hz2⟩ := info_parts infoU
 rcases s with _ | ⟨b, off, spot⟩
 ·have hL : L = [] := by
   rcases L with _ | ⟨x, l⟩
   ·rfl
   ·obtain ⟨b, off, e, _⟩ := h.at_ 0 (by simp); cases e
  subst hL
  refine (Tryz.slices_Clone_nil 0 cap w).mono ?_
  rintro e w' ⟨rfl, rfl⟩
  exact ⟨_, rfl, OwnU.nil _ _, Below.refl _ _⟩
 ·have hcell : ∀ j u, (cellsU L)[j]? = some u → w.cell? ⟨b, off + j, none⟩ = some u := by
   intro j u hj
   have hjl : j < L.length := by
    have := (List.getElem?_eq_some_iff.1 hj).1; simpa [cellsU] using this
   obtain ⟨b', off', e, hc⟩ := h.at_ j hjl
   cases e
   rw [hc, ← hj]; simp [cellsU, hjl]
  obtain rfl : spot = none := h.spot _ rfl
  refine (Tryz.slices_Clone i0 (.int .u32 0) 1 4 hi hz0 hz1 hz2 rfl (by decide) (fun w => by kernel_rfl) b off L.length cap (cellsU L) w (by simp [cellsU]) (by simp [maxLen]; omega) (by omega) hcell (by intro u hu; simp [cellsU] at hu; obtain ⟨n, _, rfl⟩ := hu; rfl)).mono ?_
  rintro e w' ⟨v, rfl, hown, _, hb⟩
  exact ⟨v, rfl, ⟨h.lt, hown⟩, hb⟩
end Go.Proofs.YtfdnhkjeoeffoaaGreatDoor
end

section
/- Package nat: Add. -/
namespace Go.Proofs.YtfdnhkjeoeffoaaGreatDoor
open Go.RowKit
set_option linter.unusedVariables false
/-- v is the list of the limbs of n -/
def NatV (w : World) (v : Value) (n : Nat) : Prop := ∃ a cap, v = .slice a (limbs n).length cap ∧ Lies w a cap (limbs n)
theorem NatV.below {w w' : World} {v : Value} {n : Nat} (h : NatV w v n) (hb : Below w.heap.size w w') : NatV w' v n := by
 obtain ⟨a, cap, rfl, hl⟩ := h; exact ⟨a, cap, rfl, hl.below hb⟩
theorem OwnU.alloc {w : World} {base : Nat} {v : Value} {L : List Nat} (h : OwnU w base v L) (o : Obj) : OwnU (w.alloc o) base v L := ⟨h.lt, h.own.alloc o⟩
theorem add_step2 {P Q out : List Nat} {k cr : Nat} (h1 : k < P.length) (h2 : k < Q.length) (ho : out.length = k) (hv : val out + cr * B32 ^ k = val (P.take k) + val (Q.take k)) :
 val (out ++ [(cr + P[k] + Q[k]) % B32]) + (cr + P[k] + Q[k]) / B32 * B32 ^ (k + 1) = val (P.take (k + 1)) + val (Q.take (k + 1)) := by
 rw [List.take_succ_eq_append_getElem h1, List.take_succ_eq_append_getElem h2, val_append, val_append, val_append]
 simp only [val, ho, List.length_take, Nat.min_eq_left (Nat.le_of_lt h1), Nat.min_eq_left (Nat.le_of_lt h2), Nat.pow_succ]
 have e := Nat.div_add_mod (cr + P[k] + Q[k]) B32
 generalize (cr + P[k] + Q[k]) / B32 = q at *
 generalize (cr + P[k] + Q[k]) % B32 = r at *
 have e2 : B32 ^ k * (B32 * q + r) = B32 ^ k * (cr + P[k] + Q[k]) := by rw [e]
 simp only [Nat.mul_add, Nat.mul_zero, Nat.add_zero] at e2 ⊢
 rw [Nat.mul_comm cr] at hv
 rw [show q * (B32 ^ k * B32) = B32 ^ k * (B32 * q) by rw [Nat.mul_comm q, Nat.mul_assoc]]
 omega
theorem add_step1 {P Q out : List Nat} {k cr : Nat} (h1 : k < P.length) (h2 : Q.length ≤ k) (ho : out.length = k) (hv : val out + cr * B32 ^ k = val (P.take k) + val (Q.take k)) :
 val (out ++ [(cr + P[k]) % B32]) + (cr + P[k]) / B32 * B32 ^ (k + 1) = val (P.take (k + 1)) + val (Q.take (k + 1)) := by
 rw [List.take_succ_eq_append_getElem h1, List.take_of_length_le (show Q.length ≤ k + 1 by omega), val_append, val_append]
 rw [List.take_of_length_le h2] at hv
 simp only [val, ho, List.length_take, Nat.min_eq_left (Nat.le_of_lt h1), Nat.pow_succ]
 have e := Nat.div_add_mod (cr + P[k]) B32
 generalize (cr + P[k]) / B32 = q at *
 generalize (cr + P[k]) % B32 = r at *
 have e2 : B32 ^ k * (B32 * q + r) = B32 ^ k * (cr + P[k]) := by rw [e]
 simp only [Nat.mul_add, Nat.mul_zero, Nat.add_zero] at e2 ⊢
 rw [Nat.mul_comm cr] at hv
 rw [show q * (B32 ^ k * B32) = B32 ^ k * (B32 * q) by rw [Nat.mul_comm q, Nat.mul_assoc]]
 omega
set_option maxRecDepth 100000 in
set_option maxHeartbeats 2000000 in
theorem Add_any (va vb : Value) (x y : Nat) (w : World) (hx : NatV w va x) (hy : NatV w vb y) (hX : (limbs x).length ≤ 256) (hY : (limbs y).length ≤ 256) (hF : (limbs (x + y)).length ≤ 256) :
 Calls Tryz.prog 233 #[va, vb] w fun e w' => ∃ v, e = .returned (.tuple #[v, .int .i64 0]) ∧ NatV w' v (x + y) ∧ Below w.heap.size w w' := by
 obtain ⟨a, ca, rfl, ha⟩ := hx
 obtain ⟨b, cb, rfl, hb⟩ := hy
 have V1 := Lib.hid (valid_any a ca x w ha hX)
 have V2 := Lib.hid (valid_any b cb y w hb hY)
 have HF := Lib.hid hF
 have vx : Hid (val (limbs x) = x) := val_limbs x
 have vy : Hid (val (limbs y) = y) := val_limbs y
 have h1 := ha.le; have h2 := hb.le
 have HA := Lib.hid ha; have HB := Lib.hid hb
 clear ha hb hF
 generalize limbs x = X at *
 generalize limbs y = Y at *
 go_enter Tryz.func233, Tryz.ntmps233
 go_wp2_with fail
 refine V1.out.mono ?_
 rintro e w1 ⟨rfl, rfl⟩
 go_wp2_with fail
 refine V2.out.mono ?_
 rintro e w1 ⟨rfl, rfl⟩
 clear V1 V2
 by_cases hlt : X.length < Y.length
 ·have HP : Hid (Lies w b cb Y) := HB.out
  have HQ : Hid (Lies w a ca X) := HA.out
  clear HA HB
  obtain ⟨P, hP⟩ : ∃ P, P = Y := ⟨_, rfl⟩
  obtain ⟨Q, hQ⟩ : ∃ Q, Q = X := ⟨_, rfl⟩
  subst hP hQ
  go_wp2_with (at_make; (refine wpList_make0 _ rfl _ _ rfl w.heap.size (P.length + 1) _ rfl rfl (by simp) (by omega) (Nat.le_refl _) ?_); intro v0 w0 hown0 hgr0)
  have HO0 := Lib.hid hown0
  have HB0 := Lib.hid ((Below.refl w.heap.size w).grown hgr0 (Nat.le_refl _) (by simp))
  clear hown0 hgr0
  go_wp2_with fail
  go_loopw [6, 7, 31] (fun o c i wr => ∃ (k : Nat) (out : List Nat) (cr : Nat), k ≤ P.length ∧ i = .int .i64 k ∧ c = .int .u64 cr ∧ out.length = k ∧ cr ≤ 1 ∧ val out + cr * B32 ^ k = val (P.take k) + val (Q.take k) ∧ OwnU wr w.heap.size o out ∧ Below w.heap.size w wr) (fun _ _ i _ => P.length - (intOf i).toNat)
  case atStart => exact ⟨0, [], 0, Nat.zero_le _, rfl, rfl, rfl, by omega, by simp [val], HO0.out, HB0.out⟩
  case round =>
   obtain ⟨k, out, cr, hk, rfl, rfl, hol, hcr, hv, hown, hbw⟩ := hrel
   have HV := Lib.hid hv; have HO := Lib.hid hown; have BW := Lib.hid hbw; have HOL := Lib.hid hol
   have hBs := hbw.size
   clear hv hown hbw hol HO0 HB0
   by_cases hlt : k < P.length
   ·obtain ⟨bp, op, rfl, hcp⟩ := HP.out.at_ k hlt
    have hcp' := (BW.out.cell (World.block_lt_of_cell? w _ hcp)).trans hcp
    have hxk : P[k] < 4294967296 := HP.out.lt _ (List.getElem_mem hlt)
    clear hcp
    by_cases hq : k < Q.length
    ·obtain ⟨bq, oq, rfl, hcq⟩ := HQ.out.at_ k hq
     have hcq' := (BW.out.cell (World.block_lt_of_cell? w _ hcq)).trans hcq
     have hyk : Q[k] < 4294967296 := HQ.out.lt _ (List.getElem_mem hq)
     clear hcq
     obtain ⟨y, hy⟩ : ∃ y : Nat, y = (cr + P[k] + Q[k]) % B32 := ⟨_, rfl⟩
     obtain ⟨c2, hc2⟩ : ∃ c2 : Nat, c2 = (cr + P[k] + Q[k]) / B32 := ⟨_, rfl⟩
     have HS := Lib.hid (add_step2 hlt hq HOL.out HV.out)
     rw [← hy, ← hc2] at HS
     have ey : ((cr : Int) + P[k] + Q[k]) % 4294967296 = (y : Int) := by rw [hy, B32]; omega
     have ec : ((cr : Int) + P[k] + Q[k]) / 4294967296 = (c2 : Int) := by rw [hc2, B32]; omega
     have hyl : y < B32 := by rw [hy]; exact Nat.mod_lt _ (by decide)
     have hc2l : c2 ≤ 1 := by rw [hc2, B32]; omega
     have Hyl := Lib.hid hyl; have Hc2l := Lib.hid hc2l
     clear hy hc2 hyl hc2l
     generalize P[k] = xk at *
     generalize Q[k] = yk at *
     go_wp2_with (at_builtin; refine wpList_app1 _ rfl _ _ rfl w.heap.size _ out rfl (OwnU.alloc HO.out _) wr.heap.size y rfl (by simp [go_sem]) Hyl.out (by simp; omega) (by rw [HOL.out]; omega) ?_; intro v1 w1 hown1 hgr1)
     have HO1 := Lib.hid hown1
     have HB1 := Lib.hid ((BW.out.alloc hBs _).grown hgr1 (by simp; omega) (fun x hx => (HO.out.own.lt x hx).1))
     clear hown1 hgr1
     go_wp2_with fail
     go_roundw
     case rel => exact ⟨k + 1, out ++ [y], c2, by omega, by go_num, rfl, by simp [HOL.out], Hc2l.out, HS.out, HO1.out, HB1.out⟩
     case measure => simp [intOf]; omega
    ·obtain ⟨y, hy⟩ : ∃ y : Nat, y = (cr + P[k]) % B32 := ⟨_, rfl⟩
     obtain ⟨c2, hc2⟩ : ∃ c2 : Nat, c2 = (cr + P[k]) / B32 := ⟨_, rfl⟩
     have HS := Lib.hid (add_step1 hlt (Nat.not_lt.1 hq) HOL.out HV.out)
     rw [← hy, ← hc2] at HS
     have ey : ((cr : Int) + P[k]) % 4294967296 = (y : Int) := by rw [hy, B32]; omega
     have ec : ((cr : Int) + P[k]) / 4294967296 = (c2 : Int) := by rw [hc2, B32]; omega
     have hyl : y < B32 := by rw [hy]; exact Nat.mod_lt _ (by decide)
     have hc2l : c2 ≤ 1 := by rw [hc2, B32]; omega
     have Hyl := Lib.hid hyl; have Hc2l := Lib.hid hc2l
     clear hy hc2 hyl hc2l
     generalize P[k] = xk at *
     go_wp2_with (at_builtin; refine wpList_app1 _ rfl _ _ rfl w.heap.size _ out rfl (OwnU.alloc HO.out _) wr.heap.size y rfl (by simp [go_sem]) Hyl.out (by simp; omega) (by rw [HOL.out]; omega) ?_; intro v1 w1 hown1 hgr1)
     have HO1 := Lib.hid hown1
     have HB1 := Lib.hid ((BW.out.alloc hBs _).grown hgr1 (by simp; omega) (fun x hx => (HO.out.own.lt x hx).1))
     clear hown1 hgr1
     go_wp2_with fail
     go_roundw
     case rel => exact ⟨k + 1, out ++ [y], c2, by omega, by go_num, rfl, by simp [HOL.out], Hc2l.out, HS.out, HO1.out, HB1.out⟩
     case measure => simp [intOf]; omega
   ·obtain rfl : k = P.length := by omega
    have ey : ((cr : Int)) % 4294967296 = (cr : Int) := by omega
    go_wp2_with (at_builtin; refine wpList_app1 _ rfl _ _ rfl w.heap.size _ out rfl (OwnU.alloc HO.out _) wr.heap.size cr rfl (by simp [go_sem]) (by unfold B32; omega) (by simp; omega) (by rw [HOL.out]; omega) ?_; intro v1 w1 hown1 hgr1)
    have hvs : val (out ++ [cr]) = x + y := by
     rw [val_append, HOL.out]
     have := HV.out
     rw [List.take_length, List.take_of_length_le (by omega)] at this
     simp only [val, Nat.mul_zero, Nat.add_zero]
     rw [← vx.out, ← vy.out, Nat.add_comm (val Q), ← this]; rw [Nat.mul_comm (B32 ^ _)]
    have htr : trimL (out ++ [cr]) = limbs (x + y) := by rw [trimL_limbs _ hown1.lt, hvs]
    have HB1 := Lib.hid ((BW.out.alloc hBs _).grown hgr1 (by simp; omega) (fun x hx => (HO.out.own.lt x hx).1))
    obtain ⟨a1, cap1, rfl, hlies⟩ := hown1.lies
    have HT := Lib.hid (told_any a1 cap1 _ w1 hlies (by rw [htr]; exact HF.out))
    have HLf : Hid (Lies w1 a1 (limbs (x + y)).length (limbs (x + y))) := by
     have h1 := (hlies.take (trimL (out ++ [cr])).length)
     rw [← trimL_prefix] at h1
     rw [← htr]; exact h1.clip
    have HTR := Lib.hid htr
    clear hown1 hgr1 hvs hlies htr
    go_wp2_with fail
    refine HT.out.mono ?_
    rintro e w2 ⟨rfl, rfl⟩
    rw [HTR.out]
    go_wp2_with fail
    go_ret2
    exact ⟨_, rfl, ⟨_, _, rfl, HLf.out⟩, HB1.out⟩
 ·have HP : Hid (Lies w a ca X) := HA.out
  have HQ : Hid (Lies w b cb Y) := HB.out
  clear HA HB
  obtain ⟨P, hP⟩ : ∃ P, P = X := ⟨_, rfl⟩
  obtain ⟨Q, hQ⟩ : ∃ Q, Q = Y := ⟨_, rfl⟩
  subst hP hQ
  go_wp2_with (at_make; (refine wpList_make0 _ rfl _ _ rfl w.heap.size (P.length + 1) _ rfl rfl (by simp) (by omega) (Nat.le_refl _) ?_); intro v0 w0 hown0 hgr0)
  have HO0 := Lib.hid hown0
  have HB0 := Lib.hid ((Below.refl w.heap.size w).grown hgr0 (Nat.le_refl _) (by simp))
  clear hown0 hgr0
  go_wp2_with fail
  go_loopw [6, 7, 31] (fun o c i wr => ∃ (k : Nat) (out : List Nat) (cr : Nat), k ≤ P.length ∧ i = .int .i64 k ∧ c = .int .u64 cr ∧ out.length = k ∧ cr ≤ 1 ∧ val out + cr * B32 ^ k = val (P.take k) + val (Q.take k) ∧ OwnU wr w.heap.size o out ∧ Below w.heap.size w wr) (fun _ _ i _ => P.length - (intOf i).toNat)
  case atStart => exact ⟨0, [], 0, Nat.zero_le _, rfl, rfl, rfl, by omega, by simp [val], HO0.out, HB0.out⟩
  case round =>
   obtain ⟨k, out, cr, hk, rfl, rfl, hol, hcr, hv, hown, hbw⟩ := hrel
   have HV := Lib.hid hv; have HO := Lib.hid hown; have BW := Lib.hid hbw; have HOL := Lib.hid hol
   have hBs := hbw.size
   clear hv hown hbw hol HO0 HB0
   by_cases hlt : k < P.length
   ·obtain ⟨bp, op, rfl, hcp⟩ := HP.out.at_ k hlt
    have hcp' := (BW.out.cell (World.block_lt_of_cell? w _ hcp)).trans hcp
    have hxk : P[k] < 4294967296 := HP.out.lt _ (List.getElem_mem hlt)
    clear hcp
    by_cases hq : k < Q.length
    ·obtain ⟨bq, oq, rfl, hcq⟩ := HQ.out.at_ k hq
     have hcq' := (BW.out.cell (World.block_lt_of_cell? w _ hcq)).trans hcq
     have hyk : Q[k] < 4294967296 := HQ.out.lt _ (List.getElem_mem hq)
     clear hcq
     obtain ⟨y, hy⟩ : ∃ y : Nat, y = (cr + P[k] + Q[k]) % B32 := ⟨_, rfl⟩
     obtain ⟨c2, hc2⟩ : ∃ c2 : Nat, c2 = (cr + P[k] + Q[k]) / B32 := ⟨_, rfl⟩
     have HS := Lib.hid (add_step2 hlt hq HOL.out HV.out)
     rw [← hy, ← hc2] at HS
     have ey : ((cr : Int) + P[k] + Q[k]) % 4294967296 = (y : Int) := by rw [hy, B32]; omega
     have ec : ((cr : Int) + P[k] + Q[k]) / 4294967296 = (c2 : Int) := by rw [hc2, B32]; omega
     have hyl : y < B32 := by rw [hy]; exact Nat.mod_lt _ (by decide)
     have hc2l : c2 ≤ 1 := by rw [hc2, B32]; omega
     have Hyl := Lib.hid hyl; have Hc2l := Lib.hid hc2l
     clear hy hc2 hyl hc2l
     generalize P[k] = xk at *
     generalize Q[k] = yk at *
     go_wp2_with (at_builtin; refine wpList_app1 _ rfl _ _ rfl w.heap.size _ out rfl (OwnU.alloc HO.out _) wr.heap.size y rfl (by simp [go_sem]) Hyl.out (by simp; omega) (by rw [HOL.out]; omega) ?_; intro v1 w1 hown1 hgr1)
     have HO1 := Lib.hid hown1
     have HB1 := Lib.hid ((BW.out.alloc hBs _).grown hgr1 (by simp; omega) (fun x hx => (HO.out.own.lt x hx).1))
     clear hown1 hgr1
     go_wp2_with fail
     go_roundw
     case rel => exact ⟨k + 1, out ++ [y], c2, by omega, by go_num, rfl, by simp [HOL.out], Hc2l.out, HS.out, HO1.out, HB1.out⟩
     case measure => simp [intOf]; omega
    ·obtain ⟨y, hy⟩ : ∃ y : Nat, y = (cr + P[k]) % B32 := ⟨_, rfl⟩
     obtain ⟨c2, hc2⟩ : ∃ c2 : Nat, c2 = (cr + P[k]) / B32 := ⟨_, rfl⟩
     have HS := Lib.hid (add_step1 hlt (Nat.not_lt.1 hq) HOL.out HV.out)
     rw [← hy, ← hc2] at HS
     have ey : ((cr : Int) + P[k]) % 4294967296 = (y : Int) := by rw [hy, B32]; omega
     have ec : ((cr : Int) + P[k]) / 4294967296 = (c2 : Int) := by rw [hc2, B32]; omega
     have hyl : y < B32 := by rw [hy]; exact Nat.mod_lt _ (by decide)
     have hc2l : c2 ≤ 1 := by rw [hc2, B32]; omega
     have Hyl := Lib.hid hyl; have Hc2l := Lib.hid hc2l
     clear hy hc2 hyl hc2l
     generalize P[k] = xk at *
     go_wp2_with (at_builtin; refine wpList_app1 _ rfl _ _ rfl w.heap.size _ out rfl (OwnU.alloc HO.out _) wr.heap.size y rfl (by simp [go_sem]) Hyl.out (by simp; omega) (by rw [HOL.out]; omega) ?_; intro v1 w1 hown1 hgr1)
     have HO1 := Lib.hid hown1
     have HB1 := Lib.hid ((BW.out.alloc hBs _).grown hgr1 (by simp; omega) (fun x hx => (HO.out.own.lt x hx).1))
     clear hown1 hgr1
     go_wp2_with fail
     go_roundw
     case rel => exact ⟨k + 1, out ++ [y], c2, by omega, by go_num, rfl, by simp [HOL.out], Hc2l.out, HS.out, HO1.out, HB1.out⟩
     case measure => simp [intOf]; omega
   ·obtain rfl : k = P.length := by omega
    have ey : ((cr : Int)) % 4294967296 = (cr : Int) := by omega
    go_wp2_with (at_builtin; refine wpList_app1 _ rfl _ _ rfl w.heap.size _ out rfl (OwnU.alloc HO.out _) wr.heap.size cr rfl (by simp [go_sem]) (by unfold B32; omega) (by simp; omega) (by rw [HOL.out]; omega) ?_; intro v1 w1 hown1 hgr1)
    have hvs : val (out ++ [cr]) = x + y := by
     rw [val_append, HOL.out]
     have := HV.out
     rw [List.take_length, List.take_of_length_le (by omega)] at this
     simp only [val, Nat.mul_zero, Nat.add_zero]
     rw [← vx.out, ← vy.out, ← this]; rw [Nat.mul_comm (B32 ^ _)]
    have htr : trimL (out ++ [cr]) = limbs (x + y) := by rw [trimL_limbs _ hown1.lt, hvs]
    have HB1 := Lib.hid ((BW.out.alloc hBs _).grown hgr1 (by simp; omega) (fun x hx => (HO.out.own.lt x hx).1))
    obtain ⟨a1, cap1, rfl, hlies⟩ := hown1.lies
    have HT := Lib.hid (told_any a1 cap1 _ w1 hlies (by rw [htr]; exact HF.out))
    have HLf : Hid (Lies w1 a1 (limbs (x + y)).length (limbs (x + y))) := by
     have h1 := (hlies.take (trimL (out ++ [cr])).length)
     rw [← trimL_prefix] at h1
     rw [← htr]; exact h1.clip
    have HTR := Lib.hid htr
    clear hown1 hgr1 hvs hlies htr
    go_wp2_with fail
    refine HT.out.mono ?_
    rintro e w2 ⟨rfl, rfl⟩
    rw [HTR.out]
    go_wp2_with fail
    go_ret2
    exact ⟨_, rfl, ⟨_, _, rfl, HLf.out⟩, HB1.out⟩
end Go.Proofs.YtfdnhkjeoeffoaaGreatDoor
end

section
/- Package nat: Mul. -/
namespace Go.Proofs.YtfdnhkjeoeffoaaGreatDoor
open Go.RowKit
set_option linter.unusedVariables false
theorem mul_step {out : List Nat} {k c p R : Nat} (hk : k < out.length) (h : val out + c * B32 ^ k = R) :
 val (out.set k ((c + (p + out[k])) % B32)) + (c + (p + out[k])) / B32 * B32 ^ (k + 1) = R + p * B32 ^ k := by
 have hs := val_set out k ((c + (p + out[k])) % B32) hk
 have e := Nat.div_add_mod (c + (p + out[k])) B32
 generalize val (out.set k ((c + (p + out[k])) % B32)) = v at *
 generalize (c + (p + out[k])) % B32 = r at *
 generalize (c + (p + out[k])) / B32 = q at *
 generalize out[k] = o at *
 have e2 : (B32 * q + r) * B32 ^ k = (c + (p + o)) * B32 ^ k := by rw [e]
 simp only [Nat.add_mul] at e2
 rw [Nat.pow_succ, show q * (B32 ^ k * B32) = B32 * q * B32 ^ k by rw [Nat.mul_comm (B32 ^ k), ← Nat.mul_assoc, Nat.mul_comm q]]
 generalize B32 ^ k = b at *
 generalize B32 * q * b = t1 at *
 omega
theorem val_take_snoc {Y : List Nat} {j : Nat} (h : j < Y.length) : val (Y.take (j + 1)) = val (Y.take j) + Y[j] * B32 ^ j := by
 rw [List.take_succ_eq_append_getElem h, val_append]
 simp only [val, List.length_take, Nat.min_eq_left (Nat.le_of_lt h), Nat.mul_zero, Nat.add_zero]
 rw [Nat.mul_comm]
set_option maxRecDepth 100000 in
set_option maxHeartbeats 4000000 in
theorem Mul_any (va vb : Value) (x y : Nat) (w : World) (hx : NatV w va x) (hy : NatV w vb y) (hX : (limbs x).length ≤ 256) (hY : (limbs y).length ≤ 256) (hF : (limbs (x * y)).length ≤ 256) :
 Calls Tryz.prog 179 #[va, vb] w fun e w' => ∃ v, e = .returned (.tuple #[v, .int .i64 0]) ∧ NatV w' v (x * y) ∧ Below w.heap.size w w' := by
 obtain ⟨a, ca, rfl, ha⟩ := hx
 obtain ⟨b, cb, rfl, hb⟩ := hy
 have V1 := Lib.hid (valid_any a ca x w ha hX)
 have V2 := Lib.hid (valid_any b cb y w hb hY)
 have HF := Lib.hid hF
 have vx : Hid (val (limbs x) = x) := val_limbs x
 have vy : Hid (val (limbs y) = y) := val_limbs y
 have h1 := ha.le; have h2 := hb.le
 have HA := Lib.hid ha; have HB := Lib.hid hb
 clear ha hb hF
 generalize limbs x = X at *
 generalize limbs y = Y at *
 go_enter Tryz.func179, Tryz.ntmps179
 go_wp2_with fail
 refine V1.out.mono ?_
 rintro e w1 ⟨rfl, rfl⟩
 go_wp2_with fail
 refine V2.out.mono ?_
 rintro e w1 ⟨rfl, rfl⟩
 clear V1 V2
 go_wp2_with (at_make; refine wpList_make1 _ rfl _ _ rfl (X.length + Y.length) (X.length + Y.length) _ _ rfl rfl (by simp) (by simp) (Nat.le_refl _) (by omega) ?_; intro w0 hrow hb0)
 have HR0 := Lib.hid hrow
 have HB0 := Lib.hid hb0
 clear hrow hb0
 go_wp2_with fail
 go_loopw [28] (fun i wr => ∃ (k : Nat) (out : List Nat), k ≤ X.length ∧ i = .int .i64 k ∧ out.length = X.length + Y.length ∧ val out = val (X.take k) * val Y ∧ (∀ t, k + Y.length ≤ t → out.getD t 0 = 0) ∧ RowU wr w.heap.size (X.length + Y.length) out ∧ Below w.heap.size w wr) (fun i _ => X.length - (intOf i).toNat)
 case atStart => exact ⟨0, List.replicate (X.length + Y.length) 0, Nat.zero_le _, rfl, by simp, by simp [val_zeros, val], fun t _ => by simp [List.getD, List.getElem?_replicate]; split <;> rfl, HR0.out, HB0.out⟩
 case round =>
  obtain ⟨k, out, hk, rfl, hol, hv, hz, hrow, hbw⟩ := hrel
  have HV := Lib.hid hv; have HR := Lib.hid hrow; have BW := Lib.hid hbw; have HOL := Lib.hid hol; have HZ := Lib.hid hz
  have hBs := hbw.size
  clear hv hrow hbw hol hz HR0 HB0
  obtain ⟨wo, rfl⟩ : ∃ wo : World, wo = wr := ⟨_, rfl⟩
  by_cases hlt : k < X.length
  ·obtain ⟨ba, oa, rfl, hca⟩ := HA.out.at_ k hlt
   have hca' := (BW.out.cell (World.block_lt_of_cell? w _ hca)).trans hca
   have hxk : X[k] < 4294967296 := HA.out.lt _ (List.getElem_mem hlt)
   clear hca
   obtain ⟨xk, hxe⟩ : ∃ n, n = X[k] := ⟨_, rfl⟩
   rw [← hxe] at hca' hxk
   have HXE := Lib.hid hxe
   clear hxe
   go_wp2_with fail
   go_loopw [9, 35] (fun c i wr => ∃ (j : Nat) (o2 : List Nat) (cr : Nat), j ≤ Y.length ∧ i = .int .i64 j ∧ c = .int .u64 cr ∧ cr < 4294967296 ∧ o2.length = X.length + Y.length ∧ val o2 + cr * B32 ^ (k + j) = val (X.take k) * val Y + xk * val (Y.take j) * B32 ^ k ∧ (∀ t, k + Y.length ≤ t → o2.getD t 0 = 0) ∧ RowU wr w.heap.size (X.length + Y.length) o2 ∧ Below w.heap.size w wr) (fun _ i _ => Y.length - (intOf i).toNat)
   case atStart => exact ⟨0, out, 0, Nat.zero_le _, rfl, rfl, by omega, HOL.out, by simp [HV.out, val], HZ.out, HR.out, BW.out⟩
   case round =>
    obtain ⟨j, o2, cr, hj, rfl, rfl, hcr, hol2, hv2, hz2, hrow2, hbw2⟩ := hrel
    have HV2 := Lib.hid hv2; have HR2 := Lib.hid hrow2; have BW2 := Lib.hid hbw2; have HOL2 := Lib.hid hol2; have HZ2 := Lib.hid hz2
    have hBs2 := hbw2.size
    have hgl := hrow2.ltg
    clear hv2 hrow2 hbw2 hol2 hz2
    by_cases hjl : j < Y.length
    ·obtain ⟨bb, ob, rfl, hcb⟩ := HB.out.at_ j hjl
     have hcb' := (BW2.out.cell (World.block_lt_of_cell? w _ hcb)).trans hcb
     have hyj : Y[j] < 4294967296 := HB.out.lt _ (List.getElem_mem hjl)
     have hkj : k + j < o2.length := by rw [HOL2.out]; omega
     have hco := HR2.out.cell (k + j) hkj
     have hfo := HR2.out.frozen (k + j)
     have hok : o2[k + j] < 4294967296 := HR2.out.lt _ (List.getElem_mem hkj)
     clear hcb
     obtain ⟨y', hy'⟩ : ∃ y' : Nat, y' = (cr + (xk * Y[j] + o2[k + j])) % B32 := ⟨_, rfl⟩
     obtain ⟨c2, hc2⟩ : ∃ c2 : Nat, c2 = (cr + (xk * Y[j] + o2[k + j])) / B32 := ⟨_, rfl⟩
     have hst := mul_step (p := xk * Y[j]) hkj HV2.out
     rw [← hy', ← hc2] at hst
     have HS : Hid (val (o2.set (k + j) y') + c2 * B32 ^ (k + (j + 1)) = val (X.take k) * val Y + xk * val (Y.take (j + 1)) * B32 ^ k) := by
      show val (o2.set (k + j) y') + c2 * B32 ^ (k + (j + 1)) = val (X.take k) * val Y + xk * val (Y.take (j + 1)) * B32 ^ k
      rw [← Nat.add_assoc, hst, val_take_snoc hjl, Nat.mul_add, Nat.add_mul, ← Nat.add_assoc, Nat.pow_add]
      congr 1
      ac_rfl
     have hprod : xk * Y[j] ≤ 18446744065119617025 := Nat.le_trans (Nat.mul_le_mul (show xk ≤ 4294967295 by omega) (show Y[j] ≤ 4294967295 by omega)) (by decide)
     obtain ⟨pr, hpr⟩ : ∃ pr : Nat, pr = xk * Y[j] := ⟨_, rfl⟩
     rw [← hpr] at hy' hc2 hprod
     have epr : (xk : Int) * (Y[j] : Int) = (pr : Int) := by rw [hpr]; simp
     have ey : ((cr : Int) + (pr + o2[k + j])) % 4294967296 = (y' : Int) := by rw [hy', B32]; omega
     have ec : ((cr : Int) + (pr + o2[k + j])) / 4294967296 = (c2 : Int) := by rw [hc2, B32]; omega
     have hyl : y' < B32 := by rw [hy']; exact Nat.mod_lt _ (by decide)
     have hc2l : c2 < 4294967296 := by rw [hc2, B32]; omega
     have Hyl := Lib.hid hyl; have Hc2l := Lib.hid hc2l
     have HR3 := Lib.hid (HR2.out.set (k + j) y' hkj hyl)
     have HZ3 : Hid (∀ t, k + Y.length ≤ t → (o2.set (k + j) y').getD t 0 = 0) := by
      intro t ht
      have := HZ2.out t ht
      simp only [List.getD] at this ⊢
      rw [List.getElem?_set_ne (by omega)]; exact this
     have HOL3 : Hid ((o2.set (k + j) y').length = X.length + Y.length) := by show (o2.set (k + j) y').length = _; simp [HOL2.out]
     clear hy' hc2 hyl hc2l hst hpr
     generalize Y[j] = yj at *
     generalize o2[k + j] = oo at *
     clear hkj
     go_wp2_with fail
     go_roundw
     case rel => exact ⟨j + 1, _, c2, by omega, by go_num, rfl, Hc2l.out, HOL3.out, HS.out, HZ3.out, HR3.out, BW2.out.setCell (Nat.le_refl _) _⟩
     case measure => simp [intOf]; omega
    ·obtain rfl : j = Y.length := by omega
     have hkj : k + Y.length < o2.length := by rw [HOL2.out]; omega
     have hco := HR2.out.cell (k + Y.length) hkj
     have hfo := HR2.out.frozen (k + Y.length)
     have ey : ((cr : Int)) % 4294967296 = (cr : Int) := by omega
     have h0 : o2[k + Y.length] = 0 := by have := HZ2.out (k + Y.length) (Nat.le_refl _); simpa [List.getD, hkj] using this
     have hvs := val_set o2 (k + Y.length) cr hkj
     have HS : Hid (val (o2.set (k + Y.length) cr) = val (X.take (k + 1)) * val Y) := by
      show val (o2.set (k + Y.length) cr) = _
      rw [h0, Nat.zero_mul, Nat.add_zero, HV2.out, List.take_length] at hvs
      rw [hvs, val_take_snoc hlt, ← HXE.out, Nat.add_mul]
      congr 1
      ac_rfl
     have HR3 := Lib.hid (HR2.out.set (k + Y.length) cr hkj hcr)
     have HZ3 : Hid (∀ t, k + 1 + Y.length ≤ t → (o2.set (k + Y.length) cr).getD t 0 = 0) := by
      intro t ht
      have := HZ2.out t (by omega)
      simp only [List.getD] at this ⊢
      rw [List.getElem?_set_ne (by omega)]; exact this
     have HOL3 : Hid ((o2.set (k + Y.length) cr).length = X.length + Y.length) := by show (o2.set (k + Y.length) cr).length = _; simp [HOL2.out]
     clear hvs h0
     generalize o2[k + Y.length] = oo at *
     clear hkj
     go_wp2_with fail
     go_roundw
     case rel => exact ⟨k + 1, _, by omega, by go_num, HOL3.out, HS.out, HZ3.out, HR3.out, BW2.out.setCell (Nat.le_refl _) _⟩
     case measure => simp [intOf]; omega
  ·obtain rfl : k = X.length := by omega
   have hlen := HOL.out
   have hvo : val out = x * y := by rw [HV.out, List.take_length, vx.out, vy.out]
   have htr : trimL out = limbs (x * y) := by rw [trimL_limbs _ HR.out.lt, hvo]
   have HT := Lib.hid (told_any (some ⟨w.heap.size, 0, none⟩) (X.length + Y.length) out wo HR.out.lies (by rw [htr]; exact HF.out))
   have HLf : Hid (Lies wo (some ⟨w.heap.size, 0, none⟩) (limbs (x * y)).length (limbs (x * y))) := by
    have h1 := (HR.out.lies.take (trimL out).length)
    rw [← trimL_prefix] at h1
    rw [← htr]; exact h1.clip
   rw [htr, hlen] at HT
   clear hlen hvo htr
   go_wp2_with fail
   refine HT.out.mono ?_
   rintro e w2 ⟨rfl, rfl⟩
   go_wp2_with fail
   go_ret2
   exact ⟨_, rfl, ⟨_, _, rfl, HLf.out⟩, BW.out⟩
end Go.Proofs.YtfdnhkjeoeffoaaGreatDoor
end
