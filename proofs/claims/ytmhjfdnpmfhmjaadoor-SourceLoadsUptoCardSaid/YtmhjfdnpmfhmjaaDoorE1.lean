/- strings.Builder as a field of a struct behind a pointer: copyCheck, WriteString, Len. -/
import Derived.Test.YtmhjfdnpmfhmjaaDoorG1
import Derived.Lib.Builder
import Derived.Lib.AppendStr
import Derived.Maps.AppendAt
import Derived.LaidEqlPtr
namespace Go.Proofs.YtmhjfdnpmfhmjaaDoor
open Go.RowKit
set_option linter.unusedVariables false

theorem sizeBuilderE : (Tryd.prog.info? 51).map (·.size) = some 2 := by kernel_rfl
theorem liesBuilderE : liesAt Tryd.prog Tryd.prog.depth 53 (6 / Tryd.prog.cellsOf 53) 1 51 1 = true := by kernel_rfl
theorem infoByteE : (Tryd.prog.info? 5).map (fun i => (i.zero, i.size, i.bytes)) = some (some (.int .u8 0), 1, 1) := by kernel_rfl

/-- append of a string: where the row lies behind it -/
theorem app_str_at {P : Program} (w : World) (base : Nat) (t u ty e : TypeId) (i : TypeInfo) (ht : P.underlying t = some (.slice e)) (hu : P.underlying u = some .string) (hi : P.info? e = some i) (hz : i.zero = some (.int .u8 0))
    (hsize : i.size = 1) (hby : i.bytes = 1) (v : Value) (n : Nat) (xs : List Value) (hown : w.ownsRow base e 1 v n xs) (s : ByteArray)
    (hbytes : n + s.size ≤ 140737488355328) (hbase : base ≤ w.heap.size) {v' : Value} {w' : World} (hr : (Builtin.append_ #[t, u] ty #[v, .string s]).run P w = .ok v' w') :
    v'.ownBlock = v.ownBlock ∨ v'.ownBlock = some w.heap.size := by
  rcases hown.2 with ⟨rfl, rfl⟩ | ⟨g, cap, cur, rfl, hbg, hg, hnc, hcm, hcs, htake⟩
  · by_cases hm : s.size = 0
    · obtain ⟨v2, w2, hr2, h2, h3, h4⟩ := Lib.run_append_own_string (P := P) w base t u ty e i ht hu hi hz hsize hby _ _ _ hown s (by unfold maxLen; omega) (by omega) hbase
      rw [hr] at hr2
      cases hr2
      exact .inl (by rw [h4.2 ⟨rfl, hm⟩])
    · have hr2 := run_append_nil_string (P := P) w t u ty e i (.int .u8 0) ht hu hi hz s (by omega) (by omega) (by rw [hby]; omega)
      rw [hr] at hr2
      cases hr2
      exact .inr rfl
  · by_cases hroom : n + s.size ≤ cap
    · have hcs' : cur.size = cap := by simpa using hcs
      have hr2 := Lib.run_append_room_string (P := P) w t u ty e i ht hu hi hsize g n cap cur hg s hroom (by omega)
      rw [hr] at hr2
      cases hr2
      exact .inl rfl
    · have holds : ∀ j u, xs[j]? = some u → w.cell? ((⟨g, 0, none⟩ : Addr).add j) = some u := hown.cells (g := g) rfl
      have hr2 := Lib.run_append_grow_string (P := P) w t u ty e i (.int .u8 0) ht hu hi hz ⟨g, 0, none⟩ n cap xs (by rw [hsize]; exact hown.1) holds s (by omega) (by omega) (by rw [hby]; exact growslice_fits (by omega) (by omega))
      rw [hr] at hr2
      cases hr2
      exact .inr rfl

theorem wpList_app_str {ops : Array Oper} {rest : List Oper} {o : Oper} {a : Act} {Q : Exit → Act → World → Prop} (w : World) (hgd : o.guard = none) (sl x : Operand)
    (ho : o.op = .call { callee := .builtin .append, args := #[sl, x], argTypes := #[49, 9] })
    (base : Nat) (v : Value) (n : Nat) (xs : List Value) (hs : a.eval sl = v) (hown : w.ownsRow base 5 1 v n xs) (s : ByteArray) (hx : a.eval x = .string s)
    (hbytes : n + s.size ≤ 140737488355328) (hbase : base ≤ w.heap.size)
    (h : ∀ v' w', w'.ownsRow base 5 1 v' (n + s.size) (xs ++ Lib.strCells s) → w.grownBy w' v.ownBlock → (v'.ownBlock = v.ownBlock ∨ v'.ownBlock = some w.heap.size) → wpList Tryd.prog ops Q rest (a.put o.dst v') w') : wpList Tryd.prog ops Q (o :: rest) a w := by
  obtain ⟨i0, hi, hz0, hz1, hz2⟩ := info_parts infoByteE
  refine wpList_plain hgd fun K hK => ?_
  obtain ⟨v', w', hr, h2, h3, h4⟩ := Lib.run_append_own_string (P := Tryd.prog) w base 49 9 o.type 5 i0 Tryd.underlying49 Tryd.underlying9 hi hz0 hz1 hz2 v n xs hown s (by unfold maxLen; omega) (by omega) hbase
  have h5 := app_str_at (P := Tryd.prog) w base 49 9 o.type 5 i0 Tryd.underlying49 Tryd.underlying9 hi hz0 hz1 hz2 v n xs hown s hbytes hbase hr
  unfold Oper.wp execOp
  simp only [ho, resolve, invoke, builtin, Sem.run_bind, Sem.run_pure, Result.andThen_ok, List.map_toArray, List.map_cons, List.map_nil, hs, hx, hr]
  exact hK _ _ (h v' w' h2 h3 h5)

theorem Apart.more {S S' : List Nat} {w w' : World} (h : Apart S w w') (hs : ∀ x ∈ S, x ∈ S') : Apart S' w w' := ⟨h.os, h.tape, h.output, h.size, fun k hk hn => h.block k hk (fun hm => hn (hs k hm))⟩
theorem Apart.ofGrown {w w' : World} {row : Option Nat} (h : w.grownBy w' row) : Apart row.toList w w' := ⟨h.os, h.tape, h.output, h.size, fun k hk hn => h.block k hk (fun e => hn (by simp [← e]))⟩
/-- v' lies where v lay, or is new -/
def Loc (w : World) (v v' : Value) : Prop := ∀ g, v'.ownBlock = some g → v.ownBlock = some g ∨ w.heap.size ≤ g

/-- a builder as a field of the struct in block b: its two cells and what it holds -/
structure InB (w : World) (B b : Nat) (cs : Array Value) (p v : Value) (bs : List Value) : Prop where
  lo : B ≤ b
  heap : w.heap[b]? = some (.cells cs 53 (0, 0))
  size : cs.size = 6
  c0 : cs[1]? = some p
  c1 : cs[2]? = some v
  ptr : p = .pointer none ∨ p = .pointer (some ⟨b, 1, none⟩)
  own : w.ownsRow B 5 1 v bs.length bs

theorem InB.cell0 {w : World} {B b : Nat} {cs : Array Value} {p v : Value} {bs : List Value} (h : InB w B b cs p v bs) : w.cell? ⟨b, 1, none⟩ = some p := (Lib.cell_of_heap h.heap 1).trans h.c0
theorem InB.cell1 {w : World} {B b : Nat} {cs : Array Value} {p v : Value} {bs : List Value} (h : InB w B b cs p v bs) : w.cell? ⟨b, 2, none⟩ = some v := (Lib.cell_of_heap h.heap 2).trans h.c1
theorem InB.ne {w : World} {B b : Nat} {cs : Array Value} {p v : Value} {bs : List Value} (h : InB w B b cs p v bs) : v.ownBlock ≠ some b := Lib.ownBlock_ne h.own h.heap (by decide)
theorem InB.lt {w : World} {B b : Nat} {cs : Array Value} {p v : Value} {bs : List Value} (h : InB w B b cs p v bs) : b < w.heap.size := lt_of_heap h.heap

set_option maxHeartbeats 1000000 in
set_option maxRecDepth 100000 in
theorem copyCheckE_used (b : Nat) (w : World) (h0 : w.cell? ⟨b, 1, none⟩ = some (.pointer (some ⟨b, 1, none⟩))) :
    Calls Tryd.prog 41 #[.pointer (some ⟨b, 1, none⟩)] w fun e w' => e = .returned (.tuple #[]) ∧ w' = w := by
  obtain ⟨j, hj, _⟩ := Option.map_eq_some_iff.1 sizeBuilderE
  go_enter Tryd.func41, Tryd.ntmps41
  go_wp2
  rw [Lib.run_neq_ptr_same w _ Tryd.underlying48 hj]
  go_wp2
  go_end0
  exact ⟨rfl, rfl⟩

set_option maxHeartbeats 1000000 in
set_option maxRecDepth 100000 in
theorem copyCheckE_fresh (b : Nat) (w : World) (h0 : w.cell? ⟨b, 1, none⟩ = some (.pointer none)) (hsh : w.shape? b = some (53, 6)) (hfz : w.frozen? ⟨b, 1, none⟩ = false) :
    Calls Tryd.prog 41 #[.pointer (some ⟨b, 1, none⟩)] w fun e w' => e = .returned (.tuple #[]) ∧ w' = w.setCell ⟨b, 1, none⟩ (.pointer (some ⟨b, 1, none⟩)) := by
  obtain ⟨j, hj, hjs⟩ := Option.map_eq_some_iff.1 sizeBuilderE
  go_enter Tryd.func41, Tryd.ntmps41
  go_wp2
  rw [Lib.run_to_unsafe w ⟨b, 1, none⟩ Tryd.underlying48 Tryd.underlying95 hj (by rw [hjs]; decide) hsh (show 1 < 6 by decide)]
  simp only [Result.andThen]
  rw [Oper.upon_value]
  go_wp2
  rw [run_callFunc_extern Tryd.func59 (by kernel_rfl) (by kernel_rfl) (by kernel_rfl) (e := Extern.AbiNoEscape.same) (by kernel_rfl)]
  rw [Lib.run_noEscape]
  simp only [Result.andThen]
  rw [Oper.upon_value]
  go_wp2
  rw [Lib.run_from_unsafe w ⟨b, 1, none⟩ Tryd.underlying95 Tryd.underlying48 hj hsh liesBuilderE]
  simp only [Result.andThen]
  rw [Oper.upon_value]
  go_wp2
  go_end0
  exact ⟨rfl, rfl⟩

/-- the struct's cells behind a write -/
def wroteB (b : Nat) (cs : Array Value) (v' : Value) : Array Value := (cs.setIfInBounds 1 (.pointer (some ⟨b, 1, none⟩))).setIfInBounds 2 v'

theorem copyCheckE_any {w : World} {B b : Nat} {cs : Array Value} {p v : Value} {bs : List Value} (h : InB w B b cs p v bs) :
    Calls Tryd.prog 41 #[.pointer (some ⟨b, 1, none⟩)] w fun e w' => e = .returned (.tuple #[]) ∧ InB w' B b (cs.setIfInBounds 1 (.pointer (some ⟨b, 1, none⟩))) (.pointer (some ⟨b, 1, none⟩)) v bs ∧ Apart [b] w w' := by
  have hk : 1 < cs.size := by rw [h.size]; decide
  have hs : cs.setIfInBounds 1 (.pointer (some ⟨b, 1, none⟩)) = cs.setIfInBounds 1 (.pointer (some ⟨b, 1, none⟩)) := rfl
  rcases h.ptr with hp | hp
  · have h0 := h.cell0
    rw [hp] at h0
    refine (copyCheckE_fresh b w h0 (by simp [World.shape?, h.heap, h.size]) (by simp [World.frozen?, h.heap])).mono ?_
    rintro e w' ⟨rfl, rfl⟩
    refine ⟨rfl, ⟨h.lo, setCell_heap_same h.heap _ _, by simpa using h.size, by simp [hk], ?_, .inr rfl, ?_⟩, (Apart.refl _ _).setCell _ (.inl (by simp)) _⟩
    · rw [Array.getElem?_setIfInBounds]
      rw [if_neg (by decide)]
      exact h.c1
    · exact h.own.kept (row := some b) ⟨rfl, rfl, rfl, by simp [World.setCell], fun k _ hk => Below.heap_setCell _ _ _ _ (fun e => hk (by simp [e]))⟩ (.inr h.ne)
  · have h0 := h.cell0
    rw [hp] at h0
    refine (copyCheckE_used b w h0).mono ?_
    rintro e w' ⟨rfl, rfl⟩
    have hse : cs.setIfInBounds 1 (.pointer (some ⟨b, 1, none⟩)) = cs := by
      apply Array.ext (by simp)
      intro i h1 h2
      rw [Array.getElem_setIfInBounds]
      split
      · have := h.c0
        rename_i e
        subst e
        rw [Array.getElem?_eq_getElem h2, hp] at this
        exact (Option.some.inj this).symm
      · rfl
    rw [hse]
    exact ⟨rfl, hp ▸ h, Apart.refl _ _⟩

set_option maxHeartbeats 4000000 in
set_option maxRecDepth 100000 in
theorem WriteStringE_any {w : World} {B b : Nat} {cs : Array Value} {p v : Value} {bs : List Value} (s : ByteArray) (h : InB w B b cs p v bs) (hlen : bs.length + s.size ≤ 140737488355328) (hBw : B ≤ w.heap.size) :
    Calls Tryd.prog 31 #[.pointer (some ⟨b, 1, none⟩), .string s] w fun e w' => e = .returned (.tuple #[.int .i64 s.size, .nilIface]) ∧
      ∃ v', InB w' B b (wroteB b cs v') (.pointer (some ⟨b, 1, none⟩)) v' (bs ++ Lib.strCells s) ∧ Apart (b :: v.ownBlock.toList) w w' ∧ Loc w v v' := by
  go_enter Tryd.func31, Tryd.ntmps31
  go_wp2_with fail
  refine (copyCheckE_any h).mono ?_
  rintro e w1 ⟨rfl, h1, ha1⟩
  have c0 := h1.cell0
  have c1 := h1.cell1
  have hsz : w.heap.size ≤ w1.heap.size := ha1.size
  have HA1 := Lib.hid ha1
  have H1 := Lib.hid h1
  have H := Lib.hid h
  clear ha1 h1 h
  go_wp2_with (at_builtin; refine wpList_app_str _ rfl _ _ rfl B _ _ _ rfl H1.out.own s rfl ?c4 ?c5 ?_)
  case c4 => omega
  case c5 => omega
  intro v' w2 hown' hgrow hat
  have hb2 : w2.heap[b]? = some (.cells (cs.setIfInBounds 1 (.pointer (some ⟨b, 1, none⟩))) 53 (0, 0)) := by
    rw [hgrow.block b H1.out.lt (fun e => H1.out.ne e.symm)]
    exact H1.out.heap
  have d0 : w2.cell? ⟨b, 1, none⟩ = some (.pointer (some ⟨b, 1, none⟩)) := (Lib.cell_of_heap hb2 1).trans H1.out.c0
  have d1 : w2.cell? ⟨b, 2, none⟩ = some v := (Lib.cell_of_heap hb2 2).trans H1.out.c1
  have f1 : w2.frozen? ⟨b, 2, none⟩ = false := Lib.frozen_of_heap hb2 2
  have HOWN := Lib.hid hown'
  have HGR := Lib.hid hgrow
  have HAT := Lib.hid hat
  have HB2 := Lib.hid hb2
  obtain ⟨ao, n', cap, rfl⟩ : ∃ ao n' cap, v' = .slice ao n' cap := by
    rcases hown'.2 with ⟨hv, _⟩ | ⟨g, cap, cur, hv, _⟩
    · exact ⟨_, _, _, hv⟩
    · exact ⟨_, _, _, hv⟩
  clear hown' hgrow hat hb2
  go_wp2_with fail
  go_ret2
  have hne2 : Value.ownBlock (.slice ao n' cap) ≠ some b := Lib.ownBlock_ne HOWN.out HB2.out (by decide)
  have hksz : 2 < (cs.setIfInBounds 1 (.pointer (some ⟨b, 1, none⟩))).size := by rw [H1.out.size]; decide
  refine ⟨rfl, _, ⟨H.out.lo, setCell_heap_same HB2.out _ _, by unfold wroteB; rw [Array.size_setIfInBounds]; exact H1.out.size, ?_, by simp only [wroteB]; rw [Array.getElem?_setIfInBounds_self_of_lt hksz], .inr rfl, ?_⟩, ?_, ?_⟩
  · unfold wroteB
    rw [Array.getElem?_setIfInBounds, if_neg (by decide)]
    exact H1.out.c0
  · have hx := HOWN.out
    rw [show (bs ++ Lib.strCells s).length = bs.length + s.size from by simp [Lib.strCells_length]]
    exact hx.kept (row := some b) ⟨rfl, rfl, rfl, by simp [World.setCell], fun k _ hk => Below.heap_setCell _ _ _ _ (fun e => hk (by simp [e]))⟩ (.inr hne2)
  · refine Apart.setCell ?_ _ (.inl (by simp)) _
    exact (HA1.out.more (fun x hx => by simp at hx; simp [hx])).trans (Apart.ofGrown HGR.out) (fun x hx => .inl (List.mem_cons_of_mem _ hx))
  · intro g hg
    rcases HAT.out with e | e
    · exact .inl (e ▸ hg)
    · rw [e] at hg
      cases hg
      exact .inr hsz

theorem InB.slice {w : World} {B b : Nat} {cs : Array Value} {p v : Value} {bs : List Value} (h : InB w B b cs p v bs) : ∃ a cap, v = .slice a bs.length cap := by
  rcases h.own.2 with ⟨rfl, h0⟩ | ⟨g, cap, cur, hv, _⟩
  · exact ⟨none, 0, by rw [h0]⟩
  · exact ⟨_, cap, hv⟩

set_option maxHeartbeats 1000000 in
set_option maxRecDepth 100000 in
theorem LenE_any {w : World} {B b : Nat} {cs : Array Value} {p v : Value} {bs : List Value} (h : InB w B b cs p v bs) :
    Calls Tryd.prog 30 #[.pointer (some ⟨b, 1, none⟩)] w fun e w' => e = .returned (.int .i64 bs.length) ∧ w' = w := by
  have c1 := h.cell1
  obtain ⟨a, cap, rfl⟩ := h.slice
  clear h
  go_enter Tryd.func30, Tryd.ntmps30
  go_wp2
  go_ret
  exact ⟨rfl, rfl⟩

theorem cell_old {w : World} {o : Obj} {a : Addr} (h : a.block < w.heap.size) : (w.alloc o).cell? a = w.cell? a := by
  have e : (w.alloc o).heap[a.block]? = w.heap[a.block]? := heap_alloc_lt w o a.block h
  simp only [World.cell?, e]

set_option maxHeartbeats 4000000 in
set_option maxRecDepth 100000 in
/-- String: what the builder holds; one draw -/
theorem StringE_any {w : World} {B b : Nat} {cs : Array Value} {p v : Value} {l : List UInt8} (h : InB w B b cs p v (Lib.byteCells l)) (hBw : B ≤ w.heap.size) :
    Calls Tryd.prog 19 #[.pointer (some ⟨b, 1, none⟩)] w fun e w' => e = .returned (.string ⟨l.toArray⟩) ∧ ∃ w0, (w0 = w ∨ ∃ o, w0 = w.alloc o) ∧ (w' = w0.drew ∨ ∃ g n, v.ownBlock = some g ∧ w' = w0.drew.freeze ⟨g, 0, none⟩ n) := by
  have c1 : w.drew.cell? ⟨b, 2, none⟩ = some v := h.cell1
  have hlt := h.lt
  have hown := h.own
  clear h
  rw [Lib.byteCells_length] at hown
  have hUS0 : ∀ (W : World) (q : Option Addr), (Builtin.unsafeString_ #[74, 3] 9 #[.pointer q, .int .i64 0]).run Tryd.prog W = .ok (.string .empty) W := fun W q => Lib.run_unsafeString_none W _ _ _ q
  rcases hown.2 with ⟨rfl, h0⟩ | ⟨g, cap, cur, rfl, hbg, hg, hnc, hcm, hcs, htake⟩
  · obtain rfl : l = [] := List.eq_nil_of_length_eq_zero h0
    have hSD : (Builtin.unsafeSliceData_ #[49] 74 #[.slice none 0 0]).run Tryd.prog w.drew = .ok (.pointer none) w.drew := rfl
    go_enter Tryd.func19, Tryd.ntmps19
    go_wp2
    go_region
    all_goals go_wp2
    all_goals go_ret
    all_goals exact ⟨rfl, w, .inl rfl, .inl rfl⟩
  · by_cases hl0 : l = []
    · subst hl0
      by_cases hc0 : cap = 0
      · subst hc0
        have hSD : (Builtin.unsafeSliceData_ #[49] 74 #[.slice (some ⟨g, 0, none⟩) 0 0]).run Tryd.prog w.drew = .ok (.pointer (some ⟨w.drew.heap.size, 0, none⟩)) (w.drew.alloc (.view ⟨g, 0, none⟩ 5)) :=
          Lib.run_unsafeSliceData_zero w.drew _ _ 5 Tryd.underlying74 ⟨g, 0, none⟩ 0 (5, cur.size) (by have hg' : w.drew.heap[g]? = some (.cells cur 5 (0, 0)) := hg; simp [World.shape?, hg'])
        have c2 : (w.drew.alloc (.view ⟨g, 0, none⟩ 5)).cell? ⟨b, 2, none⟩ = some (.slice (some ⟨g, 0, none⟩) 0 0) := (cell_old (w := w.drew) (a := ⟨b, 2, none⟩) hlt).trans c1
        have c3 : (w.alloc (.view ⟨g, 0, none⟩ 5)).drew.cell? ⟨b, 2, none⟩ = some (.slice (some ⟨g, 0, none⟩) 0 0) := c2
        have c0 : w.cell? ⟨b, 2, none⟩ = some (.slice (some ⟨g, 0, none⟩) 0 0) := c1
        go_enter Tryd.func19, Tryd.ntmps19
        go_wp2
        go_region
        all_goals go_wp2
        all_goals go_ret
        all_goals exact ⟨rfl, _, .inr ⟨_, rfl⟩, .inl rfl⟩
      · have hSD : (Builtin.unsafeSliceData_ #[49] 74 #[.slice (some ⟨g, 0, none⟩) 0 cap]).run Tryd.prog w.drew = .ok (.pointer (some ⟨g, 0, none⟩)) w.drew :=
          Lib.run_unsafeSliceData_row _ _ _ _ _ _ hc0
        clear hc0
        go_enter Tryd.func19, Tryd.ntmps19
        go_wp2
        go_region
        all_goals go_wp2
        all_goals go_ret
        all_goals exact ⟨rfl, w, .inl rfl, .inl rfl⟩
    · have hl1 : l.length ≠ 0 := by simpa using hl0
      have hSD : (Builtin.unsafeSliceData_ #[49] 74 #[.slice (some ⟨g, 0, none⟩) l.length cap]).run Tryd.prog w.drew = .ok (.pointer (some ⟨g, 0, none⟩)) w.drew :=
        Lib.run_unsafeSliceData_row _ _ _ _ _ _ (by omega)
      have hUS : (Builtin.unsafeString_ #[74, 3] 9 #[.pointer (some ⟨g, 0, none⟩), .int .i64 l.length]).run Tryd.prog w.drew = .ok (.string ⟨l.toArray⟩) (w.drew.freeze ⟨g, 0, none⟩ l.length) := by
        refine Lib.run_unsafeString_row w.drew 74 3 9 5 Tryd.underlying74 (by kernel_rfl) g cur.size (by have hg' : w.drew.heap[g]? = some (.cells cur 5 (0, 0)) := hg; simp [World.shape?, hg']) l hl0 (by omega) (by unfold maxLen at hcm; omega) ?_
        intro j x hx
        exact hown.cells (g := g) rfl j (.int .u8 x.toNat) (by simp [Lib.byteCells, hx])
      clear hown hcs htake hnc hcm hg hl1 hUS0
      go_enter Tryd.func19, Tryd.ntmps19
      go_wp2
      go_region
      all_goals go_wp2
      all_goals go_ret
      all_goals exact ⟨rfl, w, .inl rfl, .inr ⟨g, _, rfl, rfl⟩⟩

end Go.Proofs.YtmhjfdnpmfhmjaaDoor
