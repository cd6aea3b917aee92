/- Package assoc: an array in memory; what its small methods do. -/
import Derived.Test.YtflbhifdololfaaGreatDoorM1
import Derived.StillTailTactics
import Derived.BigQuiet
namespace Go.Proofs.YtflbhifdololfaaGreatDoor
open Go.RowKit
set_option linter.unusedVariables false

/-- an array: a struct with a map and a clock -/
structure ArrAt (w : World) (p m : Nat) (clk : Int) (es : Array MapEntry) (c : Nat) : Prop where
  cells : w.heap[p]? = some (.cells #[.map (some m), .int .i64 clk] 127 (0, 0))
  map : w.heap[m]? = some (.map es c)

theorem ArrAt.ltp {w : World} {p m : Nat} {clk : Int} {es : Array MapEntry} {c : Nat} (h : ArrAt w p m clk es c) : p < w.heap.size := lt_of_heap h.cells
theorem ArrAt.ltm {w : World} {p m : Nat} {clk : Int} {es : Array MapEntry} {c : Nat} (h : ArrAt w p m clk es c) : m < w.heap.size := lt_of_heap h.map
theorem ArrAt.ne {w : World} {p m : Nat} {clk : Int} {es : Array MapEntry} {c : Nat} (h : ArrAt w p m clk es c) : p ≠ m := by
  intro e; have h1 := h.cells; have h2 := h.map; rw [e, h2] at h1; cases h1
theorem ArrAt.c0 {w : World} {p m : Nat} {clk : Int} {es : Array MapEntry} {c : Nat} (h : ArrAt w p m clk es c) : w.cell? ⟨p, 0, none⟩ = some (.map (some m)) := by
  simp [World.cell?, h.cells]
theorem ArrAt.c1 {w : World} {p m : Nat} {clk : Int} {es : Array MapEntry} {c : Nat} (h : ArrAt w p m clk es c) : w.cell? ⟨p, 1, none⟩ = some (.int .i64 clk) := by
  simp [World.cell?, h.cells]
theorem ArrAt.f {w : World} {p m : Nat} {clk : Int} {es : Array MapEntry} {c : Nat} (h : ArrAt w p m clk es c) (i : Nat) : w.frozen? ⟨p, i, none⟩ = false := by
  simp [World.frozen?, h.cells]
theorem ArrAt.keep {w w' : World} {p m : Nat} {clk : Int} {es : Array MapEntry} {c : Nat} {S : List Nat} (h : ArrAt w p m clk es c) (ha : Apart S w w') (hp : p ∉ S) (hm : m ∉ S) : ArrAt w' p m clk es c :=
  ⟨(ha.block p h.ltp hp).trans h.cells, (ha.block m h.ltm hm).trans h.map⟩
theorem ArrAt.below {w w' : World} {p m : Nat} {clk : Int} {es : Array MapEntry} {c : Nat} (h : ArrAt w p m clk es c) (ha : Below w.heap.size w w') : ArrAt w' p m clk es c :=
  h.keep (Apart.of_below ha []) (by simp) (by simp)

/-- what a lookup finds -/
def fnd (k : ByteArray) (es : List MapEntry) : Option (Option (Nat × Value)) := Instr.findNow .string (.string k) es 0
def zslot : Value := .agg #[.int .i64 0, .int .i64 0, .float .f64 0, .string ⟨#[]⟩, .pointer none]
def slotOf : Option (Nat × Value) → Value
  | some (_, v) => v
  | none => zslot

@[go_sem] theorem run_field_sub (x0 x1 x2 x3 x4 : Value) (w : World) : (Instr.field 129 (.agg #[x0, x1, x2, x3, x4]) 2).run Tryz.prog w = .ok x4 w := by kernel_rfl
theorem undPtr : Tryz.prog.underlying 66 = some (.pointer 127) := by kernel_rfl
theorem infoArr : (Tryz.prog.info? 127).map (·.size) = some 2 := by kernel_rfl
theorem run_equalIn_arr_same (d : Nat) (a : Addr) (w : World) : (Op.equalIn (d + 1) 66 (.pointer (some a)) (.pointer (some a))).run Tryz.prog w = .ok true w := by
  obtain ⟨i, hi, hs⟩ := Option.map_eq_some_iff.1 infoArr
  simp [Op.equalIn, run_underlying undPtr, sizeOf, typeInfo, hi, hs, sameAddr]
@[go_sem] theorem run_eql_arr_same (a : Addr) (w : World) : (binOp .eql 66 (.pointer (some a)) (.pointer (some a))).run Tryz.prog w = .ok (.bool true) w := by
  simp only [binOp]
  simp [Op.equal, Op.maxDepth, run_equalIn_arr_same 9999 a w]
theorem undMap : Tryz.prog.underlying 125 = some (.map 9 129) := by kernel_rfl
theorem undStrA : Tryz.prog.underlying 9 = some .string := by kernel_rfl

theorem run_checkKey_str (b : Bool) (n : Nat) (k : ByteArray) (w : World) : (Instr.checkKey b (n + 1) 9 (.string k)).run Tryz.prog w = .ok () w := by
  simp [Instr.checkKey, run_underlying undStrA]

theorem run_lookup (w : World) (m : Nat) (es : Array MapEntry) (c : Nat) (k : ByteArray) (r : Option (Nat × Value)) (ok : Bool)
    (hm : w.heap[m]? = some (.map es c)) (hf : fnd k es.toList = some r) :
    (Instr.lookup 125 (.map (some m)) (.string k) ok).run Tryz.prog w = .ok (if ok then .tuple #[slotOf r, .bool r.isSome] else slotOf r) w := by
  unfold fnd at hf
  unfold Instr.lookup
  have hc := run_checkKey_str es.isEmpty 9999 k w
  simp only [show (9999 + 1) = 10000 from rfl] at hc
  cases r with
  | none => simp [run_underlying undMap, getObj, Sem.run, hm, hc, run_underlying undStrA, Instr.findKey, hf, slotOf, zslot]
  | some x => simp [run_underlying undMap, getObj, Sem.run, hm, hc, run_underlying undStrA, Instr.findKey, hf, slotOf]

theorem wpList_lk (w : World) {ops : Array Oper} {rest : List Oper} {o : Oper} {a : Act} {Q : Exit → Act → World → Prop}
    (hg : o.guard = none) (x y : Operand) (hop : o.op = Op.lookup 125 x y true) (m : Nat) (es : Array MapEntry) (c : Nat) (k : ByteArray) (r : Option (Nat × Value)) (v : Value)
    (hx : a.eval x = .map (some m)) (hy : a.eval y = .string k) (hm : w.heap[m]? = some (.map es c)) (hf : fnd k es.toList = some r) (hv : slotOf r = v)
    (hK : wpList Tryz.prog ops Q rest (a.put o.dst (.tuple #[v, .bool r.isSome])) w) :
    wpList Tryz.prog ops Q (o :: rest) a w := by
  refine wpList_plain hg fun K' hK' => ?_
  unfold Oper.wp
  simp [execOp, hop, hx, hy, run_lookup w m es c k r true hm hf, Result.andThen, hv]
  exact hK' _ _ hK

theorem wpList_lk1 (w : World) {ops : Array Oper} {rest : List Oper} {o : Oper} {a : Act} {Q : Exit → Act → World → Prop}
    (hg : o.guard = none) (x y : Operand) (hop : o.op = Op.lookup 125 x y false) (m : Nat) (es : Array MapEntry) (c : Nat) (k : ByteArray) (r : Option (Nat × Value)) (v : Value)
    (hx : a.eval x = .map (some m)) (hy : a.eval y = .string k) (hm : w.heap[m]? = some (.map es c)) (hf : fnd k es.toList = some r) (hv : slotOf r = v)
    (hK : wpList Tryz.prog ops Q rest (a.put o.dst v) w) :
    wpList Tryz.prog ops Q (o :: rest) a w := by
  refine wpList_plain hg fun K' hK' => ?_
  unfold Oper.wp
  simp [execOp, hop, hx, hy, run_lookup w m es c k r false hm hf, Result.andThen, hv]
  exact hK' _ _ hK

theorem run_update_new (w : World) (m : Nat) (es : Array MapEntry) (c : Nat) (k : ByteArray) (v : Value)
    (hm : w.heap[m]? = some (.map es c)) (hf : fnd k es.toList = some none) :
    (Instr.mapUpdate 125 (.map (some m)) (.string k) v).run Tryz.prog w = .ok () (w.setObj' m (.map (es.push ⟨.string k, v, c⟩) (c + 1))) := by
  unfold fnd at hf
  unfold Instr.mapUpdate
  have hc := run_checkKey_str false 9999 k w
  simp only [show (9999 + 1) = 10000 from rfl] at hc
  simp [run_underlying undMap, getObj, setObj, Sem.run, hm, hc, run_underlying undStrA, Instr.findKey, hf, World.setObj']

theorem wpList_up (w : World) {ops : Array Oper} {rest : List Oper} {o : Oper} {a : Act} {Q : Exit → Act → World → Prop}
    (hg : o.guard = none) (x y z : Operand) (hop : o.op = Op.mapUpdate 125 x y z) (m : Nat) (es : Array MapEntry) (c : Nat) (k : ByteArray) (v : Value)
    (hx : a.eval x = .map (some m)) (hy : a.eval y = .string k) (hz : a.eval z = v) (hm : w.heap[m]? = some (.map es c)) (hf : fnd k es.toList = some none)
    (hK : wpList Tryz.prog ops Q rest (a.put o.dst undef) (w.setObj' m (.map (es.push ⟨.string k, v, c⟩) (c + 1)))) :
    wpList Tryz.prog ops Q (o :: rest) a w := by
  refine wpList_plain hg fun K' hK' => ?_
  unfold Oper.wp
  simp [execOp, hop, hx, hy, hz, run_update_new w m es c k v hm hf, Result.andThen]
  exact hK' _ _ hK

set_option maxHeartbeats 400000 in
theorem get_any (p m c : Nat) (clk : Int) (k : ByteArray) (es : Array MapEntry) (r : Option (Nat × Value)) (x0 x1 : Int) (x2 : Nat) (x3 : ByteArray) (x4 : Option Addr) (w : World)
    (hA : ArrAt w p m clk es c) (hf : fnd k es.toList = some r) (hr : slotOf r = .agg #[.int .i64 x0, .int .i64 x1, .float .f64 x2, .string x3, .pointer x4]) :
    Calls Tryz.prog 64 #[.pointer (some ⟨p, 0, none⟩), .string k] w fun e w' =>
      e = .returned (.tuple #[.agg #[.int .i64 x0, .int .i64 x1, .float .f64 x2, .string x3, .pointer x4], .bool r.isSome]) ∧ Below w.heap.size w w' := by
  have hp := hA.ltp
  have hms := hA.ltm
  have h0 := hA.c0
  have Hf := Lib.hid hf
  clear hf
  have Hr := Lib.hid hr
  clear hr
  have Hm := Lib.hid hA.map
  clear hA
  go_enter Tryz.func64, Tryz.ntmps64
  go_wp2_with (at_lookup; refine wpList_lk _ rfl _ _ rfl m es c k r _ rfl rfl ?c1 Hf.out Hr.out ?_)
  case c1 => rw [heap_alloc_lt _ _ _ hms]; exact Hm.out
  exact bodyPost_ret (v := .tuple #[.agg #[.int .i64 x0, .int .i64 x1, .float .f64 x2, .string x3, .pointer x4], .bool r.isSome])
    (by simp [results, Tryz.results64, go_sem]) rfl ⟨rfl, ((Below.refl _ _).alloc (Nat.le_refl _) _).alloc (by simp) _⟩

def kindOf (r : Option (Nat × Value)) (x4 : Option Addr) : Int := if r.isSome then (if x4.isSome then 2 else 1) else 0

set_option maxHeartbeats 400000 in
theorem kind_any (p m c : Nat) (clk : Int) (k : ByteArray) (es : Array MapEntry) (r : Option (Nat × Value)) (x0 x1 : Int) (x2 : Nat) (x3 : ByteArray) (x4 : Option Addr) (w : World)
    (hA : ArrAt w p m clk es c) (hf : fnd k es.toList = some r) (hr : slotOf r = .agg #[.int .i64 x0, .int .i64 x1, .float .f64 x2, .string x3, .pointer x4]) :
    Calls Tryz.prog 31 #[.pointer (some ⟨p, 0, none⟩), .string k] w fun e w' =>
      e = .returned (.int .i64 (kindOf r x4)) ∧ Below w.heap.size w w' := by
  have G := Lib.hid (get_any p m c clk k es r x0 x1 x2 x3 x4 w hA hf hr)
  clear hf hr hA
  rcases hr : r.isSome with _ | _
  · have K := Lib.hid (show kindOf r x4 = 0 by simp [kindOf, hr])
    have Hr := Lib.hid hr
    clear hr
    go_enter Tryz.func31, Tryz.ntmps31
    go_wp2_with (go_at_call 64; refine G.out.mono ?_; rintro e w1 ⟨rfl, hb⟩; rw [Hr.out])
    go_ret
    exact ⟨by rw [K.out]; rfl, hb.alloc hb.size _⟩
  · have Hr := Lib.hid hr
    clear hr
    cases x4 with
    | none =>
      have K := Lib.hid (show kindOf r none = 1 by simp [kindOf, Hr.out])
      go_enter Tryz.func31, Tryz.ntmps31
      go_wp2_with (go_at_call 64; refine G.out.mono ?_; rintro e w1 ⟨rfl, hb⟩; rw [Hr.out])
      go_ret
      exact ⟨by rw [K.out]; rfl, hb.alloc hb.size _⟩
    | some a =>
      have K := Lib.hid (show kindOf r (some a) = 2 by simp [kindOf, Hr.out])
      go_enter Tryz.func31, Tryz.ntmps31
      go_wp2_with (go_at_call 64; refine G.out.mono ?_; rintro e w1 ⟨rfl, hb⟩; rw [Hr.out])
      go_ret
      exact ⟨by rw [K.out]; rfl, hb.alloc hb.size _⟩

theorem new_any (w : World) : Calls Tryz.prog 30 #[] w fun e w' =>
    e = .returned (.pointer (some ⟨w.heap.size + 1, 0, none⟩)) ∧ w' = (w.alloc (.map #[] 0)).alloc (.cells #[.map (some w.heap.size), .int .i64 0] 127) := by
  have hmm := @run_makeMap Tryz.prog
  go_enter Tryz.func30, Tryz.ntmps30
  go_wp2
  go_ret
  exact ⟨rfl, rfl⟩

theorem text_any (s : ByteArray) (w : World) : Calls Tryz.prog 23 #[.string s] w fun e w' =>
    e = .returned (.agg #[.int .i64 2, .float .f64 0, .string s]) ∧ Below w.heap.size w w' := by
  go_enter Tryz.func23, Tryz.ntmps23
  go_wp2
  exact bodyPost_ret (v := .agg #[.int .i64 2, .float .f64 0, .string s]) (by simp [results, Tryz.results23, go_sem]) rfl ⟨rfl, ((Below.refl _ _).alloc (Nat.le_refl _) _)⟩

theorem run_len (w : World) (m : Nat) (es : Array MapEntry) (c : Nat) (hm : w.heap[m]? = some (.map es c)) (T : TypeId) :
    (Builtin.len_ #[125] T #[.map (some m)]).run Tryz.prog w = .ok (.int .i64 es.size) w := by
  simp [Builtin.len_, run_underlying undMap, getObj, Sem.run, hm, goInt]

theorem len_any (p m c : Nat) (clk : Int) (es : Array MapEntry) (w : World) (hA : ArrAt w p m clk es c) :
    Calls Tryz.prog 36 #[.pointer (some ⟨p, 0, none⟩)] w fun e w' => e = .returned (.int .i64 es.size) ∧ w = w' := by
  have hp := hA.ltp
  have h0 := hA.c0
  have hm := run_len w m es c hA.map
  clear hA
  go_enter Tryz.func36, Tryz.ntmps36
  go_wp2
  go_ret
  exact ⟨rfl, rfl⟩


set_option maxRecDepth 100000 in
set_option maxHeartbeats 400000 in
theorem put_new (p m c : Nat) (clk : Int) (k : ByteArray) (es : Array MapEntry) (x0 x1 : Int) (x2 : Nat) (x3 : ByteArray) (x4 : Option Addr) (w : World)
    (hA : ArrAt w p m clk es c) (hf : fnd k es.toList = some none) (hc0 : 0 ≤ clk) (hc1 : clk ≤ 1000000) :
    Calls Tryz.prog 65 #[.pointer (some ⟨p, 0, none⟩), .string k, .agg #[.int .i64 x0, .int .i64 x1, .float .f64 x2, .string x3, .pointer x4]] w fun e w' =>
      e = .returned (.tuple #[]) ∧ ArrAt w' p m (clk + 1) (es.push ⟨.string k, .agg #[.int .i64 (clk + 1), .int .i64 x1, .float .f64 x2, .string x3, .pointer x4], c⟩) (c + 1) ∧ Apart [p, m] w w' := by
  have hp := hA.ltp
  have hms := hA.ltm
  have h0 := hA.c0
  have h1 := hA.c1
  have hz := hA.f 1
  have Hf := Lib.hid hf
  clear hf
  have Hm := Lib.hid hA
  clear hA
  go_enter Tryz.func65, Tryz.ntmps65
  go_wp2_with (at_lookup; refine wpList_lk _ rfl _ _ rfl m es c k none (.agg #[.int .i64 0, .int .i64 0, .float .f64 0, .string ⟨#[]⟩, .pointer none]) rfl rfl ?c1 Hf.out rfl ?_)
  case c1 => rw [heap_alloc_lt _ _ _ hms]; exact Hm.out.map
  generalize hW2 : World.alloc (World.alloc _ _) _ = W2
  have a0 : w.heap.size < ((w.setCell ⟨p, 1, none⟩ (.int .i64 (clk + 1))).alloc (.cells #[.int .i64 (clk + 1), .int .i64 x1, .float .f64 x2, .string x3, .pointer x4] 129)).heap.size := by simp [World.setCell]
  have e0 : W2.cell? ⟨p, 0, none⟩ = some (.map (some m)) := by
    rw [← hW2, World.cell?_alloc_past _ _ _ (by simp [World.setCell]; omega), World.cell?_alloc_past _ _ _ (by simp [World.setCell]; omega), World.cell?_setCell_other _ _ _ _ (by simp)]; exact h0
  have e1 : ∀ i, W2.cell? ⟨w.heap.size, i, none⟩ = #[Value.int .i64 (clk + 1), .int .i64 x1, .float .f64 x2, .string x3, .pointer x4][i]? := by
    intro i
    rw [← hW2, World.cell?_alloc_past _ _ _ a0, World.cell?_alloc_at _ _ _ _ (by simp [World.setCell])]
  have e2 : W2.heap[m]? = some (.map es c) := by
    rw [← hW2, heap_alloc_lt _ _ _ (by simp [World.setCell]; omega), heap_alloc_lt _ _ _ (by simp [World.setCell]; omega), Below.heap_setCell _ _ _ _ (by have := Hm.out.ne; simp; omega)]; exact Hm.out.map
  have e3 : W2.heap[p]? = some (.cells #[.map (some m), .int .i64 (clk + 1)] 127 (0, 0)) := by
    rw [← hW2, heap_alloc_lt _ _ _ (by simp [World.setCell]; omega), heap_alloc_lt _ _ _ (by simp [World.setCell]; omega)]
    rw [setCell_heap_same Hm.out.cells]; rfl
  have e4 : Apart [p, m] w W2 := by
    rw [← hW2]; exact (((Apart.refl _ w).setCell ⟨p, 1, none⟩ (by simp) _).alloc _).alloc _
  have E2 := Lib.hid e2; have E3 := Lib.hid e3; have E4 := Lib.hid e4
  clear hW2 a0 e2 e3 e4 h0 h1 hz
  have e10 := e1 0; have e11 := e1 1; have e12 := e1 2; have e13 := e1 3; have e14 := e1 4
  clear e1
  simp at e10 e11 e12 e13 e14
  go_still_tail 6, (by kernel_rfl)
  change wpList _ _ _ _ _ W2.drew
  go_wp2_with (at_mapUpdate; refine wpList_up _ rfl _ _ _ rfl m es c k _ rfl rfl rfl ?c2 Hf.out ?_)
  case c2 => exact E2.out
  go_end0
  refine ⟨rfl, ⟨?_, ?_⟩, (E4.out.drew).setObj' m (by simp) _⟩
  · rw [setObj'_other _ _ _ _ Hm.out.ne]; exact E3.out
  · exact setObj'_same _ _ _ (lt_of_heap E2.out)

/-- Set of a new key -/
theorem set_new (p m c : Nat) (clk : Int) (k : ByteArray) (es : Array MapEntry) (x1 : Int) (x2 : Nat) (x3 : ByteArray) (w : World)
    (hA : ArrAt w p m clk es c) (hf : fnd k es.toList = some none) (hc0 : 0 ≤ clk) (hc1 : clk ≤ 1000000) :
    Calls Tryz.prog 32 #[.pointer (some ⟨p, 0, none⟩), .string k, .agg #[.int .i64 x1, .float .f64 x2, .string x3]] w fun e w' =>
      e = .returned (.int .i64 0) ∧ ArrAt w' p m (clk + 1) (es.push ⟨.string k, .agg #[.int .i64 (clk + 1), .int .i64 x1, .float .f64 x2, .string x3, .pointer none], c⟩) (c + 1) ∧ Apart [p, m] w w' := by
  have HA := Lib.hid hA
  have Hf := Lib.hid hf
  have Hc : Hid (0 ≤ clk ∧ clk ≤ 1000000) := ⟨hc0, hc1⟩
  clear hA hf hc0 hc1
  go_enter Tryz.func32, Tryz.ntmps32
  go_wp2_with fail
  all_goals (first | (refine (kind_any p m c clk k es none 0 0 0 ⟨#[]⟩ none _ (HA.out.keep ((Apart.refl [] w).alloc _) (by simp) (by simp)) Hf.out rfl).mono ?_) | skip)
  rintro e w1 ⟨rfl, hb⟩
  rw [show kindOf none none = 0 from rfl]
  have hb' : Below w.heap.size w w1 := (((Below.refl _ _).alloc (Nat.le_refl _) _).trans (hb.mono (by simp)))
  obtain ⟨e10, e11, e12, hz1⟩ : w1.cell? ⟨w.heap.size, 0, none⟩ = some (.int .i64 x1) ∧ w1.cell? ⟨w.heap.size, 1, none⟩ = some (.float .f64 x2) ∧ w1.cell? ⟨w.heap.size, 2, none⟩ = some (.string x3) ∧ w.heap.size < w1.heap.size := by
    refine ⟨?_, ?_, ?_, ?_⟩
    · rw [hb.cell (by simp)]; simp [go_sem]
    · rw [hb.cell (by simp)]; simp [go_sem]
    · rw [hb.cell (by simp)]; simp [go_sem]
    · have := hb.size; simp at this; omega
  have HB := Lib.hid hb'
  clear hb hb'
  go_wp2_with fail
  refine (put_new p m c clk k es 0 x1 x2 x3 none _ (HA.out.below HB.out) Hf.out Hc.out.1 Hc.out.2).mono ?_
  rintro e w2 ⟨rfl, hA2, hap⟩
  have HA2 := Lib.hid hA2
  have HP := Lib.hid hap
  clear hA2 hap
  go_wp2_with fail
  go_ret
  exact ⟨rfl, HA2.out, (Apart.of_below HB.out [p, m]).trans HP.out (by simp)⟩


/-- Set where an array is -/
theorem set_arr (p m c i : Nat) (clk : Int) (k : ByteArray) (es : Array MapEntry) (x0 x1 : Int) (x2 : Nat) (x3 : ByteArray) (a : Addr) (y1 : Int) (y2 : Nat) (y3 : ByteArray) (w : World)
    (hA : ArrAt w p m clk es c) (hf : fnd k es.toList = some (some (i, .agg #[.int .i64 x0, .int .i64 x1, .float .f64 x2, .string x3, .pointer (some a)]))) :
    Calls Tryz.prog 32 #[.pointer (some ⟨p, 0, none⟩), .string k, .agg #[.int .i64 y1, .float .f64 y2, .string y3]] w fun e w' =>
      e = .returned (.int .i64 80) ∧ Below w.heap.size w w' := by
  have HA := Lib.hid hA
  have Hf := Lib.hid hf
  clear hA hf
  go_enter Tryz.func32, Tryz.ntmps32
  go_wp2_with fail
  refine (kind_any p m c clk k es _ x0 x1 x2 x3 (some a) _ (HA.out.keep ((Apart.refl [] w).alloc _) (by simp) (by simp)) Hf.out rfl).mono ?_
  rintro e w1 ⟨rfl, hb⟩
  rw [show kindOf _ (some a) = 2 from rfl]
  have hb' : Below w.heap.size w w1 := (((Below.refl _ _).alloc (Nat.le_refl _) _).trans (hb.mono (by simp)))
  have HB := Lib.hid hb'
  clear hb hb'
  go_wp2_with fail
  go_ret
  exact ⟨rfl, HB.out⟩

/-- Sub of a new key -/
theorem sub_new (p m c : Nat) (clk : Int) (k : ByteArray) (es : Array MapEntry) (w : World)
    (hA : ArrAt w p m clk es c) (hf : fnd k es.toList = some none) (hf2 : ∀ v, fnd k (es.push ⟨.string k, v, c⟩).toList = some (some (es.size, v))) (hc0 : 0 ≤ clk) (hc1 : clk ≤ 1000000) :
    Calls Tryz.prog 63 #[.pointer (some ⟨p, 0, none⟩), .string k] w fun e w' => ∃ q m',
      e = .returned (.tuple #[.pointer (some ⟨q, 0, none⟩), .int .i64 0]) ∧
      ArrAt w' p m (clk + 1) (es.push ⟨.string k, .agg #[.int .i64 (clk + 1), .int .i64 0, .float .f64 0, .string ⟨#[]⟩, .pointer (some ⟨q, 0, none⟩)], c⟩) (c + 1) ∧
      ArrAt w' q m' 0 #[] 0 ∧ w.heap.size ≤ q ∧ w.heap.size ≤ m' ∧ Apart [p, m] w w' := by
  have HA := Lib.hid hA
  have Hf := Lib.hid hf
  have Hf2 := Lib.hid hf2
  have Hc : Hid (0 ≤ clk ∧ clk ≤ 1000000) := ⟨hc0, hc1⟩
  clear hA hf hf2 hc0 hc1
  go_enter Tryz.func63, Tryz.ntmps63
  go_wp2_with fail
  refine (kind_any p m c clk k es none 0 0 0 ⟨#[]⟩ none _ HA.out Hf.out rfl).mono ?_
  rintro e w1 ⟨rfl, hb⟩
  rw [show kindOf none none = 0 from rfl]
  have HA1 := Lib.hid (HA.out.below hb)
  have HB := Lib.hid hb
  clear hb
  go_wp2_with fail
  refine (kind_any p m c clk k es none 0 0 0 ⟨#[]⟩ none _ HA1.out Hf.out rfl).mono ?_
  rintro e w2 ⟨rfl, hb⟩
  rw [show kindOf none none = 0 from rfl]
  have HA2 := Lib.hid (HA1.out.below hb)
  have HB2 := Lib.hid (HB.out.trans (hb.mono HB.out.size))
  clear hb HA1 HB
  go_wp2_with fail
  refine (new_any _).mono ?_
  rintro e w3 ⟨rfl, hw⟩
  have hB3 : Below w.heap.size w w3 := by
    rw [hw]; exact (HB2.out.alloc HB2.out.size _).alloc (by have := HB2.out.size; simp; omega) _
  have hN : ArrAt w3 (w2.heap.size + 1) w2.heap.size 0 #[] 0 := by
    rw [hw]; exact ⟨by rw [show w2.heap.size + 1 = (w2.alloc (.map #[] 0)).heap.size by simp, heap_alloc_at], by rw [heap_alloc_lt _ _ _ (by simp), heap_alloc_at]⟩
  have hA3 : ArrAt w3 p m clk es c := HA2.out.keep (by rw [hw]; exact ((Apart.refl [] w2).alloc _).alloc _) (by simp) (by simp)
  have hs2 := HB2.out.size
  have HA3 := Lib.hid hA3
  have HN := Lib.hid hN
  have HB3 := Lib.hid hB3
  clear hw hA3 hN hB3 HA2 HB2
  go_wp2_with fail
  refine (put_new p m c clk k es 0 0 0 ⟨#[]⟩ (some ⟨w2.heap.size + 1, 0, none⟩) _ HA3.out Hf.out Hc.out.1 Hc.out.2).mono ?_
  rintro e w4 ⟨rfl, hA4, hap⟩
  have hp4 := hA4.ltp
  have h04 := hA4.c0
  have hne : ∀ x, x ∈ [p, m] → x < w.heap.size := by
    intro x hx; simp at hx; rcases hx with rfl | rfl
    · exact HA.out.ltp
    · exact HA.out.ltm
  have HNE := Lib.hid hne
  have HA4 := Lib.hid hA4
  have HP4 := Lib.hid hap
  clear hA4 hap hne
  go_wp2_with (at_lookup; refine wpList_lk1 _ rfl _ _ rfl m _ _ k _ (.agg #[.int .i64 (clk + 1), .int .i64 0, .float .f64 0, .string ⟨#[]⟩, .pointer (some ⟨w2.heap.size + 1, 0, none⟩)]) rfl rfl HA4.out.map (Hf2.out _) rfl ?_)
  go_ret2
  refine ⟨_, w2.heap.size, rfl, HA4.out, HN.out.keep HP4.out ?_ ?_, by omega, hs2, (Apart.of_below HB3.out _).trans HP4.out (by simp)⟩
  · intro hx; have := HNE.out _ hx; omega
  · intro hx; have := HNE.out _ hx; omega

/-- Sub where an array is -/
theorem sub_arr (p m c i : Nat) (clk : Int) (k : ByteArray) (es : Array MapEntry) (x0 x1 : Int) (x2 : Nat) (x3 : ByteArray) (a : Addr) (w : World)
    (hA : ArrAt w p m clk es c) (hf : fnd k es.toList = some (some (i, .agg #[.int .i64 x0, .int .i64 x1, .float .f64 x2, .string x3, .pointer (some a)]))) :
    Calls Tryz.prog 63 #[.pointer (some ⟨p, 0, none⟩), .string k] w fun e w' =>
      e = .returned (.tuple #[.pointer (some a), .int .i64 0]) ∧ Below w.heap.size w w' := by
  have HA := Lib.hid hA
  have Hf := Lib.hid hf
  clear hA hf
  go_enter Tryz.func63, Tryz.ntmps63
  go_wp2_with fail
  refine (kind_any p m c clk k es _ x0 x1 x2 x3 (some a) _ HA.out Hf.out rfl).mono ?_
  rintro e w1 ⟨rfl, hb⟩
  rw [show kindOf _ (some a) = 2 from rfl]
  have HA1 := Lib.hid (HA.out.below hb)
  have HB := Lib.hid hb
  clear hb
  go_wp2_with fail
  refine (kind_any p m c clk k es _ x0 x1 x2 x3 (some a) _ HA1.out Hf.out rfl).mono ?_
  rintro e w2 ⟨rfl, hb⟩
  rw [show kindOf _ (some a) = 2 from rfl]
  have hA2 := (HA1.out.below hb)
  have hp4 := hA2.ltp
  have h04 := hA2.c0
  have HA2 := Lib.hid hA2
  have HB2 := Lib.hid (HB.out.trans (hb.mono HB.out.size))
  clear hb HA1 HB hA2
  go_wp2_with (at_lookup; refine wpList_lk1 _ rfl _ _ rfl m _ _ k _ (.agg #[.int .i64 x0, .int .i64 x1, .float .f64 x2, .string x3, .pointer (some a)]) rfl rfl HA2.out.map Hf.out rfl ?_)
  go_ret2
  exact ⟨rfl, HB2.out⟩

/-- Sub where a value is -/
theorem sub_val (p m c i : Nat) (clk : Int) (k : ByteArray) (es : Array MapEntry) (x0 x1 : Int) (x2 : Nat) (x3 : ByteArray) (w : World)
    (hA : ArrAt w p m clk es c) (hf : fnd k es.toList = some (some (i, .agg #[.int .i64 x0, .int .i64 x1, .float .f64 x2, .string x3, .pointer none]))) :
    Calls Tryz.prog 63 #[.pointer (some ⟨p, 0, none⟩), .string k] w fun e w' =>
      e = .returned (.tuple #[.pointer none, .int .i64 80]) ∧ Below w.heap.size w w' := by
  have HA := Lib.hid hA
  have Hf := Lib.hid hf
  clear hA hf
  go_enter Tryz.func63, Tryz.ntmps63
  go_wp2_with fail
  refine (kind_any p m c clk k es _ x0 x1 x2 x3 none _ HA.out Hf.out rfl).mono ?_
  rintro e w1 ⟨rfl, hb⟩
  rw [show kindOf _ none = 1 from rfl]
  have HB := Lib.hid hb
  clear hb
  go_wp2_with fail
  go_ret2
  exact ⟨rfl, HB.out⟩

theorem of_any (n : Nat) (w : World) : Calls Tryz.prog 52 #[.float .f64 n] w fun e w' =>
    e = .returned (.agg #[.int .i64 1, .float .f64 n, .string ⟨#[]⟩]) ∧ Below w.heap.size w w' := by
  go_enter Tryz.func52, Tryz.ntmps52
  go_wp2
  exact bodyPost_ret (v := .agg #[.int .i64 1, .float .f64 n, .string ⟨#[]⟩]) (by simp [results, Tryz.results52, go_sem]) rfl ⟨rfl, ((Below.refl _ _).alloc (Nat.le_refl _) _)⟩

end Go.Proofs.YtflbhifdololfaaGreatDoor
