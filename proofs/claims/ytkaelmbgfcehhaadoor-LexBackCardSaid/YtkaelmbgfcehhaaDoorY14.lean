/- Package lex: Scan. -/
import Derived.Test.YtkaelmbgfcehhaaDoorY13
import Derived.Test.YtkaelmbgfcehhaaDoorM5
import Derived.Test.YtkaelmbgfcehhaaDoorX6
import Derived.Defers
import Derived.Recover
set_option linter.unusedVariables false
set_option linter.unusedSimpArgs false
namespace Go.Proofs.YtkaelmbgfcehhaaDoor
open Go.RowKit
set_option linter.unusedVariables false
set_option linter.unusedSimpArgs false

set_option maxHeartbeats 4000000 in
set_option maxRecDepth 1000000 in
/-- the deferred closure where nothing panicked -/
theorem lex_idle (p q r : Addr) (w : World) :
    CallsD Tryd.prog 12 #[.pointer (some p), .pointer (some q), .pointer (some r)] .returning w fun e u' w' => e = .returned (.tuple #[]) ∧ u' = .returning ∧ w' = w := by
  refine callsD_of_wpS Tryd.func12 rfl fun c₀ cs hu => ?_
  apply wpS_seq
  apply wpS_region
  simp [wpOpsS, go_sem, recoverD, hu, Tryd.ntmps12, Exit.thenS]
  refine wpS_of_wp ?_
  go_wp2_with fail
  cases c₀
  simp_all [bodyPostS, results, Tryd.results12]

/-- the three results that the closure lays -/
structure Laid (w : World) (p q r : Nat) (a b c : Value) : Prop where
  p : w.heap[p]? = some (.cells #[a] 26 (0, 0))
  q : w.heap[q]? = some (.cells #[b] 3 (0, 0))
  r : w.heap[r]? = some (.cells #[c] 23 (0, 0))
section
variable {w w' : World} {p q r : Nat} {a b c : Value}
theorem Laid.set (h : Laid w p q r a b c) (hpq : p ≠ q) (hpr : p ≠ r) (hqr : q ≠ r) (x y z : Value) :
    Laid (((w.setCell ⟨p, 0, none⟩ x).setCell ⟨q, 0, none⟩ y).setCell ⟨r, 0, none⟩ z) p q r x y z := by
  have o : ∀ (W : World) (k b i : Nat) (v : Value), k ≠ b → (W.setCell ⟨b, i, none⟩ v).heap[k]? = W.heap[k]? := fun W k b i v hk => Below.heap_setCell _ _ _ _ hk
  generalize hW1 : w.setCell ⟨p, 0, none⟩ x = W1
  generalize hW2 : W1.setCell ⟨q, 0, none⟩ y = W2
  generalize hW3 : W2.setCell ⟨r, 0, none⟩ z = W3
  have p1 : W1.heap[p]? = some (.cells #[x] 26 (0, 0)) := hW1 ▸ setCell_heap_same h.p 0 x
  have q1 : W1.heap[q]? = some (.cells #[b] 3 (0, 0)) := hW1 ▸ (o w q p 0 x hpq.symm).trans h.q
  have r1 : W1.heap[r]? = some (.cells #[c] 23 (0, 0)) := hW1 ▸ (o w r p 0 x hpr.symm).trans h.r
  have p2 : W2.heap[p]? = some (.cells #[x] 26 (0, 0)) := hW2 ▸ (o W1 p q 0 y hpq).trans p1
  have q2 : W2.heap[q]? = some (.cells #[y] 3 (0, 0)) := hW2 ▸ setCell_heap_same q1 0 y
  have r2 : W2.heap[r]? = some (.cells #[c] 23 (0, 0)) := hW2 ▸ (o W1 r q 0 y hqr.symm).trans r1
  exact ⟨hW3 ▸ (o W2 p r 0 z hpr).trans p2, hW3 ▸ (o W2 q r 0 z hqr).trans q2, hW3 ▸ setCell_heap_same r2 0 z⟩
theorem Laid.below {D : Nat} (h : Laid w p q r a b c) (hb : Below D w w') (hp : p < D) (hq : q < D) (hr : r < D) : Laid w' p q r a b c := ⟨(hb.block p hp).trans h.p, (hb.block q hq).trans h.q, (hb.block r hr).trans h.r⟩
theorem Laid.p0 (h : Laid w p q r a b c) : w.cell? ⟨p, 0, none⟩ = some a := by rw [Lib.cell_of_heap h.p]; rfl
theorem Laid.q0 (h : Laid w p q r a b c) : w.cell? ⟨q, 0, none⟩ = some b := by rw [Lib.cell_of_heap h.q]; rfl
theorem Laid.r0 (h : Laid w p q r a b c) : w.cell? ⟨r, 0, none⟩ = some c := by rw [Lib.cell_of_heap h.r]; rfl
theorem Laid.pf (h : Laid w p q r a b c) : w.frozen? ⟨p, 0, none⟩ = false := Lib.frozen_of_heap h.p 0
theorem Laid.qf (h : Laid w p q r a b c) : w.frozen? ⟨q, 0, none⟩ = false := Lib.frozen_of_heap h.q 0
theorem Laid.rf (h : Laid w p q r a b c) : w.frozen? ⟨r, 0, none⟩ = false := Lib.frozen_of_heap h.r 0
end

set_option maxHeartbeats 8000000 in
set_option maxRecDepth 1000000 in
/-- the deferred closure where the scanner gave up -/
theorem lex_fault (D p q r n c : Nat) (a0 b0 c0 : Value) (w : World) (hL : Laid w p q r a0 b0 c0) (hpq : p ≠ q) (hpr : p ≠ r) (hqr : q ≠ r) (hp : D ≤ p) (hq : D ≤ q) (hr : D ≤ r) :
    CallsD Tryd.prog 12 #[.pointer (some ⟨p, 0, none⟩), .pointer (some ⟨q, 0, none⟩), .pointer (some ⟨r, 0, none⟩)] (.panicking [{ v := lexF n c, recovered := false }]) w fun e u' w' => e = .returned (.tuple #[]) ∧ u' = .panicking [{ v := lexF n c, recovered := true }] ∧
      Laid w' p q r (.slice none 0 0) (.int .i64 (n : Int)) (.int .i64 (c : Int)) ∧ Below D w w' := by
  have hta : ∀ (x : Array Value) (w : World), (Instr.typeAssert (.iface 38 (.agg x)) 20 38 true).run Tryd.prog w = .ok (.tuple #[.agg x, .bool true]) w := fun _ _ => rfl
  have hpl := lt_of_heap hL.p
  have hql := lt_of_heap hL.q
  have hrl := lt_of_heap hL.r
  have HD := Lib.hid (show D ≤ p ∧ D ≤ q ∧ D ≤ r from ⟨hp, hq, hr⟩)
  obtain ⟨w1, hw1⟩ : ∃ w1, w1 = w.alloc (.cells #[.int .i64 (n : Int), .int .i64 (c : Int)] 38) := ⟨_, rfl⟩
  have HB1 : Hid (Below D w w1) := hw1 ▸ ((Below.refl D w).alloc (by omega) _)
  have hF : w1.heap[w.heap.size]? = some (.cells #[.int .i64 (n : Int), .int .i64 (c : Int)] 38 (0, 0)) := hw1 ▸ heap_alloc_at w _
  have HL1 : Hid (Laid w1 p q r a0 b0 c0) := ⟨by rw [hw1, heap_alloc_lt _ _ _ hpl]; exact hL.p, by rw [hw1, heap_alloc_lt _ _ _ hql]; exact hL.q, by rw [hw1, heap_alloc_lt _ _ _ hrl]; exact hL.r⟩
  have hFp : w.heap.size ≠ p := by omega
  have hFq : w.heap.size ≠ q := by omega
  have hFr : w.heap.size ≠ r := by omega
  have x0 : w1.cell? ⟨w.heap.size, 0, none⟩ = some (.int .i64 (n : Int)) := by rw [Lib.cell_of_heap hF]; rfl
  have x1 : w1.cell? ⟨w.heap.size, 1, none⟩ = some (.int .i64 (c : Int)) := by rw [Lib.cell_of_heap hF]; rfl
  have p0 := HL1.out.p0
  have q0 := HL1.out.q0
  have r0 := HL1.out.r0
  have pf := HL1.out.pf
  have qf := HL1.out.qf
  have rf := HL1.out.rf
  have HE : Hid (Laid ((((w1.setCell ⟨p, 0, none⟩ (.slice none 0 0)).setCell ⟨q, 0, none⟩ (.int .i64 (n : Int))).setCell ⟨r, 0, none⟩ (.int .i64 (c : Int))).drew) p q r (.slice none 0 0) (.int .i64 (n : Int)) (.int .i64 (c : Int)) ∧
      Below D w ((((w1.setCell ⟨p, 0, none⟩ (.slice none 0 0)).setCell ⟨q, 0, none⟩ (.int .i64 (n : Int))).setCell ⟨r, 0, none⟩ (.int .i64 (c : Int))).drew)) := by
    have h1 := HL1.out.set hpq hpr hqr (.slice none 0 0) (.int .i64 (n : Int)) (.int .i64 (c : Int))
    exact ⟨⟨h1.p, h1.q, h1.r⟩, (((HB1.out.setCell (p := ⟨p, 0, none⟩) hp _).setCell (p := ⟨q, 0, none⟩) hq _).setCell (p := ⟨r, 0, none⟩) hr _).drew⟩
  generalize hFF : w.heap.size = F at *
  clear hL hF hp hq hr hpl hql hrl
  have hqp := hpq.symm
  have hrp := hpr.symm
  have hrq := hqr.symm
  have hpF := hFp.symm
  have hqF := hFq.symm
  have hrF := hFr.symm
  refine callsD_of_wpS Tryd.func12 rfl fun cc cs hu => ?_
  apply wpS_seq
  apply wpS_region
  unfold lexF at *
  simp [wpOpsS, go_sem, recoverD, hu, Tryd.ntmps12, Exit.thenS]
  refine wpS_of_wp ?_
  go_wp2_with fail
  rw [← hw1]
  clear hw1
  go_region
  all_goals simp only [Exit.inBlock]
  all_goals show bodyPostS Tryd.prog Tryd.f12 cc cs _ Exit.normal _ _ _
  all_goals (cases cc; simp_all [bodyPostS, results, Tryd.results12])
  all_goals exact HE.out

/-- what Scan answers -/
def ScanE (w : World) (r : Except (Nat × Nat) (List TokT)) (e : Ending) (w' : World) : Prop := match r with
  | .ok L => ∃ lv, e = .returned (.tuple #[lv, .int .i64 0, .int .i64 0]) ∧ w'.ownsRow w.heap.size 32 4 lv L.length (cellsK L) ∧ Below w.heap.size w w'
  | .error (ln, er) => e = .returned (.tuple #[.slice none 0 0, .int .i64 (ln : Int), .int .i64 (er : Int)]) ∧ Below w.heap.size w w'
theorem more_eq (toks : List TokT) (line : Nat) (tok : Option (Nat × List UInt8 × Nat)) : (match tok with
        | none => toks
        | some (kd, t, x) => toks ++ [(kd, t, x, line)]) = moreT toks line tok := by cases tok <;> rfl
theorem more_len (toks : List TokT) (line : Nat) (tok : Option (Nat × List UInt8 × Nat)) : (moreT toks line tok).length ≤ toks.length + 1 := by
  cases tok with
  | none => show toks.length ≤ _; omega
  | some q => show (toks ++ [_]).length ≤ _; simp
theorem scanR_step {lit : List UInt8 → Nat × Nat} {n : Nat} {R : List UInt8} {line : Nat} {toks : List TokT} (hR : R ≠ []) : scanR lit (n + 1) R line toks = match stepR lit R toks.getLast? with
      | .bad e => .error (line, e)
      | .go k l tok => scanR lit n (R.drop k) (line + l) (moreT toks line tok) := by
  rw [scanR, if_neg hR]
  cases stepR lit R toks.getLast? with
  | bad e => rfl
  | go k l tok => cases tok <;> rfl

set_option maxHeartbeats 16000000 in
set_option maxRecDepth 1000000 in
theorem scan_any (text : ByteArray) (w : World) (hM : MaxOk w) (hs : text.size ≤ 100000) :
    Calls Tryd.prog 8 #[.string text] w (ScanE w (scanR litL (text.data.toList.length + 1) text.data.toList 1 [])) := by
  obtain ⟨res, hres⟩ : ∃ r, r = scanR litL (text.data.toList.length + 1) text.data.toList 1 [] := ⟨_, rfl⟩
  rw [← hres]
  obtain ⟨ws, hws⟩ : ∃ ws, ws = ((w.alloc (.cells #[.slice none 0 0] 26)).alloc (.cells #[.int .i64 0] 3)).alloc (.cells #[.int .i64 0] 23) := ⟨_, rfl⟩
  have hzs : ws.heap.size = w.heap.size + 1 + 1 + 1 := by rw [hws]; simp
  have hbs : Below w.heap.size w ws := hws ▸ ((((Below.refl _ _).alloc (Nat.le_refl _) _).alloc (by simp) _).alloc (by simp; omega) _)
  obtain ⟨w4, hw4⟩ : ∃ w4, w4 = ws.alloc (.cells #[.string text, .int .i64 0, .int .i64 1, .slice none 0 0] 41) := ⟨_, rfl⟩
  have hb4 : Below ws.heap.size ws w4 := hw4 ▸ (Below.refl _ _).alloc (Nat.le_refl _) _
  have hheap : w4.heap[w.heap.size + 1 + 1 + 1]? = some (.cells #[.string text, .int .i64 0, .int .i64 1, .slice none 0 0] 41 (0, 0)) := by
    rw [hw4, ← hzs]; exact heap_alloc_at ws _
  have HSt : Hid (Sc w4 ws.heap.size (w.heap.size + 1 + 1 + 1) text 0 1 (.slice none 0 0) []) := ⟨by omega, hheap, World.ownsRow_nil w4 _ _ _⟩
  have HL0 : Hid (Laid w4 w.heap.size (w.heap.size + 1) (w.heap.size + 1 + 1) (.slice none 0 0) (.int .i64 0) (.int .i64 0)) := by
    refine ⟨?_, ?_, ?_⟩
    · rw [hw4, hws, heap_alloc_lt _ _ _ (by simp; omega), heap_alloc_lt _ _ _ (by simp; omega), heap_alloc_lt _ _ _ (by simp)]
      exact heap_alloc_at w _
    · rw [hw4, hws, heap_alloc_lt _ _ _ (by simp), heap_alloc_lt _ _ _ (by simp)]
      have h := heap_alloc_at (w.alloc (.cells #[.slice none 0 0] 26)) (.cells #[.int .i64 0] 3)
      rw [show (w.alloc (Obj.cells #[Value.slice none 0 0] 26)).heap.size = w.heap.size + 1 from by simp] at h
      exact h
    · rw [hw4, hws, heap_alloc_lt _ _ _ (by simp)]
      have h := heap_alloc_at ((w.alloc (.cells #[.slice none 0 0] 26)).alloc (.cells #[.int .i64 0] 3)) (.cells #[.int .i64 0] 23)
      rw [show ((w.alloc (Obj.cells #[Value.slice none 0 0] 26)).alloc (Obj.cells #[Value.int .i64 0] 3)).heap.size = w.heap.size + 1 + 1 from by simp] at h
      exact h
  obtain ⟨P, hP⟩ : ∃ P, P = w.heap.size := ⟨_, rfl⟩
  obtain ⟨D, hD⟩ : ∃ D, D = ws.heap.size := ⟨_, rfl⟩
  have hDP : D = P + 1 + 1 + 1 := by omega
  have HM : Hid (MaxOk ws) := hM.below hbs hM.lt
  have hmx : 1 < D := by have := hM.lt; omega
  have HMw : Hid (∀ W, Below D ws W → MaxOk W) := fun W hW => HM.out.below hW hmx
  have HBs : Hid (Below P w ws) := hP ▸ hbs
  have HB4 : Hid (Below D ws w4) := hD ▸ hb4
  rw [← hP, ← hD] at HSt
  rw [← hP] at HL0
  have HZ4 : Hid (D ≤ w4.heap.size) := by rw [hD]; exact hb4.size
  have hmf : ∀ (fn : Fn) (first cap : Array Value) (w : World), (Instr.makeFunc fn first cap).run Tryd.prog w = .ok (.func fn first cap) w := fun _ _ _ _ => rfl
  have hl : text.data.toList.length = text.size := (size_list text).symm
  have HRes : Hid (scanR litL (text.data.toList.length + 1) (text.data.toList.drop 0) 1 [] = res) := by show _ = _; rw [hres, List.drop_zero]
  have HF0 : Hid ((text.data.toList.drop 0).length < text.data.toList.length + 1) := by show _ < _; rw [List.drop_zero]; omega
  have HPw := Lib.hid hP
  have HLl := Lib.hid hl
  clear hM hzs hbs hb4 hheap hres hD hl
  subst hw4
  subst hws
  subst hP
  go_enter_defers Tryd.func8, Tryd.ntmps8
  go_wp2_with fail
  generalize hws : World.alloc (World.alloc (World.alloc w _) _) _ = ws at *
  generalize hw4 : World.alloc ws _ = w4 at *
  go_loopw [] (fun wr => ∃ (m ln f : Nat) (v : Value) (L : List TokT), Hid (Sc wr D (w.heap.size + 1 + 1 + 1) text m ln v L) ∧ Hid (Below D ws wr) ∧ Hid (D ≤ wr.heap.size) ∧ Hid (scanR litL f (text.data.toList.drop m) ln L = res) ∧ Hid ((text.data.toList.drop m).length < f) ∧ m ≤ text.size ∧ Hid (L.length ≤ m) ∧ ln ≤ m + 1) (fun wr => text.size - placeAt wr (w.heap.size + 1 + 1 + 1))
  case atStart => exact ⟨0, 1, _, _, [], HSt, HB4, HZ4, HRes, HF0, Nat.zero_le _, Nat.zero_le _, by omega⟩
  case round =>
    obtain ⟨m, ln, f, v, L, HS, HB, HZ, HR, HF, hm, HLm, hln⟩ := hrel
    have c1 := HS.out.c1
    have HBw : Hid (Below w.heap.size w wr) := HBs.out.trans (HB.out.mono (by omega))
    have HLd : Hid (Laid wr w.heap.size (w.heap.size + 1) (w.heap.size + 1 + 1) (.slice none 0 0) (.int .i64 0) (.int .i64 0)) := by
      have h1 := (HB.out.block w.heap.size (by omega)).trans ((HB4.out.block w.heap.size (by omega)).symm.trans HL0.out.p)
      have h2 := (HB.out.block (w.heap.size + 1) (by omega)).trans ((HB4.out.block (w.heap.size + 1) (by omega)).symm.trans HL0.out.q)
      have h3 := (HB.out.block (w.heap.size + 1 + 1) (by omega)).trans ((HB4.out.block (w.heap.size + 1 + 1) (by omega)).symm.trans HL0.out.r)
      exact ⟨h1, h2, h3⟩
    rcases Nat.lt_or_ge m text.size with hlt | hge
    · have hltI : (m : Int) < (text.size : Int) := by omega
      have hRne : text.data.toList.drop m ≠ [] := fun e => by
        have := congrArg List.length e
        rw [List.length_drop, HLl.out] at this
        simp at this
        omega
      obtain ⟨f', hf'⟩ : ∃ f', f = f' + 1 := ⟨f - 1, by have := HF.out; omega⟩
      subst hf'
      have hR := HR.out
      rw [scanR_step hRne] at hR
      have HTk := Lib.hid (token_any D (w.heap.size + 1 + 1 + 1) text m ln v L wr HS.out hlt hs (by omega) (by have := HLm.out; omega) HZ.out (HMw.out _ HB.out) hmx)
      have hlen : (text.data.toList.drop m).length = text.size - m := by rw [List.length_drop, HLl.out]
      cases hst : stepR litL (text.data.toList.drop m) L.getLast? with
      | bad er =>
        rw [hst] at hR
        have HRn : Hid (res = .error (ln, er)) := hR.symm
        rw [hst] at HTk
        clear hR HR hRne hst hlen
        go_wp2_with fail
        refine HTk.out.mono ?_
        rintro e w5 ⟨rfl, hb5⟩
        have HL5 := Lib.hid (HLd.out.below hb5 (by omega) (by omega) (by omega))
        have HB5 : Hid (Below w.heap.size w w5) := HBw.out.trans (hb5.mono (by omega))
        clear hb5 HTk HLd
        go_wp2_with fail
        refine leaves_cons (f := 12) (args := #[.pointer (some ⟨w.heap.size, 0, none⟩), .pointer (some ⟨w.heap.size + 1, 0, none⟩), .pointer (some ⟨w.heap.size + 1 + 1, 0, none⟩)]) (by simp) (by simp [go_sem]) ?_
        refine (lex_fault w.heap.size w.heap.size (w.heap.size + 1) (w.heap.size + 1 + 1) ln er _ _ _ w5 HL5.out (by omega) (by omega) (by omega) (by omega) (by omega) (by omega)).mono ?_
        rintro e u' w6 ⟨rfl, rfl, hL6, hb6⟩
        have p0 := hL6.p0
        have q0 := hL6.q0
        have r0 := hL6.r0
        simp [Leaves, settle, results, Tryd.results8, go_sem, p0, q0, r0]
        show ScanE w res _ _
        rw [HRn.out]
        exact ⟨rfl, HB5.out.trans hb6⟩
      | go k n tok =>
        rw [hst] at hR
        obtain ⟨g1, g2, g3, g4⟩ := step_lines litL_ok hst
        have hnk : n ≤ k := by
          rw [g3]
          exact Nat.le_trans List.count_le_length (by rw [List.length_take]; omega)
        have HR2 : Hid (scanR litL f' (text.data.toList.drop (m + k)) (ln + n) (moreT L ln tok) = res) := by show _ = _; rw [← List.drop_drop]; exact hR
        have HF2 : Hid ((text.data.toList.drop (m + k)).length < f') := by have := HF.out; show _ < _; rw [List.length_drop, HLl.out]; omega
        have HL2 : Hid ((moreT L ln tok).length ≤ m + k) := by have := HLm.out; have := more_len L ln tok; show _ ≤ _; omega
        have hmk : m + k ≤ text.size := by omega
        have hln2 : ln + n ≤ m + k + 1 := by omega
        have HMk : Hid (text.size - (m + k) < text.size - m) := by show _ < _; omega
        rw [hst] at HTk
        clear hR HR hRne hst hlen g1 g2 g3 g4 hnk
        go_wp2_with fail
        refine HTk.out.mono ?_
        rintro e w5 ⟨rfl, ⟨v', hs5⟩, hb5⟩
        have HS5 := Lib.hid hs5
        have HB5 := Lib.hid (HB.out.trans hb5)
        have HZ5 : Hid (D ≤ w5.heap.size) := Nat.le_trans HZ.out hb5.size
        clear hs5 hb5 HTk HLd
        go_wp2_with fail
        go_roundw
        case rel => exact ⟨m + k, ln + n, f', v', moreT L ln tok, HS5, HB5, HZ5, HR2, HF2, hmk, HL2, hln2⟩
        case measure => rw [HS5.out.place, HS.out.place]; exact HMk.out
    · have hgeI : (text.size : Int) ≤ (m : Int) := by omega
      have HRn : Hid (res = .ok (L ++ [(9, [], 0, ln)])) := by
        have hR := HR.out
        obtain ⟨f', hf'⟩ : ∃ f', f = f' + 1 := ⟨f - 1, by have := HF.out; omega⟩
        rw [hf', List.drop_eq_nil_of_le (by rw [HLl.out]; exact hge), scanR, if_pos rfl] at hR
        exact hR.symm
      have c2 := HS.out.c2
      have hLB : L.length ≤ 1000000000 := by have := HLm.out; omega
      clear HR
      go_wp2_with fail
      refine (add_any D (w.heap.size + 1 + 1 + 1) text m ln v L 9 [] 0 ln wr HS.out hLB).mono ?_
      rintro e w5 ⟨rfl, ⟨v', hs5⟩, hb5⟩
      have HL5 := Lib.hid (HLd.out.below hb5 (by omega) (by omega) (by omega))
      have HB5 : Hid (Below w.heap.size w w5) := HBw.out.trans (hb5.mono (by omega))
      obtain ⟨a1, n1, m1, rfl⟩ := hs5.ownK.slice
      have HO5 := Lib.hid hs5.own
      have c3 := hs5.c3
      have p0 := HL5.out.p0
      have q0 := HL5.out.q0
      have r0 := HL5.out.r0
      have pf := HL5.out.pf
      have qf := HL5.out.qf
      have rf := HL5.out.rf
      have HL6 := Lib.hid (HL5.out.set (by omega) (by omega) (by omega) (.slice a1 n1 m1) (.int .i64 0) (.int .i64 0))
      have HB6 := Lib.hid (((HB5.out.setCell (p := ⟨w.heap.size, 0, none⟩) (Nat.le_refl _) (.slice a1 n1 m1)).setCell (p := ⟨w.heap.size + 1, 0, none⟩) (by show _ ≤ w.heap.size + 1; omega) (.int .i64 0)).setCell (p := ⟨w.heap.size + 1 + 1, 0, none⟩) (by show _ ≤ w.heap.size + 1 + 1; omega) (.int .i64 0))
      have HO6 : Hid ((((w5.setCell ⟨w.heap.size, 0, none⟩ (.slice a1 n1 m1)).setCell ⟨w.heap.size + 1, 0, none⟩ (.int .i64 0)).setCell ⟨w.heap.size + 1 + 1, 0, none⟩ (.int .i64 0)).ownsRow w.heap.size 32 4 (.slice a1 n1 m1) (L ++ [(9, [], 0, ln)]).length (cellsK (L ++ [(9, [], 0, ln)]))) := by
        have h1 := HO5.out
        have h2 : ∀ (W : World) (b : Nat) (u : Value), b < D → W.ownsRow D 32 4 (.slice a1 n1 m1) (L ++ [(9, [], 0, ln)]).length (cellsK (L ++ [(9, [], 0, ln)])) → (W.setCell ⟨b, 0, none⟩ u).ownsRow D 32 4 (.slice a1 n1 m1) (L ++ [(9, [], 0, ln)]).length (cellsK (L ++ [(9, [], 0, ln)])) := fun W b u hb hW =>
          own_keepK hW fun g hg => heap_box u fun e => by have := (hW.lt g hg).1; omega
        have h3 := h2 _ (w.heap.size + 1 + 1) (.int .i64 0) (by omega) (h2 _ (w.heap.size + 1) (.int .i64 0) (by omega) (h2 _ w.heap.size (.slice a1 n1 m1) (by omega) h1))
        refine ⟨h3.1, ?_⟩
        rcases h3.2 with hn | ⟨g, cap, cur, e, hb, rest⟩
        · exact .inl hn
        · exact .inr ⟨g, cap, cur, e, by omega, rest⟩
      have hpq : w.heap.size ≠ w.heap.size + 1 := by omega
      have hpr : w.heap.size ≠ w.heap.size + 1 + 1 := by omega
      have hqr : w.heap.size + 1 ≠ w.heap.size + 1 + 1 := by omega
      clear hs5 hb5 HLd
      go_wp2_with fail
      refine leaves_cons (f := 12) (args := #[.pointer (some ⟨w.heap.size, 0, none⟩), .pointer (some ⟨w.heap.size + 1, 0, none⟩), .pointer (some ⟨w.heap.size + 1 + 1, 0, none⟩)]) (by simp) (by simp [go_sem]) ?_
      refine (lex_idle ⟨w.heap.size, 0, none⟩ ⟨w.heap.size + 1, 0, none⟩ ⟨w.heap.size + 1 + 1, 0, none⟩ _).mono ?_
      rintro e u' w7 ⟨rfl, rfl, rfl⟩
      have p6 := HL6.out.p0
      have q6 := HL6.out.q0
      have r6 := HL6.out.r0
      clear p0 q0 r0 pf qf rf
      simp only [Leaves, settle, results, Tryd.results8]
      simp [go_sem, p6, q6, r6]
      show ScanE w res _ _
      rw [HRn.out]
      exact ⟨_, rfl, HO6.out, HB6.out⟩
end Go.Proofs.YtkaelmbgfcehhaaDoor
