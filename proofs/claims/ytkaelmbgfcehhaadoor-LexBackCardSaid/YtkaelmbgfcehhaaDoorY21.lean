/- Package lex: Quote, Slash. -/
import Derived.Test.YtkaelmbgfcehhaaDoorY9
import Derived.Test.YtkaelmbgfcehhaaDoorX6
import Derived.Maps.AppendAt
namespace Go.Proofs.YtkaelmbgfcehhaaDoor
open Go.RowKit
set_option linter.unusedVariables false
set_option linter.unusedSimpArgs false

section
variable (w : World) {ops : Array Oper} {rest : List Oper} {o : Oper} {a : Act} {Q : Exit → Act → World → Prop}
/-- append of some bytes that lie in a block -/
theorem wpList_appBk (hg : o.guard = none) (s x : Operand) (ho : o.op = .call { callee := .builtin .append, args := #[s, x], argTypes := #[44, 44] })
    (base : Nat) (v : Value) (L : List Nat) (hs : a.eval s = v) (hown : OwnB w base v L) (p : Nat) (ys : List Nat) (hx : a.eval x = .slice (some ⟨p, 0, none⟩) ys.length ys.length) (hc : w.heap[p]? = some (.cells (cellsB ys).toArray 5 (0, 0))) (hy : ∀ y ∈ ys, y < 256)
    (hbase : base ≤ w.heap.size) (hlen : L.length ≤ 1000000000) (hlen2 : ys.length ≤ 1000)
    (hK : ∀ v' w', OwnB w' base v' (L ++ ys) → w.grownBy w' v.ownBlock → (v'.ownBlock = v.ownBlock ∨ v'.ownBlock = some w.heap.size) → wpList Tryd.prog ops Q rest (a.put o.dst v') w') : wpList Tryd.prog ops Q (o :: rest) a w := by
  obtain ⟨i0, hi, hz0, hz1, hz2⟩ := info_parts infoB
  refine wpList_append_own_at w hg s x 44 ho base 5 i0 (.int .u8 0) 1 1 undB hi hz0 hz1 hz2 rfl (by decide) v L.length (cellsB L) hs hown.own ⟨p, 0, none⟩ ys.length ys.length (cellsB ys) hx (by rw [cellsB_length, Nat.mul_one]) ?_ ?_ ?_ ?_ hbase ?_
  · intro j u hj
    have e : ((⟨p, 0, none⟩ : Addr).add j) = ⟨p, j, none⟩ := by rw [Addr.add_lit, Nat.zero_add]
    rw [e, Lib.cell_of_heap hc]
    simpa using hj
  · intro u hu
    simp only [cellsB, List.mem_map] at hu
    obtain ⟨n, _, rfl⟩ := hu
    rfl
  · simp [maxLen]; omega
  · omega
  · intro v' w' ho hgr _ hat
    refine hK v' w' ⟨?_, ?_⟩ hgr hat
    · intro z hz
      rcases List.mem_append.1 hz with hz | hz
      · exact hown.lt z hz
      · exact hy z hz
    · have e : cellsB (L ++ ys) = cellsB L ++ cellsB ys := by simp [cellsB]
      rw [e, List.length_append]; exact ho
end
theorem RowB.new (w : World) (ys : List Nat) (hy : ∀ y ∈ ys, y < 256) (hl : ys.length ≤ 1000) : OwnB (w.alloc (.cells (cellsB ys).toArray 5)) w.heap.size (.slice (some ⟨w.heap.size, 0, none⟩) ys.length ys.length) ys := by
  refine RowB.own (⟨hy, Nat.le_refl _, by omega, _, heap_alloc_at w _, ?_, ?_⟩) (Nat.le_refl _)
  · simp [cellsB]
  · rw [List.toList_toArray, List.take_of_length_le (by rw [cellsB_length]; exact Nat.le_refl _)]
theorem own_other {w : World} {g : Nat} {v v' : Value} (hne : ∀ b, v.ownBlock = some b → b ≠ g) (hg : g < w.heap.size) (h : v'.ownBlock = v.ownBlock ∨ v'.ownBlock = some w.heap.size) : ∀ b, v'.ownBlock = some b → b ≠ g := fun b hb => by
  rcases h with h | h
  · exact hne b (h ▸ hb)
  · rw [h] at hb
    injection hb with hb
    omega
set_option maxHeartbeats 32000000 in
set_option maxRecDepth 100000 in
theorem quote_any (s : ByteArray) (w : World) (hs : s.size ≤ 100000) :
    Calls Tryd.prog 10 #[.string s] w fun e w' => e = .returned (.string (bs (quoteW s.data.toList))) ∧ Below w.heap.size w w' := by
  have HO0 := Lib.hid (RowB.new w [34] (by decide) (by decide))
  have hsl : s.data.toList.length = s.size := (size_list s).symm
  have HSL := Lib.hid hsl
  clear hsl
  go_enter Tryd.func10, Tryd.ntmps10
  go_wp2_with (
    go_loud (refine wpList_bytes _ rfl _ rfl s rfl ?_)
    intro cp0 w2 hlies0 hb0 hz0
    have HLi := Lib.hid hlies0
    have HB2 := Lib.hid hb0
    have HZ2 := Lib.hid hz0
    clear hlies0 hb0 hz0)
  have hz1 : (w.alloc (.cells #[.int .u8 34] 5)).heap.size = w.heap.size + 1 := World.size_alloc _ _
  obtain ⟨M, hM⟩ : ∃ M, M = w.heap.size := ⟨_, rfl⟩
  have hz2 : w2.heap.size = M + 2 := by have := HZ2.out; omega
  have HO2 : Hid (OwnB w2 M (.slice (some ⟨M, 0, none⟩) 1 1) (([34] : List UInt8).map UInt8.toNat)) := by rw [hM]; exact HO0.out.belowM HB2.out
  have HBw : Hid (Below M w w2) := by rw [hM]; exact ((Below.refl _ w).alloc (Nat.le_refl _) _).trans (HB2.out.mono (by omega))
  have HLi2 : Hid (LiesB w2 (M + 1) 0 s.data.toList) := by have h := HLi.out; rw [hz1, ← hM] at h; exact h
  rw [← hM]
  have HM := Lib.hid hM
  clear HO0 HLi HB2 HZ2 hz1 hM
  go_wp2_with fail
  go_loopw [3, 10] (fun ov iv wr => ∃ (i n : Nat) (X : List UInt8) (ao : Option Addr) (cp : Nat), ov = .slice ao n cp ∧ iv = .int .i64 (i : Int) ∧ i ≤ s.size ∧ Hid (X.length = n) ∧ n ≤ 4 * i + 1 ∧ Hid (OwnB wr M (.slice ao n cp) (X.map UInt8.toNat)) ∧ Hid (X = 34 :: (s.data.toList.take i).flatMap quoteB) ∧ Hid (Below M w wr) ∧
      Hid (wr.heap[M + 1]? = w2.heap[M + 1]?) ∧ M + 2 ≤ wr.heap.size ∧ Hid (∀ b, (Value.slice ao n cp).ownBlock = some b → b ≠ M + 1)) (fun _ iv _ => s.size - (intOf iv).toNat)
  case atStart => exact ⟨0, 1, [34], _, 1, rfl, rfl, Nat.zero_le _, rfl, by decide, HO2, (by show [34] = 34 :: (s.data.toList.take 0).flatMap quoteB; rfl), HBw, rfl, by omega, fun b hb => by have h : M = b := (by injection hb); omega⟩
  case round =>
    obtain ⟨i, n, X, ao, cp, rfl, rfl, hi, HX, hn, HO, HXe, HB, HG, hzr, HNe⟩ := hrel
    rcases Nat.lt_or_ge i s.size with hlt | hge
    · have hltI : (i : Int) < (s.size : Int) := by omega
      have htk : s.data.toList.take (i + 1) = s.data.toList.take i ++ [s[i]] := by
        rw [List.take_add_one, List.getElem?_eq_getElem (by have := HSL.out; omega)]
        rfl
      have d0 : wr.cell? ⟨M + 1, i, none⟩ = some (.int .u8 (s[i].toNat : Int)) := by
        have h1 := HLi2.out i (by have := HSL.out; omega)
        rw [Nat.zero_add] at h1
        have h2 : wr.cell? ⟨M + 1, i, none⟩ = w2.cell? ⟨M + 1, i, none⟩ := by unfold World.cell?; rw [HG.out]
        rw [h2, h1, at_list s i hlt _ (List.getElem?_eq_getElem (by have := HSL.out; omega))]
      have HTk : Hid (34 :: (s.data.toList.take (i + 1)).flatMap quoteB = X ++ quoteB s[i]) := by
        show _ = _
        rw [htk, List.flatMap_append, HXe.out]
        simp
      generalize s[i] = c at *
      have hcl := c.toNat_lt
      obtain ⟨i1, hi1⟩ : ∃ i1, i1 = i + 1 := ⟨_, rfl⟩
      have ei : (i : Int) + 1 = (i1 : Int) := by omega
      have eiw := wrapN i1 (by omega)
      have hMr : M ≤ wr.heap.size := by omega
      have hXl : (X.map UInt8.toNat).length ≤ 1000000000 := by rw [List.length_map, HX.out]; omega
      have HI1 : Hid (i1 ≤ s.size ∧ s.size - i1 < s.size - i ∧ n + 4 ≤ 4 * i1 + 1) := ⟨by omega, by omega, by omega⟩
      rw [← hi1] at HTk
      have hcI : ∀ k : UInt8, c ≠ k → ((c.toNat : Int) == (k.toNat : Int)) = false := fun k hk => beq_eq_false_iff_ne.2 (fun e => hk (UInt8.toNat_inj.1 (by omega)))
      have HcI := Lib.hid hcI
      clear htk hi1 hcI
      by_cases h34 : c = 34
      · have HQ : Hid ((quoteB c).map UInt8.toNat = [92, 34]) := by show _ = _; rw [h34]; rfl
        have hcn : c.toNat = 34 := by rw [h34]; rfl
        rw [hcn] at d0
        go_wp2_with (
          at_builtin
          go_loud (refine wpList_appBk _ rfl _ _ rfl M _ (X.map UInt8.toNat) rfl (OwnB.alloc HO.out _) wr.heap.size [92, 34] rfl (heap_alloc_at wr _) (by decide) (by simp; omega) hXl (by simp) ?_)
          intro v1 w3 hown1 hgr1 hat1
          have HOw := Lib.hid hown1
          have HG1 := Lib.hid hgr1
          have HNw := Lib.hid (own_other (g := M + 1) HNe.out (show M + 1 < (wr.alloc _).heap.size by rw [World.size_alloc]; omega) hat1)
          clear hown1 hgr1 hat1)
        go_wp2_with fail
        have HO3 : Hid (OwnB w3 M v1 ((X ++ quoteB c).map UInt8.toNat)) := by
          show OwnB _ _ _ _
          rw [List.map_append, HQ.out]
          exact HOw.out
        obtain ⟨a1, c1, rfl⟩ := HO3.out.form
        have hz3 : M + 2 ≤ w3.heap.size := by have h1 := HG1.out.size; rw [World.size_alloc] at h1; omega
        have HB3 := Lib.hid ((HB.out.alloc hMr _).grown HG1.out (by rw [World.size_alloc]; omega) (fun g e => (HO.out.own.lt g e).1))
        have HG3 : Hid (w3.heap[M + 1]? = w2.heap[M + 1]?) := (HG1.out.block (M + 1) (by rw [World.size_alloc]; omega) (fun e => HNe.out _ e.symm rfl)).trans ((heap_alloc_lt _ _ _ (by omega)).trans HG.out)
        obtain ⟨n1, hn1⟩ : ∃ n1, n1 = ((X ++ quoteB c).map UInt8.toNat).length := ⟨_, rfl⟩
        rw [← hn1] at HO3 HNw ⊢
        have HX3 : Hid ((X ++ quoteB c).length = n1) := by show _ = _; rw [hn1, List.length_map]
        have hnb : n1 ≤ 4 * i1 + 1 := by
          have h1 := HI1.out.2.2
          have h2 := congrArg List.length HQ.out
          rw [List.length_map] at h2
          rw [hn1, List.length_map, List.length_append, HX.out, h2]
          simp only [List.length_cons, List.length_nil]
          omega
        clear HOw HG1 hn1
        go_roundw
        case rel => exact ⟨i1, n1, X ++ quoteB c, a1, c1, rfl, rfl, HI1.out.1, HX3, hnb, HO3, HTk.out.symm, HB3, HG3, hz3, HNw⟩
        case measure => simp only [intOf]; exact HI1.out.2.1
      have n34 : ((c.toNat : Int) == 34) = false := HcI.out 34 h34
      by_cases h92 : c = 92
      · have HQ : Hid ((quoteB c).map UInt8.toNat = [92, 92]) := by show _ = _; rw [h92]; rfl
        have hcn : c.toNat = 92 := by rw [h92]; rfl
        rw [hcn] at d0
        go_wp2_with (
          at_builtin
          go_loud (refine wpList_appBk _ rfl _ _ rfl M _ (X.map UInt8.toNat) rfl (OwnB.alloc HO.out _) wr.heap.size [92, 92] rfl (heap_alloc_at wr _) (by decide) (by simp; omega) hXl (by simp) ?_)
          intro v1 w3 hown1 hgr1 hat1
          have HOw := Lib.hid hown1
          have HG1 := Lib.hid hgr1
          have HNw := Lib.hid (own_other (g := M + 1) HNe.out (show M + 1 < (wr.alloc _).heap.size by rw [World.size_alloc]; omega) hat1)
          clear hown1 hgr1 hat1)
        go_wp2_with fail
        have HO3 : Hid (OwnB w3 M v1 ((X ++ quoteB c).map UInt8.toNat)) := by
          show OwnB _ _ _ _
          rw [List.map_append, HQ.out]
          exact HOw.out
        obtain ⟨a1, c1, rfl⟩ := HO3.out.form
        have hz3 : M + 2 ≤ w3.heap.size := by have h1 := HG1.out.size; rw [World.size_alloc] at h1; omega
        have HB3 := Lib.hid ((HB.out.alloc hMr _).grown HG1.out (by rw [World.size_alloc]; omega) (fun g e => (HO.out.own.lt g e).1))
        have HG3 : Hid (w3.heap[M + 1]? = w2.heap[M + 1]?) := (HG1.out.block (M + 1) (by rw [World.size_alloc]; omega) (fun e => HNe.out _ e.symm rfl)).trans ((heap_alloc_lt _ _ _ (by omega)).trans HG.out)
        obtain ⟨n1, hn1⟩ : ∃ n1, n1 = ((X ++ quoteB c).map UInt8.toNat).length := ⟨_, rfl⟩
        rw [← hn1] at HO3 HNw ⊢
        have HX3 : Hid ((X ++ quoteB c).length = n1) := by show _ = _; rw [hn1, List.length_map]
        have hnb : n1 ≤ 4 * i1 + 1 := by
          have h1 := HI1.out.2.2
          have h2 := congrArg List.length HQ.out
          rw [List.length_map] at h2
          rw [hn1, List.length_map, List.length_append, HX.out, h2]
          simp only [List.length_cons, List.length_nil]
          omega
        clear HOw HG1 hn1
        go_roundw
        case rel => exact ⟨i1, n1, X ++ quoteB c, a1, c1, rfl, rfl, HI1.out.1, HX3, hnb, HO3, HTk.out.symm, HB3, HG3, hz3, HNw⟩
        case measure => simp only [intOf]; exact HI1.out.2.1
      have n92 : ((c.toNat : Int) == 92) = false := HcI.out 92 h92
      by_cases h10 : c = 10
      · have HQ : Hid ((quoteB c).map UInt8.toNat = [92, 110]) := by show _ = _; rw [h10]; rfl
        have hcn : c.toNat = 10 := by rw [h10]; rfl
        rw [hcn] at d0
        go_wp2_with (
          at_builtin
          go_loud (refine wpList_appBk _ rfl _ _ rfl M _ (X.map UInt8.toNat) rfl (OwnB.alloc HO.out _) wr.heap.size [92, 110] rfl (heap_alloc_at wr _) (by decide) (by simp; omega) hXl (by simp) ?_)
          intro v1 w3 hown1 hgr1 hat1
          have HOw := Lib.hid hown1
          have HG1 := Lib.hid hgr1
          have HNw := Lib.hid (own_other (g := M + 1) HNe.out (show M + 1 < (wr.alloc _).heap.size by rw [World.size_alloc]; omega) hat1)
          clear hown1 hgr1 hat1)
        go_wp2_with fail
        have HO3 : Hid (OwnB w3 M v1 ((X ++ quoteB c).map UInt8.toNat)) := by
          show OwnB _ _ _ _
          rw [List.map_append, HQ.out]
          exact HOw.out
        obtain ⟨a1, c1, rfl⟩ := HO3.out.form
        have hz3 : M + 2 ≤ w3.heap.size := by have h1 := HG1.out.size; rw [World.size_alloc] at h1; omega
        have HB3 := Lib.hid ((HB.out.alloc hMr _).grown HG1.out (by rw [World.size_alloc]; omega) (fun g e => (HO.out.own.lt g e).1))
        have HG3 : Hid (w3.heap[M + 1]? = w2.heap[M + 1]?) := (HG1.out.block (M + 1) (by rw [World.size_alloc]; omega) (fun e => HNe.out _ e.symm rfl)).trans ((heap_alloc_lt _ _ _ (by omega)).trans HG.out)
        obtain ⟨n1, hn1⟩ : ∃ n1, n1 = ((X ++ quoteB c).map UInt8.toNat).length := ⟨_, rfl⟩
        rw [← hn1] at HO3 HNw ⊢
        have HX3 : Hid ((X ++ quoteB c).length = n1) := by show _ = _; rw [hn1, List.length_map]
        have hnb : n1 ≤ 4 * i1 + 1 := by
          have h1 := HI1.out.2.2
          have h2 := congrArg List.length HQ.out
          rw [List.length_map] at h2
          rw [hn1, List.length_map, List.length_append, HX.out, h2]
          simp only [List.length_cons, List.length_nil]
          omega
        clear HOw HG1 hn1
        go_roundw
        case rel => exact ⟨i1, n1, X ++ quoteB c, a1, c1, rfl, rfl, HI1.out.1, HX3, hnb, HO3, HTk.out.symm, HB3, HG3, hz3, HNw⟩
        case measure => simp only [intOf]; exact HI1.out.2.1
      have n10 : ((c.toNat : Int) == 10) = false := HcI.out 10 h10
      by_cases h9 : c = 9
      · have HQ : Hid ((quoteB c).map UInt8.toNat = [92, 116]) := by show _ = _; rw [h9]; rfl
        have hcn : c.toNat = 9 := by rw [h9]; rfl
        rw [hcn] at d0
        go_wp2_with (
          at_builtin
          go_loud (refine wpList_appBk _ rfl _ _ rfl M _ (X.map UInt8.toNat) rfl (OwnB.alloc HO.out _) wr.heap.size [92, 116] rfl (heap_alloc_at wr _) (by decide) (by simp; omega) hXl (by simp) ?_)
          intro v1 w3 hown1 hgr1 hat1
          have HOw := Lib.hid hown1
          have HG1 := Lib.hid hgr1
          have HNw := Lib.hid (own_other (g := M + 1) HNe.out (show M + 1 < (wr.alloc _).heap.size by rw [World.size_alloc]; omega) hat1)
          clear hown1 hgr1 hat1)
        go_wp2_with fail
        have HO3 : Hid (OwnB w3 M v1 ((X ++ quoteB c).map UInt8.toNat)) := by
          show OwnB _ _ _ _
          rw [List.map_append, HQ.out]
          exact HOw.out
        obtain ⟨a1, c1, rfl⟩ := HO3.out.form
        have hz3 : M + 2 ≤ w3.heap.size := by have h1 := HG1.out.size; rw [World.size_alloc] at h1; omega
        have HB3 := Lib.hid ((HB.out.alloc hMr _).grown HG1.out (by rw [World.size_alloc]; omega) (fun g e => (HO.out.own.lt g e).1))
        have HG3 : Hid (w3.heap[M + 1]? = w2.heap[M + 1]?) := (HG1.out.block (M + 1) (by rw [World.size_alloc]; omega) (fun e => HNe.out _ e.symm rfl)).trans ((heap_alloc_lt _ _ _ (by omega)).trans HG.out)
        obtain ⟨n1, hn1⟩ : ∃ n1, n1 = ((X ++ quoteB c).map UInt8.toNat).length := ⟨_, rfl⟩
        rw [← hn1] at HO3 HNw ⊢
        have HX3 : Hid ((X ++ quoteB c).length = n1) := by show _ = _; rw [hn1, List.length_map]
        have hnb : n1 ≤ 4 * i1 + 1 := by
          have h1 := HI1.out.2.2
          have h2 := congrArg List.length HQ.out
          rw [List.length_map] at h2
          rw [hn1, List.length_map, List.length_append, HX.out, h2]
          simp only [List.length_cons, List.length_nil]
          omega
        clear HOw HG1 hn1
        go_roundw
        case rel => exact ⟨i1, n1, X ++ quoteB c, a1, c1, rfl, rfl, HI1.out.1, HX3, hnb, HO3, HTk.out.symm, HB3, HG3, hz3, HNw⟩
        case measure => simp only [intOf]; exact HI1.out.2.1
      have n9 : ((c.toNat : Int) == 9) = false := HcI.out 9 h9
      by_cases hlo : c.toNat < 32
      · have hloI : (c.toNat : Int) < 32 := by omega
        obtain ⟨x1, hx1⟩ : ∃ x1 : Nat, x1 = 48 + c.toNat / 64 := ⟨_, rfl⟩
        obtain ⟨x2, hx2⟩ : ∃ x2 : Nat, x2 = 48 + c.toNat / 8 % 8 := ⟨_, rfl⟩
        obtain ⟨x3, hx3⟩ : ∃ x3 : Nat, x3 = 48 + c.toNat % 8 := ⟨_, rfl⟩
        have ex1 : (48 : Int) + (c.toNat : Int) / 64 = (x1 : Int) := by omega
        have ex2 : (48 : Int) + (c.toNat : Int) / 8 % 8 = (x2 : Int) := by omega
        have ex3 : (48 : Int) + (c.toNat : Int) % 8 = (x3 : Int) := by omega
        have HY : Hid (∀ y ∈ [92, x1, x2, x3], y < 256) := by
          show ∀ y ∈ [92, x1, x2, x3], y < 256
          intro y hy
          simp only [List.mem_cons, List.not_mem_nil, or_false] at hy
          omega
        have HQ : Hid ((quoteB c).map UInt8.toNat = [92, x1, x2, x3]) := by
          show _ = _
          unfold quoteB
          rw [if_neg (fun e => e.elim h34 h92), if_neg h10, if_neg h9, if_pos (Or.inl hlo), hx1, hx2, hx3]
          simp only [List.map_cons, List.map_nil, UInt8.toNat_ofNat']
          have m1 : (48 + c.toNat / 64) % 2 ^ 8 = 48 + c.toNat / 64 := Nat.mod_eq_of_lt (by omega)
          have m2 : (48 + c.toNat / 8 % 8) % 2 ^ 8 = 48 + c.toNat / 8 % 8 := Nat.mod_eq_of_lt (by omega)
          have m3 : (48 + c.toNat % 8) % 2 ^ 8 = 48 + c.toNat % 8 := Nat.mod_eq_of_lt (by omega)
          rw [m1, m2, m3]
          rfl
        clear hx1 hx2 hx3
        generalize hcn : c.toNat = cn at *
        clear hcn
        go_wp2_with (
          at_builtin
          go_loud (refine wpList_appBk _ rfl _ _ rfl M _ (X.map UInt8.toNat) rfl (OwnB.alloc HO.out _) wr.heap.size [92, x1, x2, x3] rfl (heap_alloc_at wr _) HY.out (by simp; omega) hXl (by simp) ?_)
          intro v1 w3 hown1 hgr1 hat1
          have HOw := Lib.hid hown1
          have HG1 := Lib.hid hgr1
          have HNw := Lib.hid (own_other (g := M + 1) HNe.out (show M + 1 < (wr.alloc _).heap.size by rw [World.size_alloc]; omega) hat1)
          clear hown1 hgr1 hat1)
        go_wp2_with fail
        have HO3 : Hid (OwnB w3 M v1 ((X ++ quoteB c).map UInt8.toNat)) := by
          show OwnB _ _ _ _
          rw [List.map_append, HQ.out]
          exact HOw.out
        obtain ⟨a1, c1, rfl⟩ := HO3.out.form
        have hz3 : M + 2 ≤ w3.heap.size := by have h1 := HG1.out.size; rw [World.size_alloc] at h1; omega
        have HB3 := Lib.hid ((HB.out.alloc hMr _).grown HG1.out (by rw [World.size_alloc]; omega) (fun g e => (HO.out.own.lt g e).1))
        have HG3 : Hid (w3.heap[M + 1]? = w2.heap[M + 1]?) := (HG1.out.block (M + 1) (by rw [World.size_alloc]; omega) (fun e => HNe.out _ e.symm rfl)).trans ((heap_alloc_lt _ _ _ (by omega)).trans HG.out)
        obtain ⟨n1, hn1⟩ : ∃ n1, n1 = ((X ++ quoteB c).map UInt8.toNat).length := ⟨_, rfl⟩
        rw [← hn1] at HO3 HNw ⊢
        have HX3 : Hid ((X ++ quoteB c).length = n1) := by show _ = _; rw [hn1, List.length_map]
        have hnb : n1 ≤ 4 * i1 + 1 := by
          have h1 := HI1.out.2.2
          have h2 := congrArg List.length HQ.out
          rw [List.length_map] at h2
          rw [hn1, List.length_map, List.length_append, HX.out, h2]
          simp only [List.length_cons, List.length_nil]
          omega
        clear HOw HG1 hn1
        go_roundw
        case rel => exact ⟨i1, n1, X ++ quoteB c, a1, c1, rfl, rfl, HI1.out.1, HX3, hnb, HO3, HTk.out.symm, HB3, HG3, hz3, HNw⟩
        case measure => simp only [intOf]; exact HI1.out.2.1
      have hloD : decide ((c.toNat : Int) < 32) = false := decide_eq_false (by omega)
      by_cases hhi : 126 < c.toNat
      · have hhiI : (126 : Int) < (c.toNat : Int) := by omega
        obtain ⟨x1, hx1⟩ : ∃ x1 : Nat, x1 = 48 + c.toNat / 64 := ⟨_, rfl⟩
        obtain ⟨x2, hx2⟩ : ∃ x2 : Nat, x2 = 48 + c.toNat / 8 % 8 := ⟨_, rfl⟩
        obtain ⟨x3, hx3⟩ : ∃ x3 : Nat, x3 = 48 + c.toNat % 8 := ⟨_, rfl⟩
        have ex1 : (48 : Int) + (c.toNat : Int) / 64 = (x1 : Int) := by omega
        have ex2 : (48 : Int) + (c.toNat : Int) / 8 % 8 = (x2 : Int) := by omega
        have ex3 : (48 : Int) + (c.toNat : Int) % 8 = (x3 : Int) := by omega
        have HY : Hid (∀ y ∈ [92, x1, x2, x3], y < 256) := by
          show ∀ y ∈ [92, x1, x2, x3], y < 256
          intro y hy
          simp only [List.mem_cons, List.not_mem_nil, or_false] at hy
          omega
        have HQ : Hid ((quoteB c).map UInt8.toNat = [92, x1, x2, x3]) := by
          show _ = _
          unfold quoteB
          rw [if_neg (fun e => e.elim h34 h92), if_neg h10, if_neg h9, if_pos (Or.inr hhi), hx1, hx2, hx3]
          simp only [List.map_cons, List.map_nil, UInt8.toNat_ofNat']
          have m1 : (48 + c.toNat / 64) % 2 ^ 8 = 48 + c.toNat / 64 := Nat.mod_eq_of_lt (by omega)
          have m2 : (48 + c.toNat / 8 % 8) % 2 ^ 8 = 48 + c.toNat / 8 % 8 := Nat.mod_eq_of_lt (by omega)
          have m3 : (48 + c.toNat % 8) % 2 ^ 8 = 48 + c.toNat % 8 := Nat.mod_eq_of_lt (by omega)
          rw [m1, m2, m3]
          rfl
        clear hx1 hx2 hx3
        generalize hcn : c.toNat = cn at *
        clear hcn
        go_wp2_with (
          at_builtin
          go_loud (refine wpList_appBk _ rfl _ _ rfl M _ (X.map UInt8.toNat) rfl (OwnB.alloc HO.out _) wr.heap.size [92, x1, x2, x3] rfl (heap_alloc_at wr _) HY.out (by simp; omega) hXl (by simp) ?_)
          intro v1 w3 hown1 hgr1 hat1
          have HOw := Lib.hid hown1
          have HG1 := Lib.hid hgr1
          have HNw := Lib.hid (own_other (g := M + 1) HNe.out (show M + 1 < (wr.alloc _).heap.size by rw [World.size_alloc]; omega) hat1)
          clear hown1 hgr1 hat1)
        go_wp2_with fail
        have HO3 : Hid (OwnB w3 M v1 ((X ++ quoteB c).map UInt8.toNat)) := by
          show OwnB _ _ _ _
          rw [List.map_append, HQ.out]
          exact HOw.out
        obtain ⟨a1, c1, rfl⟩ := HO3.out.form
        have hz3 : M + 2 ≤ w3.heap.size := by have h1 := HG1.out.size; rw [World.size_alloc] at h1; omega
        have HB3 := Lib.hid ((HB.out.alloc hMr _).grown HG1.out (by rw [World.size_alloc]; omega) (fun g e => (HO.out.own.lt g e).1))
        have HG3 : Hid (w3.heap[M + 1]? = w2.heap[M + 1]?) := (HG1.out.block (M + 1) (by rw [World.size_alloc]; omega) (fun e => HNe.out _ e.symm rfl)).trans ((heap_alloc_lt _ _ _ (by omega)).trans HG.out)
        obtain ⟨n1, hn1⟩ : ∃ n1, n1 = ((X ++ quoteB c).map UInt8.toNat).length := ⟨_, rfl⟩
        rw [← hn1] at HO3 HNw ⊢
        have HX3 : Hid ((X ++ quoteB c).length = n1) := by show _ = _; rw [hn1, List.length_map]
        have hnb : n1 ≤ 4 * i1 + 1 := by
          have h1 := HI1.out.2.2
          have h2 := congrArg List.length HQ.out
          rw [List.length_map] at h2
          rw [hn1, List.length_map, List.length_append, HX.out, h2]
          simp only [List.length_cons, List.length_nil]
          omega
        clear HOw HG1 hn1
        go_roundw
        case rel => exact ⟨i1, n1, X ++ quoteB c, a1, c1, rfl, rfl, HI1.out.1, HX3, hnb, HO3, HTk.out.symm, HB3, HG3, hz3, HNw⟩
        case measure => simp only [intOf]; exact HI1.out.2.1
      have hhiD : decide ((126 : Int) < (c.toNat : Int)) = false := decide_eq_false (by omega)
      have HQ : Hid ((quoteB c).map UInt8.toNat = [c.toNat]) := by
        show _ = _
        unfold quoteB
        rw [if_neg (fun e => e.elim h34 h92), if_neg h10, if_neg h9, if_neg (fun e => e.elim hlo hhi)]
        rfl
      generalize hcn : c.toNat = cn at *
      go_wp2_with (
        at_builtin
        go_loud (refine wpList_appBk _ rfl _ _ rfl M _ (X.map UInt8.toNat) rfl (OwnB.alloc HO.out _) wr.heap.size [cn] rfl (heap_alloc_at wr _) (by simpa using hcl) (by simp; omega) hXl (by simp) ?_)
        intro v1 w3 hown1 hgr1 hat1
        have HOw := Lib.hid hown1
        have HG1 := Lib.hid hgr1
        have HNw := Lib.hid (own_other (g := M + 1) HNe.out (show M + 1 < (wr.alloc _).heap.size by rw [World.size_alloc]; omega) hat1)
        clear hown1 hgr1 hat1)
      go_wp2_with fail
      have HO3 : Hid (OwnB w3 M v1 ((X ++ quoteB c).map UInt8.toNat)) := by
        show OwnB _ _ _ _
        rw [List.map_append, HQ.out]
        exact HOw.out
      obtain ⟨a1, c1, rfl⟩ := HO3.out.form
      have hz3 : M + 2 ≤ w3.heap.size := by have h1 := HG1.out.size; rw [World.size_alloc] at h1; omega
      have HB3 := Lib.hid ((HB.out.alloc hMr _).grown HG1.out (by rw [World.size_alloc]; omega) (fun g e => (HO.out.own.lt g e).1))
      have HG3 : Hid (w3.heap[M + 1]? = w2.heap[M + 1]?) := (HG1.out.block (M + 1) (by rw [World.size_alloc]; omega) (fun e => HNe.out _ e.symm rfl)).trans ((heap_alloc_lt _ _ _ (by omega)).trans HG.out)
      obtain ⟨n1, hn1⟩ : ∃ n1, n1 = ((X ++ quoteB c).map UInt8.toNat).length := ⟨_, rfl⟩
      rw [← hn1] at HO3 HNw ⊢
      have HX3 : Hid ((X ++ quoteB c).length = n1) := by show _ = _; rw [hn1, List.length_map]
      have hnb : n1 ≤ 4 * i1 + 1 := by
        have h1 := HI1.out.2.2
        have h2 := congrArg List.length HQ.out
        rw [List.length_map] at h2
        rw [hn1, List.length_map, List.length_append, HX.out, h2]
        simp only [List.length_cons, List.length_nil]
        omega
      clear HOw HG1 hn1
      go_roundw
      case rel => exact ⟨i1, n1, X ++ quoteB c, a1, c1, rfl, rfl, HI1.out.1, HX3, hnb, HO3, HTk.out.symm, HB3, HG3, hz3, HNw⟩
      case measure => simp only [intOf]; exact HI1.out.2.1
    · have hgeI : (s.size : Int) ≤ (i : Int) := by omega
      have HXf : Hid (X ++ [34] = quoteW s.data.toList) := by
        show _ = _
        rw [HXe.out, List.take_of_length_le (by have := HSL.out; omega)]
        rfl
      have hMr : M ≤ wr.heap.size := by omega
      have hXl : (X.map UInt8.toNat).length ≤ 1000000000 := by rw [List.length_map, HX.out]; omega
      go_wp2_with (
        at_builtin
        go_loud (refine wpList_appBk _ rfl _ _ rfl M _ (X.map UInt8.toNat) rfl (OwnB.alloc HO.out _) wr.heap.size [34] rfl (heap_alloc_at wr _) (by decide) (by simp; omega) hXl (by simp) ?_)
        intro v1 w3 hown1 hgr1 hat1
        have HOw := Lib.hid hown1
        have HG1 := Lib.hid hgr1
        clear hown1 hgr1 hat1
        go_loud (refine wpList_stringB _ rfl _ rfl M _ (X ++ [34]) rfl (by rw [List.map_append]; exact HOw.out) ?_))
      go_wp2_with fail
      go_ret
      refine ⟨by rw [HXf.out]; rfl, ?_⟩
      rw [← HM.out]
      exact (HB.out.alloc hMr _).grown HG1.out (by rw [World.size_alloc]; omega) (fun g e => (HO.out.own.lt g e).1)
theorem step_appBk (w : World) {ops : Array Oper} {o : Oper} {a : Act} {K : Act → World → Prop} {Q : Exit → Act → World → Prop} {E : Prop} (hg : o.guard = none) (s x : Operand) (ho : o.op = .call { callee := .builtin .append, args := #[s, x], argTypes := #[44, 44] })
    (base : Nat) (v : Value) (L : List Nat) (hs : a.eval s = v) (hown : OwnB w base v L) (p : Nat) (ys : List Nat) (hx : a.eval x = .slice (some ⟨p, 0, none⟩) ys.length ys.length) (hc : w.heap[p]? = some (.cells (cellsB ys).toArray 5 (0, 0))) (hy : ∀ y ∈ ys, y < 256)
    (hbase : base ≤ w.heap.size) (hlen : L.length ≤ 1000000000) (hlen2 : ys.length ≤ 1000)
    (hK : ∀ v' w', OwnB w' base v' (L ++ ys) → w.grownBy w' v.ownBlock → K (a.put o.dst v') w') : if Region.wanted o (yielded ops a.tmps) = true then Oper.wp Tryd.prog o a w K Q else E := by
  have hw : Region.wanted o (yielded ops a.tmps) = true := by simp [Region.wanted, hg]
  rw [if_pos hw]
  obtain ⟨i0, hi, hz0, hz1, hz2⟩ := info_parts infoB
  obtain ⟨v', w', hrun, r1, r2, _⟩ := run_append_own (P := Tryd.prog) w base 44 o.type 5 i0 (.int .u8 0) 1 1 undB hi hz0 hz1 hz2 rfl (by decide) v L.length (cellsB L) hown.own ⟨p, 0, none⟩ ys.length ys.length (cellsB ys) (by rw [cellsB_length, Nat.mul_one]) (fun j u hj => by
    have e : ((⟨p, 0, none⟩ : Addr).add j) = ⟨p, j, none⟩ := by rw [Addr.add_lit, Nat.zero_add]
    rw [e, Lib.cell_of_heap hc]
    simpa using hj) (fun u hu => by
    simp only [cellsB, List.mem_map] at hu
    obtain ⟨n, _, rfl⟩ := hu
    rfl) (by simp [maxLen]; omega) (by omega) hbase
  unfold Oper.wp
  simp [execOp, ho, resolve, invoke, builtin, hs, hx, hrun, Result.andThen]
  refine hK v' w' ⟨?_, ?_⟩ r2
  · intro z hz
    rcases List.mem_append.1 hz with hz | hz
    · exact hown.lt z hz
    · exact hy z hz
  · have e : cellsB (L ++ ys) = cellsB L ++ cellsB ys := by simp [cellsB]
    rw [e, List.length_append]; exact r1
theorem slashB_one (b : UInt8) : slashB [b] = if b = 47 then [92, 47] else [b] := by rw [slashB]
theorem slashB_47 (T : List UInt8) : slashB (47 :: T) = 92 :: 47 :: slashB T := by
  cases T with
  | nil => rfl
  | cons c T => rw [slashB, if_pos rfl]
theorem slashB_92 (c : UInt8) (T : List UInt8) : slashB (92 :: c :: T) = 92 :: c :: slashB T := by
  rw [slashB, if_neg (by decide), if_pos rfl]
theorem slashB_any (b : UInt8) (T : List UInt8) (h : b ≠ 47) (h2 : b ≠ 92 ∨ T = []) : slashB (b :: T) = b :: slashB T := by
  cases T with
  | nil => rw [slashB_one, if_neg h]; rfl
  | cons c T => rw [slashB, if_neg h, if_neg (h2.resolve_right (by simp))]
set_option maxHeartbeats 32000000 in
set_option maxRecDepth 100000 in
theorem slashW_any (s : ByteArray) (w : World) (hs : s.size ≤ 100000) :
    Calls Tryd.prog 11 #[.string s] w fun e w' => e = .returned (.string (bs (slashW s.data.toList))) ∧ Below w.heap.size w w' := by
  have HO0 := Lib.hid (RowB.new w [47] (by decide) (by decide))
  have hsl : s.data.toList.length = s.size := (size_list s).symm
  have HSL := Lib.hid hsl
  clear hsl
  go_enter Tryd.func11, Tryd.ntmps11
  go_wp2_with fail
  obtain ⟨w2, hw2⟩ : ∃ w2, w2 = w.alloc (.cells #[.int .u8 47] 5) := ⟨_, rfl⟩
  obtain ⟨M, hM⟩ : ∃ M, M = w.heap.size := ⟨_, rfl⟩
  rw [← hw2, ← hM]
  have hz2 : w2.heap.size = M + 1 := by rw [hw2, hM]; exact World.size_alloc _ _
  have HO2 : Hid (OwnB w2 M (.slice (some ⟨M, 0, none⟩) 1 1) (([47] : List UInt8).map UInt8.toNat)) := by rw [hM, hw2]; exact HO0.out
  have HBw : Hid (Below M w w2) := by rw [hM, hw2]; exact ((Below.refl _ w).alloc (Nat.le_refl _) _)
  have HM := Lib.hid hM
  clear HO0 hw2 hM
  go_loopw [3, 4] (fun ov iv wr => ∃ (i n : Nat) (X : List UInt8) (ao : Option Addr) (cp : Nat), ov = .slice ao n cp ∧ iv = .int .i64 (i : Int) ∧ i ≤ s.size ∧ Hid (X.length = n) ∧ n ≤ 2 * i + 1 ∧ Hid (OwnB wr M (.slice ao n cp) (X.map UInt8.toNat)) ∧ Hid (X ++ slashB (s.data.toList.drop i) = 47 :: slashB s.data.toList) ∧ Hid (Below M w wr) ∧ M ≤ wr.heap.size) (fun _ iv _ => s.size - (intOf iv).toNat)
  case atStart => exact ⟨0, 1, [47], _, 1, rfl, rfl, Nat.zero_le _, rfl, by decide, HO2, (by show [47] ++ slashB (s.data.toList.drop 0) = 47 :: slashB s.data.toList; rfl), HBw, by omega⟩
  case round =>
    obtain ⟨i, n, X, ao, cp, rfl, rfl, hi, HX, hn, HO, HXe, HB, hMr⟩ := hrel
    rcases Nat.lt_or_ge i s.size with hlt | hge
    · have hltI : (i : Int) < (s.size : Int) := by omega
      have hd := drop_byte hlt
      have HXd := HXe.out
      rw [hd] at HXd
      obtain ⟨i1, hi1⟩ : ∃ i1, i1 = i + 1 := ⟨_, rfl⟩
      have ei : (i : Int) + 1 = (i1 : Int) := by omega
      have eiw := wrapN i1 (by omega)
      rw [← hi1] at HXd
      have hXl : (X.map UInt8.toNat).length ≤ 1000000000 := by rw [List.length_map, HX.out]; omega
      have HI1 : Hid (i1 ≤ s.size ∧ s.size - i1 < s.size - i ∧ n + 2 ≤ 2 * i1 + 1) := ⟨by omega, by omega, by omega⟩
      generalize hC : s[i] = c at *
      have hcl := c.toNat_lt
      have HXd := Lib.hid HXd
      have HI := Lib.hid hi1
      clear hd hi1
      by_cases h47 : c = 47
      · subst h47
        have HXn : Hid ((X ++ [92, 47]) ++ slashB (s.data.toList.drop i1) = 47 :: slashB s.data.toList) := by
          show _ = _
          rw [← HXd.out, slashB_47]
          simp
        have HMap : Hid ((X ++ [92, 47]).map UInt8.toNat = X.map UInt8.toNat ++ [92, 47]) := by
          show _ = _
          rw [List.map_append]; rfl
        go_wp2_with (
          at_builtin
          go_loud (refine wpList_appBk _ rfl _ _ rfl M _ (X.map UInt8.toNat) rfl (OwnB.alloc HO.out _) wr.heap.size [92, 47] rfl (heap_alloc_at wr _) (by decide) (by simp; omega) hXl (by simp) ?_)
          intro v1 w3 hown1 hgr1 hat1
          have HOw := Lib.hid hown1
          have HG1 := Lib.hid hgr1
          clear hown1 hgr1 hat1)
        go_wp2_with fail
        have HO3 : Hid (OwnB w3 M v1 ((X ++ [92, 47]).map UInt8.toNat)) := by
          show OwnB _ _ _ _
          rw [HMap.out]
          exact HOw.out
        obtain ⟨a1, c1, rfl⟩ := HO3.out.form
        have hz3 : M ≤ w3.heap.size := by have h1 := HG1.out.size; rw [World.size_alloc] at h1; omega
        have HB3 := Lib.hid ((HB.out.alloc hMr _).grown HG1.out (by rw [World.size_alloc]; omega) (fun g e => (HO.out.own.lt g e).1))
        obtain ⟨n1, hn1⟩ : ∃ n1, n1 = ((X ++ [92, 47]).map UInt8.toNat).length := ⟨_, rfl⟩
        rw [← hn1] at HO3 ⊢
        have HX3 : Hid ((X ++ [92, 47]).length = n1) := by show _ = _; rw [hn1, List.length_map]
        have hnb : n1 ≤ 2 * i1 + 1 := by
          have h1 := HI1.out.2.2
          rw [hn1, List.length_map, List.length_append, HX.out]
          simp only [List.length_cons, List.length_nil]
          omega
        clear HOw HG1 hn1
        go_roundw
        case rel => exact ⟨i1, n1, X ++ [92, 47], a1, c1, rfl, rfl, HI1.out.1, HX3, hnb, HO3, HXn, HB3, hz3⟩
        case measure => simp only [intOf]; exact HI1.out.2.1
      have n47 : ((c.toNat : Int) == 47) = false := beq_eq_false_iff_ne.2 (fun e => h47 (UInt8.toNat_inj.1 (by show c.toNat = 47; omega)))
      by_cases h92 : c = 92 ∧ i1 < s.size
      · obtain ⟨rfl, h2⟩ := h92
        have h2I : (i1 : Int) < (s.size : Int) := by omega
        have hd2 := drop_byte h2
        have HXe2 := HXd.out
        rw [hd2] at HXe2
        obtain ⟨i2, hi2⟩ : ∃ i2, i2 = i1 + 1 := ⟨_, rfl⟩
        rw [← hi2] at HXe2
        have ei2 : (i1 : Int) + 1 = (i2 : Int) := by omega
        have eiw2 := wrapN i2 (by omega)
        generalize hC2 : s[i1] = d at *
        obtain ⟨dn, hdn⟩ : ∃ dn, d.toNat = dn := ⟨_, rfl⟩
        have hdl : dn < 256 := hdn ▸ d.toNat_lt
        have HXn : Hid ((X ++ [92, d]) ++ slashB (s.data.toList.drop i2) = 47 :: slashB s.data.toList) := by
          show _ = _
          rw [← HXe2, slashB_92]
          simp
        have HMap : Hid ((X ++ [92, d]).map UInt8.toNat = X.map UInt8.toNat ++ [92, dn]) := by
          show _ = _
          rw [List.map_append, ← hdn]; rfl
        have HI2 : Hid (i2 ≤ s.size ∧ s.size - i2 < s.size - i ∧ n + 2 ≤ 2 * i2 + 1) := ⟨by omega, by have := HI.out; omega, by have := HI.out; omega⟩
        have HY : Hid (∀ y ∈ [92, dn], y < 256) := by
          show ∀ y ∈ [92, dn], y < 256
          intro y hy
          simp only [List.mem_cons, List.not_mem_nil, or_false] at hy
          omega
        clear hd2 HXe2 hi2
        go_wp2_with fail
        go_region_law ((refine step_appBk _ rfl _ _ rfl M _ (X.map UInt8.toNat) rfl (OwnB.alloc (OwnB.belowM HO.out (Below.refl _ _).drew) _) wr.heap.size [92, dn] rfl (heap_alloc_at _ _) HY.out (by simp; omega) hXl (by simp) ?_; intro v1 w3 hown1 hgr1; have HOw := Lib.hid hown1; have HG1 := Lib.hid hgr1; clear hown1 hgr1))
        all_goals (
          rename_i K hKK
          refine hKK _ _ ?_
          go_wp2_with fail
          have HO3 : Hid (OwnB w3 M v1 ((X ++ [92, d]).map UInt8.toNat)) := by
            show OwnB _ _ _ _
            rw [HMap.out]
            exact HOw.out
          obtain ⟨a1, c1, rfl⟩ := HO3.out.form
          have hz3 : M ≤ w3.heap.size := by
            have h1 : (World.alloc _ _).heap.size ≤ w3.heap.size := HG1.out.size
            rw [World.size_alloc] at h1
            exact Nat.le_trans hMr (Nat.le_trans (Nat.le_succ _) h1)
          have HB3 := Lib.hid (((HB.out.drew).alloc hMr _).grown HG1.out (by show M ≤ (World.alloc _ _).heap.size; simp; omega) (fun g e => (HO.out.own.lt g e).1))
          obtain ⟨n1, hn1⟩ : ∃ n1, n1 = ((X ++ [92, d]).map UInt8.toNat).length := ⟨_, rfl⟩
          rw [← hn1] at HO3 ⊢
          have HX3 : Hid ((X ++ [92, d]).length = n1) := by show _ = _; rw [hn1, List.length_map]
          have hnb : n1 ≤ 2 * i2 + 1 := by
            have h1 := HI2.out.2.2
            rw [hn1, List.length_map, List.length_append, HX.out]
            simp only [List.length_cons, List.length_nil]
            omega
          clear HOw HG1 hn1
          go_roundw
          case rel => exact ⟨i2, n1, X ++ [92, d], a1, c1, rfl, rfl, HI2.out.1, HX3, hnb, HO3, HXn, HB3, hz3⟩
          case measure => simp only [intOf]; exact HI2.out.2.1)
      have hpick : (((c.toNat : Int) == 92) && decide ((i1 : Int) < (s.size : Int))) = false := by
        rw [Bool.and_eq_false_iff]
        by_cases e : c = 92
        · exact Or.inr (decide_eq_false (fun h => h92 ⟨e, by omega⟩))
        · exact Or.inl (beq_eq_false_iff_ne.2 (fun e2 => e (UInt8.toNat_inj.1 (by show c.toNat = 92; omega))))
      have HXn : Hid ((X ++ [c]) ++ slashB (s.data.toList.drop i1) = 47 :: slashB s.data.toList) := by
        show _ = _
        rw [← HXd.out, slashB_any c _ h47 ?_]
        · simp
        · by_cases e : c = 92
          · exact Or.inr (List.drop_eq_nil_of_le (by have := HSL.out; have : ¬ i1 < s.size := fun h => h92 ⟨e, h⟩; omega))
          · exact Or.inl e
      by_cases e92 : c = 92
      · subst e92
        have hnlt : decide ((i1 : Int) < (s.size : Int)) = false := decide_eq_false (fun h => h92 ⟨rfl, by omega⟩)
        have hnlN : ¬ (i1 < s.size) := fun h => h92 ⟨rfl, h⟩
        have hnlI : ¬ ((i1 : Int) < (s.size : Int)) := fun h => h92 ⟨rfl, by omega⟩
        clear hpick h92
        have HMap : Hid ((X ++ [92]).map UInt8.toNat = X.map UInt8.toNat ++ [92]) := by
          show _ = _
          rw [List.map_append]; rfl
        go_wp2_with (
          at_builtin
          go_loud (refine wpList_appBk _ rfl _ _ rfl M _ (X.map UInt8.toNat) rfl (OwnB.alloc HO.out _) wr.heap.size [92] rfl (heap_alloc_at wr _) (by decide) (by simp; omega) hXl (by simp) ?_)
          intro v1 w3 hown1 hgr1 hat1
          have HOw := Lib.hid hown1
          have HG1 := Lib.hid hgr1
          clear hown1 hgr1 hat1)
        go_wp2_with fail
        have HO3 : Hid (OwnB w3 M v1 ((X ++ [92]).map UInt8.toNat)) := by
          show OwnB _ _ _ _
          rw [HMap.out]
          exact HOw.out
        obtain ⟨a1, c1, rfl⟩ := HO3.out.form
        have hz3 : M ≤ w3.heap.size := by have h1 := HG1.out.size; rw [World.size_alloc] at h1; omega
        have HB3 := Lib.hid ((HB.out.alloc hMr _).grown HG1.out (by rw [World.size_alloc]; omega) (fun g e => (HO.out.own.lt g e).1))
        obtain ⟨n1, hn1⟩ : ∃ n1, n1 = ((X ++ [92]).map UInt8.toNat).length := ⟨_, rfl⟩
        rw [← hn1] at HO3 ⊢
        have HX3 : Hid ((X ++ [92]).length = n1) := by show _ = _; rw [hn1, List.length_map]
        have hnb : n1 ≤ 2 * i1 + 1 := by
          have h1 := HI1.out.2.2
          rw [hn1, List.length_map, List.length_append, HX.out]
          simp only [List.length_cons, List.length_nil]
          omega
        clear HOw HG1 hn1
        go_roundw
        case rel => exact ⟨i1, n1, X ++ [92], a1, c1, rfl, rfl, HI1.out.1, HX3, hnb, HO3, HXn, HB3, hz3⟩
        case measure => simp only [intOf]; exact HI1.out.2.1
      have n92 : ((c.toNat : Int) == 92) = false := beq_eq_false_iff_ne.2 (fun e => e92 (UInt8.toNat_inj.1 (by show c.toNat = 92; omega)))
      clear hpick
      generalize hcn : c.toNat = cn at *
      have HMap : Hid ((X ++ [c]).map UInt8.toNat = X.map UInt8.toNat ++ [cn]) := by
        show _ = _
        rw [List.map_append, ← hcn]; rfl
      go_wp2_with (
        at_builtin
        go_loud (refine wpList_appBk _ rfl _ _ rfl M _ (X.map UInt8.toNat) rfl (OwnB.alloc HO.out _) wr.heap.size [cn] rfl (heap_alloc_at wr _) (by simpa using hcl) (by simp; omega) hXl (by simp) ?_)
        intro v1 w3 hown1 hgr1 hat1
        have HOw := Lib.hid hown1
        have HG1 := Lib.hid hgr1
        clear hown1 hgr1 hat1)
      go_wp2_with fail
      have HO3 : Hid (OwnB w3 M v1 ((X ++ [c]).map UInt8.toNat)) := by
        show OwnB _ _ _ _
        rw [HMap.out]
        exact HOw.out
      obtain ⟨a1, c1, rfl⟩ := HO3.out.form
      have hz3 : M ≤ w3.heap.size := by have h1 := HG1.out.size; rw [World.size_alloc] at h1; omega
      have HB3 := Lib.hid ((HB.out.alloc hMr _).grown HG1.out (by rw [World.size_alloc]; omega) (fun g e => (HO.out.own.lt g e).1))
      obtain ⟨n1, hn1⟩ : ∃ n1, n1 = ((X ++ [c]).map UInt8.toNat).length := ⟨_, rfl⟩
      rw [← hn1] at HO3 ⊢
      have HX3 : Hid ((X ++ [c]).length = n1) := by show _ = _; rw [hn1, List.length_map]
      have hnb : n1 ≤ 2 * i1 + 1 := by
        have h1 := HI1.out.2.2
        rw [hn1, List.length_map, List.length_append, HX.out]
        simp only [List.length_cons, List.length_nil]
        omega
      clear HOw HG1 hn1
      go_roundw
      case rel => exact ⟨i1, n1, X ++ [c], a1, c1, rfl, rfl, HI1.out.1, HX3, hnb, HO3, HXn, HB3, hz3⟩
      case measure => simp only [intOf]; exact HI1.out.2.1
    · have hgeI : (s.size : Int) ≤ (i : Int) := by omega
      have HXf : Hid (X ++ [47] = slashW s.data.toList) := by
        show _ = _
        have h1 := HXe.out
        rw [List.drop_eq_nil_of_le (by have := HSL.out; omega), slashB, List.append_nil] at h1
        rw [h1]
        rfl
      have hXl : (X.map UInt8.toNat).length ≤ 1000000000 := by rw [List.length_map, HX.out]; omega
      go_wp2_with (
        at_builtin
        go_loud (refine wpList_appBk _ rfl _ _ rfl M _ (X.map UInt8.toNat) rfl (OwnB.alloc HO.out _) wr.heap.size [47] rfl (heap_alloc_at wr _) (by decide) (by simp; omega) hXl (by simp) ?_)
        intro v1 w3 hown1 hgr1 hat1
        have HOw := Lib.hid hown1
        have HG1 := Lib.hid hgr1
        clear hown1 hgr1 hat1
        go_loud (refine wpList_stringB _ rfl _ rfl M _ (X ++ [47]) rfl (by rw [List.map_append]; exact HOw.out) ?_))
      go_wp2_with fail
      go_ret
      refine ⟨by rw [HXf.out]; rfl, ?_⟩
      rw [← HM.out]
      exact (HB.out.alloc hMr _).grown HG1.out (by rw [World.size_alloc]; omega) (fun g e => (HO.out.own.lt g e).1)
end Go.Proofs.YtkaelmbgfcehhaaDoor
