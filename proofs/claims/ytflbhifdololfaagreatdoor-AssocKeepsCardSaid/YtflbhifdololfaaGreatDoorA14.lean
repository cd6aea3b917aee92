/- Package assoc: Keys, unsorted; the law's texts. -/
import Derived.Test.YtflbhifdololfaaGreatDoorA13
namespace Go.Proofs.YtflbhifdololfaaGreatDoor
open Go.RowKit
set_option linter.unusedVariables false

def cellsK (L : List ByteArray) : List Value := L.map fun s => Value.string s
theorem infoS : (Tryz.prog.info? 9).map (fun i => (i.zero, i.size, i.bytes)) = some (some (.string .empty), 1, 16) := by kernel_rfl
theorem undS : Tryz.prog.underlying 50 = some (.slice 9) := by kernel_rfl
theorem cellsN_at {M : List Ent} {j : Nat} {e : Ent} (h : M[j]? = some e) : (cellsN M)[j * 5]? = some (.string e.key) := by
  induction M generalizing j with
  | nil => cases h
  | cons a M ih =>
    cases j with
    | zero => simp at h; subst h; rfl
    | succ j =>
      have := ih (j := j) (by simpa using h)
      rw [show (j + 1) * 5 = j * 5 + 5 by omega]
      simpa [cellsN, encN] using this
theorem own_sliceK {w : World} {D : Nat} {e : TypeId} {v : Value} {n k : Nat} {xs : List Value} (h : w.ownsRow D e k v n xs) : ∃ a c, v = .slice a n c := by
  rcases h.2 with ⟨rfl, h0⟩ | ⟨g, cap, cur, rfl, _⟩
  · exact ⟨none, 0, by rw [h0]⟩
  · exact ⟨_, _, rfl⟩
set_option maxHeartbeats 8000000 in
set_option maxRecDepth 100000 in
theorem Keys_uns {w : World} {p m clk c : Nat} {M : List Ent} (conv : ByteArray) (hA : AInv w p m clk M c) (hlen : M.length ≤ 100000) (hS : SortOk M (w.heap.size + 1)) :
    Calls Tryz.prog 34 #[.pointer (some ⟨p, 0, none⟩), .string uns, .string conv] w fun e w' => (∃ v, e = .returned (.tuple #[v, .int .i64 0]) ∧ w'.ownsRow w.heap.size 9 1 v M.length (cellsK (M.map (·.key)))) ∧ Below w.heap.size w w' := by
  have HE := Lib.hid (entries_any hA hlen hS)
  have HOr := Lib.hid (fun a n c W (h : n ≤ 800000) => Order_uns a n c conv W h)
  obtain ⟨n, hn⟩ : ∃ n, n = M.length := ⟨_, rfl⟩
  rw [← hn] at HE hlen ⊢
  have HN := Lib.hid hn
  clear hA hS hn
  generalize uns = U at *
  go_enter Tryz.func34, Tryz.ntmps34
  go_wp2_with fail
  refine HE.out.mono ?_
  rintro e w1 ⟨⟨v, rfl, hown⟩, hb1⟩
  obtain ⟨ea, ec, rfl⟩ := own_sliceK hown
  have HO1 := Lib.hid hown
  have HB1 := Lib.hid hb1
  clear hown hb1 HE
  go_wp2_with fail
  refine (HOr.out _ _ _ _ (by omega)).mono ?_
  rintro e w2 ⟨⟨v2, rfl, hown2⟩, hb2⟩
  obtain ⟨oa, oc, rfl⟩ := own_sliceK hown2
  have HO2 := Lib.hid hown2
  have HO1b : Hid (w2.ownsRow w.heap.size 57 5 (.slice ea n ec) n (cellsN M)) := own_keepI HO1.out fun g hg => hb2.block g (HO1.out.lt g hg).2
  have HB2 := Lib.hid (HB1.out.trans (hb2.mono HB1.out.size))
  obtain ⟨i0, hi, hz0, hz1, hz2⟩ := info_parts infoS
  have HI := Lib.hid hi
  have HZ0 := Lib.hid hz0
  have HZ1 := Lib.hid hz1
  have HZ2 := Lib.hid hz2
  clear hown2 hb2 HOr hi hz0 hz1 hz2
  rcases Nat.eq_zero_or_pos n with h0 | h0
  · subst h0
    go_wp2_with fail
    go_loop [11, 28] (fun v11 v28 => v11 = .slice none 0 0 ∧ v28 = .int .i64 0) (fun _ _ => 0)
    case atStart => exact ⟨rfl, rfl⟩
    case round =>
      obtain ⟨rfl, rfl⟩ := hrel
      go_wp2_with fail
      go_ret2
      refine ⟨⟨_, rfl, ?_⟩, HB2.out⟩
      have e : M = [] := List.eq_nil_of_length_eq_zero HN.out.symm
      rw [e]
      exact World.ownsRow_nil _ _ _ _
  obtain ⟨g, cap, e1, hgl, hck⟩ : ∃ g cap, Value.slice ea n ec = .slice (some ⟨g, 0, none⟩) n cap ∧ g < w2.heap.size ∧ ∀ (j : Nat) x, M[j]? = some x → w2.cell? ⟨g, j * 5, none⟩ = some (.string x.key) := by
    rcases HO1b.out.2 with ⟨h1, h2⟩ | ⟨g, cap, cur, h1, _, hgg, _⟩
    · omega
    · injection h1 with e1 _ _
      subst e1
      refine ⟨g, ec, rfl, lt_of_heap hgg, fun j x hx => ?_⟩
      have h := HO1b.out.cells (g := g) rfl (j * 5) _ (cellsN_at hx)
      rw [Addr.add_lit, Nat.zero_add] at h
      exact h
  obtain ⟨g2, cap2, e3, hgl2, hci⟩ : ∃ g cap, Value.slice oa n oc = .slice (some ⟨g, 0, none⟩) n cap ∧ g < w2.heap.size ∧ ∀ (j : Nat), j < n → w2.cell? ⟨g, j, none⟩ = some (.int .i64 (j : Int)) := by
    rcases HO2.out.2 with ⟨h1, h2⟩ | ⟨g, cap, cur, h1, _, hgg, _⟩
    · omega
    · injection h1 with e1 _ _
      subst e1
      refine ⟨g, oc, rfl, lt_of_heap hgg, fun j hj => ?_⟩
      have h := HO2.out.cells (g := g) rfl j (.int .i64 (j : Int)) (by simp [cellsH, hj])
      rw [Addr.add_lit, Nat.zero_add] at h
      exact h
  injection e1 with e1 _ e2
  injection e3 with e3 _ e4
  subst e1; subst e2; subst e3; subst e4
  have HCk := Lib.hid hck
  have HCi := Lib.hid hci
  clear hck hci
  go_wp2_with fail
  go_loopw [11, 28] (fun v11 v28 wr => ∃ k : Nat, v28 = .int .i64 (k : Int) ∧ k ≤ n ∧ Hid (Below w2.heap.size w2 wr) ∧ Hid (wr.ownsRow w2.heap.size 9 1 v11 k (cellsK ((M.take k).map (·.key))))) (fun _ v28 _ => n - natI v28)
  case atStart => exact ⟨0, rfl, Nat.zero_le _, Below.refl _ _, World.ownsRow_nil _ _ _ _⟩
  case round =>
    obtain ⟨k, rfl, hk, HBr, HOw⟩ := hrel
    by_cases hlt : k < n
    · have hltI : (k : Int) < (n : Int) := by omega
      obtain ⟨x, hx⟩ : ∃ x, M[k]? = some x := ⟨_, List.getElem?_eq_getElem (by rw [← HN.out]; exact hlt)⟩
      have ck := (HBr.out.cell (p := ⟨g, k * 5, none⟩) hgl).trans (HCk.out k x hx)
      have ci := (HBr.out.cell (p := ⟨g2, k, none⟩) hgl2).trans (HCi.out k hlt)
      have HX := Lib.hid hx
      have hg1 : g < wr.heap.size := Nat.lt_of_lt_of_le hgl HBr.out.size
      have hg2 : g2 < wr.heap.size := Nat.lt_of_lt_of_le hgl2 HBr.out.size
      clear hx
      go_wp2_with (at_builtin; go_loud (refine wpList_append_lies _ rfl _ _ 50 rfl w2.heap.size 9 i0 (.string .empty) 1 16 undS HI.out HZ0.out HZ1.out HZ2.out rfl (by decide) u11 k (cellsK ((M.take k).map (·.key))) rfl (HOw.out.alloc _) ⟨wr.heap.size, 0, none⟩ 1 1 [.string x.key] rfl rfl (World.news_of_block (heap_alloc_at wr (.cells #[.string x.key] 9))) (by simp [Value.oneCell']) (Nat.zero_lt_one) (by unfold maxLen; omega) (by omega) (by have := HBr.out.size; simp; omega) _ rfl ?_); intro g3 cap3 w3 hown hgrow hat hlt3)
      have hb3 : Below w2.heap.size w2 w3 := (HBr.out.alloc HBr.out.size _).grown hgrow (by have := HBr.out.size; simp; omega) (fun y hy => (HOw.out.lt y hy).1)
      have HO4 : Hid (w3.ownsRow w2.heap.size 9 1 (.slice (some ⟨g3, 0, none⟩) (k + 1) cap3) (k + 1) (cellsK ((M.take (k + 1)).map (·.key)))) := by
        have e : (M.take (k + 1)).map (·.key) = (M.take k).map (·.key) ++ [x.key] := by rw [List.take_add_one, HX.out]; simp
        show World.ownsRow _ _ _ _ _ _ _
        rw [e]
        have e2 : cellsK ((M.take k).map (·.key) ++ [x.key]) = cellsK ((M.take k).map (·.key)) ++ [.string x.key] := by simp [cellsK]
        rw [e2]; exact hown
      have HB4 := Lib.hid hb3
      clear hown hgrow hat hlt3 hb3
      go_wp2_with fail
      go_roundw
      case rel => exact ⟨k + 1, rfl, by omega, HB4.out, HO4.out⟩
      case measure => simp only [natI]; omega
    · obtain rfl : k = n := by omega
      have hltI : (k : Int) ≤ (k : Int) := Int.le_refl _
      go_wp2_with fail
      go_ret2
      refine ⟨⟨_, rfl, ?_⟩, HB2.out.trans (HBr.out.mono HB2.out.size)⟩
      have h := HOw.out
      have e : M.take k = M := by rw [HN.out, List.take_length]
      rw [e] at h
      exact own_baseI h HB2.out.size
/-- strings in a row -/
def RowS (w : World) (v : Value) (L : List ByteArray) : Prop := ∃ a c, v = .slice a L.length c ∧ (0 < L.length → ∃ g o, a = some ⟨g, o, none⟩ ∧ g < w.heap.size ∧ ∀ (j : Nat) s, L[j]? = some s → w.cell? ⟨g, o + j, none⟩ = some (.string s))
theorem RowS.ofOwn {w : World} {D : Nat} {v : Value} {L : List ByteArray} (h : w.ownsRow D 9 1 v L.length (cellsK L)) : RowS w v L := by
  rcases h.2 with ⟨rfl, h0⟩ | ⟨g, cap, cur, rfl, hb, hgg, _⟩
  · exact ⟨none, 0, by rw [h0], fun h => by omega⟩
  · refine ⟨_, cap, rfl, fun _ => ⟨g, 0, rfl, lt_of_heap hgg, fun j s hj => ?_⟩⟩
    have hc := h.cells (g := g) rfl j (.string s) (by simp [cellsK, hj])
    rw [Addr.add_lit] at hc
    exact hc
theorem RowS.below {w w' : World} {v : Value} {L : List ByteArray} (h : RowS w v L) (hb : Below w.heap.size w w') : RowS w' v L := by
  obtain ⟨a, c, h1, h2⟩ := h
  refine ⟨a, c, h1, fun h0 => ?_⟩
  obtain ⟨g, o, e, hg, hc⟩ := h2 h0
  exact ⟨g, o, e, Nat.lt_of_lt_of_le hg hb.size, fun j s hj => (hb.cell (p := ⟨g, o + j, none⟩) hg).trans (hc j s hj)⟩
set_option maxHeartbeats 4000000 in
set_option maxRecDepth 100000 in
theorem texts_any {w : World} {v1 v2 : Value} {L : List ByteArray} (h1 : RowS w v1 L) (h2 : RowS w v2 L) (hl : L.length ≤ 1000000) :
    Calls Tryz.prog 35 #[v1, v2] w fun e w' => e = .returned (.bool true) ∧ Below w.heap.size w w' := by
  obtain ⟨a1, c1, rfl, h1⟩ := h1
  obtain ⟨a2, c2, rfl, h2⟩ := h2
  rcases Nat.eq_zero_or_pos L.length with hz | hz
  · rw [hz]
    clear h1 h2
    go_enter Tryz.func35, Tryz.ntmps35
    go_wp2_with fail
    go_loop [13] (fun v13 => v13 = .int .i64 0) (fun _ => 0)
    case atStart => rfl
    case round =>
      obtain rfl := hrel
      go_wp2_with fail
      go_ret
      exact ⟨rfl, Below.refl _ _⟩
  obtain ⟨g1, o1, rfl, hg1, hc1⟩ := h1 hz
  obtain ⟨g2, o2, rfl, hg2, hc2⟩ := h2 hz
  have H1 := Lib.hid hc1
  have H2 := Lib.hid hc2
  obtain ⟨n, hn⟩ : ∃ n, n = L.length := ⟨_, rfl⟩
  rw [← hn] at hl ⊢
  have HN := Lib.hid hn
  clear h1 h2 hn hc1 hc2
  go_enter Tryz.func35, Tryz.ntmps35
  go_wp2_with fail
  go_loopw [13] (fun v13 wr => ∃ k : Nat, v13 = .int .i64 (k : Int) ∧ k ≤ n ∧ Hid (Below w.heap.size w wr)) (fun v13 _ => n - natI v13)
  case atStart => exact ⟨0, rfl, Nat.zero_le _, Below.refl _ _⟩
  case round =>
    obtain ⟨k, rfl, hk, HB⟩ := hrel
    by_cases hlt : k < n
    · have hltI : (k : Int) < (n : Int) := by omega
      obtain ⟨s, hs⟩ : ∃ s, L[k]? = some s := ⟨_, List.getElem?_eq_getElem (by rw [← HN.out]; exact hlt)⟩
      have x1 := (HB.out.cell (p := ⟨g1, o1 + k, none⟩) hg1).trans (H1.out k s hs)
      have x2 := (HB.out.cell (p := ⟨g2, o2 + k, none⟩) hg2).trans (H2.out k s hs)
      clear hs
      go_wp2_with fail
      go_region
      all_goals (try go_wp2_with fail)
      all_goals exact ⟨⟨k + 1, rfl, by omega, HB.out.drew⟩, by simp only [natI]; omega⟩
    · have hltI : (n : Int) ≤ (k : Int) := by omega
      go_wp2_with fail
      go_ret
      exact ⟨rfl, HB.out⟩
end Go.Proofs.YtflbhifdololfaaGreatDoor
