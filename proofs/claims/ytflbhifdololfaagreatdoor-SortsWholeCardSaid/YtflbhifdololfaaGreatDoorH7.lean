/- sorts.Order by a comparison. -/
import Derived.Test.YtflbhifdololfaaGreatDoorH6
import Derived.Shelf.Abstract
import Derived.Deep.LoopGhost
namespace Go.Proofs.YtflbhifdololfaaGreatDoor
open Go.RowKit
set_option linter.unusedVariables false

/-- the memory of Order ahead of its loops -/
theorem order_start2 (V : Value) (fl : Bool) (w1 : World) (bl bc : Nat) :
    let caps : Array Value := #[.pointer (some ⟨w1.heap.size, 0, none⟩), .pointer (some ⟨bc, 0, none⟩), .pointer (some ⟨bl, 0, none⟩), .pointer (some ⟨w1.heap.size + 1, 0, none⟩)]
    let w5 := ((w1.alloc (.cells #[V] 112)).alloc (.cells #[.bool fl] 4)).alloc (.cells #[.slice none 0 0, .func (.func 59) #[] caps] 120)
    ∃ w4 : World, w4.heap.size = w1.heap.size + 1 + 1 ∧ w4.heap[w1.heap.size]? = some (.cells #[V] 112 (0, 0)) ∧ w4.heap[w1.heap.size + 1]? = some (.cells #[.bool fl] 4 (0, 0)) ∧ Below w1.heap.size w1 w4 ∧
      (∀ lt, HAt w5 (w1.heap.size + 1 + 1) (.slice none 0 0) (.func (.func 59) #[] caps) (H.fill lt 0) 0) ∧ Below (w1.heap.size + 1 + 1) w4 w5 ∧ Below w1.heap.size w1 w5 := by
  intro caps w5
  obtain ⟨w4, hw4⟩ : ∃ w4, w4 = (w1.alloc (.cells #[V] 112)).alloc (.cells #[.bool fl] 4) := ⟨_, rfl⟩
  have hw5 : w5 = w4.alloc (.cells #[.slice none 0 0, .func (.func 59) #[] caps] 120) := by rw [hw4]
  refine ⟨w4, ?_⟩
  rw [hw5]
  have z3 : (w1.alloc (.cells #[V] 112)).heap.size = w1.heap.size + 1 := by simp
  have z4 : w4.heap.size = w1.heap.size + 1 + 1 := by rw [hw4]; simp
  have h2 := heap_alloc_at w1 (.cells #[V] 112)
  have h3 := heap_alloc_at (w1.alloc (.cells #[V] 112)) (.cells #[.bool fl] 4)
  rw [z3] at h3
  have h5 := heap_alloc_at w4 (.cells #[.slice none 0 0, .func (.func 59) #[] caps] 120)
  rw [z4] at h5
  have hb4 : Below w1.heap.size w1 w4 := by
    rw [hw4]
    exact ((Below.refl _ _).alloc (Nat.le_refl _) _).alloc (by simp) _
  refine ⟨z4, by rw [hw4]; exact (heap_alloc_lt _ _ _ (by rw [z3]; omega)).trans h2, by rw [hw4]; exact h3, hb4, fun lt => ⟨h5, World.ownsRow_nil _ _ _ _⟩, ?_, hb4.alloc hb4.size _⟩
  have := (Below.refl (w1.heap.size + 1 + 1) w4).alloc (by rw [z4]; exact Nat.le_refl _) (.cells #[.slice none 0 0, .func (.func 59) #[] caps] 120)
  exact this

set_option maxHeartbeats 8000000 in
set_option maxRecDepth 100000 in
theorem Order_fn (a : Option Addr) (n c : Nat) (how conv : ByteArray) (q : Cmp5) (fl : Bool) (lt : Nat → Nat → Bool) (w : World) (hn : n ≤ 800000)
    (hby : ∀ W, Calls Tryz.prog 58 #[.string how] W fun e w' => e = .returned (.tuple #[.func (.func q.num) #[] #[], .bool fl]) ∧ Below W.heap.size W w')
    (hord : H.Ord lt (· < n))
    (hlt : ∀ (w4 : World) (pf pb b : Nat), Below w.heap.size w w4 → w4.heap[pf]? = some (.cells #[.func (.func q.num) #[] #[]] 112 (0, 0)) → w4.heap[w.heap.size + 1]? = some (.cells #[.string conv] 9 (0, 0)) →
      w4.heap[w.heap.size]? = some (.cells #[.slice a n c] 54 (0, 0)) → w4.heap[pb]? = some (.cells #[.bool fl] 4 (0, 0)) → pf < b → pb < b → w.heap.size + 2 ≤ b → b ≤ w4.heap.size →
      LtOk w4 b 59 #[.pointer (some ⟨pf, 0, none⟩), .pointer (some ⟨w.heap.size + 1, 0, none⟩), .pointer (some ⟨w.heap.size, 0, none⟩), .pointer (some ⟨pb, 0, none⟩)] lt n) :
    Calls Tryz.prog 27 #[.slice a n c, .string how, .string conv] w fun e w' => (∃ v, e = .returned (.tuple #[v, .int .i64 0]) ∧ w'.ownsRow w.heap.size 3 1 v n (cellsH (H.order lt n))) ∧ Below w.heap.size w w' := by
  have H1 := Lib.hid hby
  have HLT := Lib.hid hlt
  have HOrd := Lib.hid hord
  have qn : ∀ w : World, (binOp .eql 112 (.func (.func q.num) #[] #[]) .nilFunc).run Tryz.prog w = .ok (.bool false) w := fun w => by cases q <;> kernel_rfl
  have HOk := Lib.hid (H.fill_ok hord)
  clear hby hlt hord
  obtain ⟨kf, hkf⟩ : ∃ kf, kf = q.num := ⟨_, rfl⟩
  rw [← hkf] at H1 HLT qn
  clear hkf
  go_enter Tryz.func27, Tryz.ntmps27
  go_wp2_with fail
  refine (H1.out _).mono ?_
  rintro e w1 ⟨rfl, hb1⟩
  have hs1 : w.heap.size + 2 ≤ w1.heap.size := by have := hb1.size; simp at this; omega
  obtain ⟨w4, z4, s8, s9, hb14, hh5, hb45, hb15⟩ := order_start2 (.func (.func kf) #[] #[]) fl w1 w.heap.size (w.heap.size + 1)
  have hbw1 : Below w.heap.size w w1 := (((Below.refl _ w).alloc (Nat.le_refl _) (.cells #[.slice a n c] 54)).alloc (by simp) (.cells #[.string conv] 9)).trans (hb1.mono (by simp; omega))
  have p0 : w1.heap[w.heap.size]? = some (.cells #[.slice a n c] 54 (0, 0)) := (hb1.block _ (by simp; omega)).trans ((heap_alloc_lt _ _ _ (by simp)).trans (heap_alloc_at w (.cells #[.slice a n c] 54)))
  have p1 : w1.heap[w.heap.size + 1]? = some (.cells #[.string conv] 9 (0, 0)) := by
    have h := heap_alloc_at (w.alloc (.cells #[.slice a n c] 54)) (.cells #[.string conv] 9)
    rw [show (w.alloc (.cells #[.slice a n c] 54)).heap.size = w.heap.size + 1 by simp] at h
    exact (hb1.block _ (by simp)).trans h
  have hle := HLT.out w4 w1.heap.size (w1.heap.size + 1) (w1.heap.size + 1 + 1) (hbw1.trans (hb14.mono (by omega))) s8 ((hb14.block _ (by omega)).trans p1) ((hb14.block _ (by omega)).trans p0) s9 (by omega) (by omega) (by omega) (by omega)
  have HC : Hid (HCtx w4 (w1.heap.size + 1 + 1) 59 (.pointer (some ⟨w1.heap.size, 0, none⟩)) (.pointer (some ⟨w.heap.size + 1, 0, none⟩)) (.pointer (some ⟨w.heap.size, 0, none⟩)) (.pointer (some ⟨w1.heap.size + 1, 0, none⟩)) lt n) :=
    ⟨hle, enters_of Tryz.func59 (by kernel_rfl) rfl⟩
  have HH5 := Lib.hid (hh5 lt)
  have HB45 := Lib.hid hb45
  have HB5 := Lib.hid (hbw1.trans (hb15.mono (by omega)))
  have hs0 : w.heap.size < w1.heap.size := by omega
  have hs2 : w.heap.size < w1.heap.size + 1 := by omega
  have hs3 : w.heap.size < w1.heap.size + 1 + 1 := by omega
  have c0 : w1.cell? ⟨w.heap.size, 0, none⟩ = some (.slice a n c) := by rw [Lib.cell_of_heap p0]; rfl
  clear z4 s8 s9 hh5 hb45 hb15 hb14 hle p0 p1 hbw1 hb1 HLT H1
  go_wp2_with fail
  go_loopw [29] (fun v29 wr => ∃ (k : Nat) (lv : Value), v29 = .int .i64 (k : Int) ∧ k ≤ n ∧ Hid (HAt wr (w1.heap.size + 1 + 1) lv (.func (.func 59) #[] #[.pointer (some ⟨w1.heap.size, 0, none⟩), .pointer (some ⟨w.heap.size + 1, 0, none⟩), .pointer (some ⟨w.heap.size, 0, none⟩), .pointer (some ⟨w1.heap.size + 1, 0, none⟩)]) (H.fill lt k) k) ∧ Hid (Below (w1.heap.size + 1 + 1) w4 wr) ∧ Hid (Below w.heap.size w wr)) (fun v29 _ => n - natI v29)
  case atStart => exact ⟨0, _, rfl, Nat.zero_le _, HH5, HB45, HB5⟩
  case round =>
    obtain ⟨k, lv, rfl, hk, HHr, HBr, HBw⟩ := hrel
    by_cases hlt : k < n
    · have hltI : (k : Int) < (n : Int) := by omega
      have HPu := Lib.hid (hpPush_any (x := k) HC.out HBr.out HHr.out (HOk.out k (by omega)).2.2 hlt (by omega))
      go_wp2_with fail
      refine HPu.out.mono ?_
      rintro e w1 ⟨rfl, ⟨g, cap, hh1⟩, hb1⟩
      have HH1 := Lib.hid hh1
      have HB1 := Lib.hid hb1
      clear hh1 hb1 HPu
      go_wp2_with fail
      go_roundw
      case rel => exact ⟨k + 1, _, rfl, by omega, HH1.out, HBr.out.trans HB1.out, HBw.out.trans (HB1.out.mono (by omega))⟩
      case measure => simp only [natI]; omega
    · obtain rfl : k = n := by omega
      have hltI : (k : Int) ≤ (k : Int) := Int.le_refl _
      go_wp2_with fail
      go_loopg [12] k (fun gk v12 wr2 => ∃ (D : List Nat) (f' : H.Row) (lv' : Value), Hid (HAt wr2 (w1.heap.size + 1 + 1) lv' (.func (.func 59) #[] #[.pointer (some ⟨w1.heap.size, 0, none⟩), .pointer (some ⟨w.heap.size + 1, 0, none⟩), .pointer (some ⟨w.heap.size, 0, none⟩), .pointer (some ⟨w1.heap.size + 1, 0, none⟩)]) f' gk) ∧ Hid (H.Heap lt f' gk ∧ H.All (· < k) f' gk) ∧ Hid (D ++ H.drain lt gk f' = H.order lt k) ∧ Hid (wr2.ownsRow (w1.heap.size + 1 + 1 + 1) 3 1 v12 D.length (cellsH D)) ∧ Hid (∀ g, lv'.ownBlock = some g → v12.ownBlock ≠ some g) ∧ Hid (Below (w1.heap.size + 1 + 1) w4 wr2) ∧ Hid (Below w.heap.size w wr2) ∧ gk ≤ k ∧ D.length ≤ k)
      case atStart => exact ⟨[], _, lv, HHr, ⟨(HOk.out k (Nat.le_refl k)).1, (HOk.out k (Nat.le_refl k)).2.2⟩, rfl, World.ownsRow_nil _ _ _ _, (fun g h1 h2 => by cases h2), HBr, HBw, Nat.le_refl k, Nat.zero_le _⟩
      case round =>
        obtain ⟨D, f', lv', HH2, HP2, HE2, HO2, HX2, HB2, HW2, hgk, hDk⟩ := hrel
        have HLn := Lib.hid (hLen_any HH2.out)
        rcases Nat.eq_zero_or_pos gk with h0 | h0
        · subst h0
          have hD : D = H.order lt k := by
            have h := HE2.out
            simpa [H.drain] using h
          have HD := Lib.hid hD
          clear hD
          go_wp2_with fail
          refine HLn.out.mono ?_
          rintro e w2 ⟨rfl, rfl⟩
          clear HLn
          go_wp2_with fail
          go_ret2
          refine ⟨⟨_, rfl, ?_⟩, HW2.out⟩
          have h := HO2.out
          rw [HD.out, H.order_len HOrd.out] at h
          exact own_baseI h (by omega)
        · obtain ⟨j, hj⟩ : ∃ j, gk = j + 1 := ⟨gk - 1, by omega⟩
          subst hj
          have hj1 : (0 : Int) < (j : Int) + 1 := by omega
          have HPo := Lib.hid (hpPop_any HC.out HB2.out HH2.out HP2.out.2 (by omega))
          have HPk := Lib.hid (H.pop_ok (HOrd.out) HP2.out.2 HP2.out.1)
          obtain ⟨x, hx⟩ : ∃ x, x = f' 0 := ⟨_, rfl⟩
          have hE3 : (D ++ [x]) ++ H.drain lt j (H.pop lt f' j) = H.order lt k := by
            rw [← HE2.out, hx]; simp [H.drain]
          have HE3 := Lib.hid hE3
          rw [← hx] at HPo
          clear hx hE3
          obtain ⟨i0, hi, hz0, hz1, hz2⟩ := info_parts infoH
          go_wp2_with fail
          refine HLn.out.mono ?_
          rintro e w2 ⟨rfl, rfl⟩
          clear HLn
          go_wp2_with fail
          refine HPo.out.mono ?_
          rintro e w3 ⟨rfl, ⟨lv3, hh3, hl3⟩, ha3⟩
          have hz3 := ha3.size
          have HH3 := Lib.hid hh3
          have HA3 := Lib.hid ha3
          have HL3 := Lib.hid hl3
          clear hh3 ha3 hl3 HPo
          have HO3 : Hid ((w3.alloc (.cells #[.int .i64 (x : Int)] 3)).ownsRow (w1.heap.size + 1 + 1 + 1) 3 1 u12 D.length (cellsH D)) := by
            have h := own_keepI HO2.out (w' := w3) (fun g hg => HA3.out.block g (HO2.out.lt g hg).2 (fun hm => by
              rcases List.mem_cons.1 hm with h | h
              · have := (HO2.out.lt g hg).1; omega
              · exact HX2.out g (by simpa using h) hg))
            exact h.alloc _
          have hwz : w1.heap.size + 1 + 1 + 1 ≤ (w3.alloc (.cells #[.int .i64 (x : Int)] 3)).heap.size := by have := HH3.out.lt; simp; omega
          go_wp2_with (at_builtin; go_loud (refine wpList_append_lies _ rfl _ _ 58 rfl (w1.heap.size + 1 + 1 + 1) 3 i0 (.int .i64 0) 1 8 undH hi hz0 hz1 hz2 rfl (by decide) u12 D.length (cellsH D) rfl HO3.out ⟨w3.heap.size, 0, none⟩ 1 1 [.int .i64 (x : Int)] rfl rfl (World.news_of_block (heap_alloc_at w3 (.cells #[.int .i64 (x : Int)] 3))) (by simp [Value.oneCell']) (by decide) (by unfold maxLen; omega) (by omega) hwz _ rfl ?_))
          intro g2 cap2 w4' hown hgrow hat hlt3
          have hlvb : ∀ g, lv3.ownBlock = some g → w1.heap.size + 1 + 1 + 1 ≤ g ∧ g < w3.heap.size ∧ u12.ownBlock ≠ some g := fun g hg => ⟨(HH3.out.row.lt g hg).1, (HH3.out.row.lt g hg).2, HX2.out g (HL3.out ▸ hg)⟩
          have hh4 : HAt w4' (w1.heap.size + 1 + 1) lv3 (.func (.func 59) #[] #[.pointer (some ⟨w1.heap.size, 0, none⟩), .pointer (some ⟨w.heap.size + 1, 0, none⟩), .pointer (some ⟨w.heap.size, 0, none⟩), .pointer (some ⟨w1.heap.size + 1, 0, none⟩)]) (H.pop lt f' j) j := by
            refine (HH3.out.below ((Below.refl _ _).alloc (Nat.le_refl _) (.cells #[.int .i64 (x : Int)] 3))).keep fun y hy => ?_
            have hyl : y < (w3.alloc (.cells #[.int .i64 (x : Int)] 3)).heap.size := by
              rcases hy with rfl | hy
              · have := HH3.out.lt; simp; omega
              · have := (hlvb y hy).2.1; simp; omega
            refine hgrow.block y hyl (fun e => ?_)
            rcases hy with rfl | hy
            · have := (HO3.out.lt _ e.symm).1; omega
            · exact (hlvb y hy).2.2 e.symm
          have hb4 : Below (w1.heap.size + 1 + 1) w3 w4' := ((Below.refl _ w3).alloc (by have := HH3.out.lt; omega) _).grown hgrow (by have := HH3.out.lt; simp; omega) (fun y hy => by have := (HO3.out.lt y hy).1; omega)
          have hb3 : Below (w1.heap.size + 1 + 1) w2 w3 := HA3.out.below (by have := HH2.out.lt; omega) (fun y hy => by
            rcases List.mem_cons.1 hy with h | h
            · omega
            · have := (HH2.out.row.lt y (by simpa using h)).1; omega)
          have HH4 := Lib.hid hh4
          have HO4 : Hid (w4'.ownsRow (w1.heap.size + 1 + 1 + 1) 3 1 (.slice (some ⟨g2, 0, none⟩) (D.length + 1) cap2) (D ++ [x]).length (cellsH (D ++ [x]))) := by
            have e : cellsH (D ++ [x]) = cellsH D ++ [.int .i64 (x : Int)] := by simp [cellsH]
            rw [e, List.length_append]; exact hown
          have HX4 : Hid (∀ g, lv3.ownBlock = some g → (Value.slice (some ⟨g2, 0, none⟩) (D.length + 1) cap2).ownBlock ≠ some g) := by
            intro g hg h2
            injection h2 with h2
            have h3 : g2 = g := h2
            have h4 := hlvb g hg
            rcases hat with h5 | h5
            · rw [h3] at h5; exact h4.2.2 h5
            · have h6 : (w3.alloc (.cells #[.int .i64 (x : Int)] 3)).heap.size = w3.heap.size + 1 := by simp
              omega
          have HB4 := Lib.hid (HB2.out.trans (hb3.trans hb4))
          have HW4 := Lib.hid (HW2.out.trans ((hb3.trans hb4).mono (by omega)))
          have hdl : (D ++ [x]).length ≤ k := by
            have h := congrArg List.length HE3.out
            rw [H.order_len (HOrd.out), List.length_append] at h
            omega
          clear hown hgrow hat hlt3 hh4 hb4 hb3 hlvb hi hz0 hz1 hz2 hwz
          go_wp2_with fail
          go_roundg j
          case measure => omega
          case rel => exact ⟨D ++ [x], _, lv3, HH4, ⟨HPk.out.1, HPk.out.2.2.1⟩, HE3, HO4, HX4, HB4, HW4, by omega, hdl⟩
end Go.Proofs.YtflbhifdololfaaGreatDoor
