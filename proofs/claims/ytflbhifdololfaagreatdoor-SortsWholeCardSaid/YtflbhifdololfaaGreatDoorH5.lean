/- sorts.Order without a comparison (unsorted): the numbers as they are. -/
import Derived.Test.YtflbhifdololfaaGreatDoorH4
import Derived.Test.YtflbhifdololfaaGreatDoorA7
import Derived.Shelf.Abstract
import Derived.Deep.LoopGhost
namespace Go.Proofs.YtflbhifdololfaaGreatDoor
open Go.RowKit
set_option linter.unusedVariables false

theorem own_baseI {w : World} {D D' : Nat} {e : TypeId} {v : Value} {n k : Nat} {xs : List Value} (h : w.ownsRow D e k v n xs) (hD : D' ≤ D) : w.ownsRow D' e k v n xs := by
  refine ⟨h.1, ?_⟩
  rcases h.2 with hn | ⟨g, cap, cur, rfl, hb, rest⟩
  · exact .inl hn
  · exact .inr ⟨g, cap, cur, rfl, Nat.le_trans hD hb, rest⟩
theorem own_keepI {w w' : World} {B : Nat} {e : TypeId} {v : Value} {n k : Nat} {xs : List Value} (h : w.ownsRow B e k v n xs) (hk : ∀ g, v.ownBlock = some g → w'.heap[g]? = w.heap[g]?) : w'.ownsRow B e k v n xs := by
  refine ⟨h.1, ?_⟩
  rcases h.2 with hn | ⟨g, cap, cur, rfl, hb, hgg, rest⟩
  · exact .inl hn
  · exact .inr ⟨g, cap, cur, rfl, hb, (hk g rfl).trans hgg, rest⟩
/-- rising numbers -/
def ltN (x y : Nat) : Bool := decide (x < y)
theorem ltN_ord (N : Nat) : H.Ord ltN (· < N) := by
  refine ⟨fun a b _ _ h => ?_, fun a b c _ _ _ h1 h2 => ?_, fun a _ => ?_⟩
  · unfold H.le ltN at *; simp at h ⊢; omega
  · unfold H.le ltN at *; simp at h1 h2 ⊢; omega
  · unfold H.le ltN; simp
theorem order_ltN (n : Nat) : H.order ltN n = List.range n := by
  obtain ⟨h1, h2⟩ := H.order_ok (ltN_ord n)
  refine H.sorted_unique h1 h2 ?_ ?_
  · have := List.pairwise_lt_range (n := n)
    exact this.imp fun h => by unfold H.le ltN; simp; omega
  · intro x y _ _ h3 h4
    unfold H.le ltN at h3 h4; simp at h3 h4; omega
set_option maxHeartbeats 4000000 in
set_option maxRecDepth 100000 in
/-- the order's function where there is no comparison -/
theorem less_uns {w0 : World} {b p8 p9 : Nat} {v5 v3 : Value} (h8 : w0.heap[p8]? = some (.cells #[.nilFunc] 112 (0, 0))) (h9 : w0.heap[p9]? = some (.cells #[.bool false] 4 (0, 0))) (hp8 : p8 < b) (hp9 : p9 < b) (N : Nat) (hN : N ≤ 1000000) :
    LtOk w0 b 59 #[.pointer (some ⟨p8, 0, none⟩), v5, v3, .pointer (some ⟨p9, 0, none⟩)] ltN N := by
  intro W hW x y hx hy
  have k8 : W.cell? ⟨p8, 0, none⟩ = some .nilFunc := by rw [Lib.cell_of_heap ((hW.block p8 hp8).trans h8)]; rfl
  have k9 : W.cell? ⟨p9, 0, none⟩ = some (.bool false) := by rw [Lib.cell_of_heap ((hW.block p9 hp9).trans h9)]; rfl
  have qn : ∀ w : World, (binOp .neq 112 .nilFunc .nilFunc).run Tryz.prog w = .ok (.bool false) w := fun w => by kernel_rfl
  show Calls Tryz.prog 59 #[.int .i64 (x : Int), .int .i64 (y : Int), .pointer (some ⟨p8, 0, none⟩), v5, v3, .pointer (some ⟨p9, 0, none⟩)] W _
  clear h8 h9 hW
  obtain ⟨r, hr⟩ : ∃ r, r = ltN x y := ⟨_, rfl⟩
  rw [← hr]
  have HX := Lib.hid (show r = decide (x < y) from hr)
  clear hr
  go_enter Tryz.func59, Tryz.ntmps59
  go_wp2_with fail
  go_ret
  exact ⟨by rw [HX.out]; rfl, Below.refl _ _⟩
theorem below_heap {w w' : World} {b : Nat} (h : Below w.heap.size w w') {k : Nat} (hk : k < w.heap.size) {o : Obj} (ho : w.heap[k]? = some o) : w'.heap[k]? = some o := (h.block k hk).trans ho
/-- the memory of Order ahead of its loops -/
theorem order_start (a : Option Addr) (n c : Nat) (conv : ByteArray) (w : World) :
    let caps : Array Value := #[.pointer (some ⟨w.heap.size + 1 + 1, 0, none⟩), .pointer (some ⟨w.heap.size + 1, 0, none⟩), .pointer (some ⟨w.heap.size, 0, none⟩), .pointer (some ⟨w.heap.size + 1 + 1 + 1, 0, none⟩)]
    let w5 := ((((w.alloc (.cells #[.slice a n c] 54)).alloc (.cells #[.string conv] 9)).alloc (.cells #[.nilFunc] 112)).alloc (.cells #[.bool false] 4)).alloc (.cells #[.slice none 0 0, .func (.func 59) #[] caps] 120)
    ∃ w4 : World, w4.heap.size = w.heap.size + 1 + 1 + 1 + 1 ∧ w4.heap[w.heap.size + 1 + 1]? = some (.cells #[.nilFunc] 112 (0, 0)) ∧ w4.heap[w.heap.size + 1 + 1 + 1]? = some (.cells #[.bool false] 4 (0, 0)) ∧
      HAt w5 (w.heap.size + 1 + 1 + 1 + 1) (.slice none 0 0) (.func (.func 59) #[] caps) (H.fill ltN 0) 0 ∧ Below (w.heap.size + 1 + 1 + 1 + 1) w4 w5 ∧ Below w.heap.size w w5 := by
  intro caps w5
  obtain ⟨w4, hw4⟩ : ∃ w4, w4 = (((w.alloc (.cells #[.slice a n c] 54)).alloc (.cells #[.string conv] 9)).alloc (.cells #[.nilFunc] 112)).alloc (.cells #[.bool false] 4) := ⟨_, rfl⟩
  have hw5 : w5 = w4.alloc (.cells #[.slice none 0 0, .func (.func 59) #[] caps] 120) := by rw [hw4]
  refine ⟨w4, ?_⟩
  rw [hw5]
  have z2 : ((w.alloc (.cells #[.slice a n c] 54)).alloc (.cells #[.string conv] 9)).heap.size = w.heap.size + 1 + 1 := by simp
  have z3 : (((w.alloc (.cells #[.slice a n c] 54)).alloc (.cells #[.string conv] 9)).alloc (.cells #[.nilFunc] 112)).heap.size = w.heap.size + 1 + 1 + 1 := by simp
  have z4 : w4.heap.size = w.heap.size + 1 + 1 + 1 + 1 := by rw [hw4]; simp
  have h2 := heap_alloc_at ((w.alloc (.cells #[.slice a n c] 54)).alloc (.cells #[.string conv] 9)) (.cells #[.nilFunc] 112)
  rw [z2] at h2
  have h3 := heap_alloc_at (((w.alloc (.cells #[.slice a n c] 54)).alloc (.cells #[.string conv] 9)).alloc (.cells #[.nilFunc] 112)) (.cells #[.bool false] 4)
  rw [z3] at h3
  have h5 := heap_alloc_at w4 (.cells #[.slice none 0 0, .func (.func 59) #[] caps] 120)
  rw [z4] at h5
  refine ⟨z4, by rw [hw4]; exact (heap_alloc_lt _ _ _ (by rw [z3]; omega)).trans h2, by rw [hw4]; exact h3, ⟨h5, World.ownsRow_nil _ _ _ _⟩, ?_, ?_⟩
  · have := (Below.refl (w.heap.size + 1 + 1 + 1 + 1) w4).alloc (by rw [z4]; exact Nat.le_refl _) (.cells #[.slice none 0 0, .func (.func 59) #[] caps] 120)
    exact this
  · refine Below.alloc ?_ (by rw [z4]; omega) _
    rw [hw4]
    exact ((((Below.refl _ _).alloc (Nat.le_refl _) _).alloc (by simp) _).alloc (by simp; omega) _).alloc (by simp; omega) _

set_option maxHeartbeats 8000000 in
set_option maxRecDepth 100000 in
theorem Order_uns (a : Option Addr) (n c : Nat) (conv : ByteArray) (w : World) (hn : n ≤ 800000) :
    Calls Tryz.prog 27 #[.slice a n c, .string uns, .string conv] w fun e w' => (∃ v, e = .returned (.tuple #[v, .int .i64 0]) ∧ w'.ownsRow w.heap.size 3 1 v n (cellsH (List.range n))) ∧ Below w.heap.size w w' := by
  have H1 := Lib.hid by_uns
  have hu : (uns != uns) = false := by unfold bne; rw [ba_beq]; rfl
  have hu2 : uns = ⟨#[64, 117, 110, 115, 111, 114, 116, 101, 100]⟩ := rfl
  obtain ⟨w4, z4, s8, s9, hh5, hb45, hb5⟩ := order_start a n c conv w
  have hle := less_uns (v5 := .pointer (some ⟨w.heap.size + 1, 0, none⟩)) (v3 := .pointer (some ⟨w.heap.size, 0, none⟩)) (b := w.heap.size + 1 + 1 + 1 + 1) s8 s9 (by omega) (by omega) n (by omega)
  have HC : Hid (HCtx w4 (w.heap.size + 1 + 1 + 1 + 1) 59 (.pointer (some ⟨w.heap.size + 1 + 1, 0, none⟩)) (.pointer (some ⟨w.heap.size + 1, 0, none⟩)) (.pointer (some ⟨w.heap.size, 0, none⟩)) (.pointer (some ⟨w.heap.size + 1 + 1 + 1, 0, none⟩)) ltN n) :=
    ⟨hle, enters_of Tryz.func59 (by kernel_rfl) rfl⟩
  have HH5 := Lib.hid hh5
  have HB45 := Lib.hid hb45
  have HB5 := Lib.hid hb5
  have HOk := Lib.hid (H.fill_ok (ltN_ord n))
  clear z4 s8 s9 hh5 hb45 hb5 hle
  go_enter Tryz.func27, Tryz.ntmps27
  go_wp2_with fail
  refine (H1.out _).mono ?_
  rintro e _ ⟨rfl, rfl⟩
  rw [hu2]
  go_wp2_with fail
  go_loopw [29] (fun v29 wr => ∃ (k : Nat) (lv : Value), v29 = .int .i64 (k : Int) ∧ k ≤ n ∧ Hid (HAt wr (w.heap.size + 1 + 1 + 1 + 1) lv (.func (.func 59) #[] #[.pointer (some ⟨w.heap.size + 1 + 1, 0, none⟩), .pointer (some ⟨w.heap.size + 1, 0, none⟩), .pointer (some ⟨w.heap.size, 0, none⟩), .pointer (some ⟨w.heap.size + 1 + 1 + 1, 0, none⟩)]) (H.fill ltN k) k) ∧ Hid (Below (w.heap.size + 1 + 1 + 1 + 1) w4 wr) ∧ Hid (Below w.heap.size w wr)) (fun v29 _ => n - natI v29)
  case atStart => exact ⟨0, _, rfl, Nat.zero_le _, HH5, HB45, HB5⟩
  case round =>
    obtain ⟨k, lv, rfl, hk, HHr, HBr, HBw⟩ := hrel
    by_cases hlt : k < n
    · have hltI : (k : Int) < (n : Int) := by omega
      have HPu := Lib.hid (hpPush_any (x := k) HC.out HBr.out HHr.out (HOk.out k (by omega)).2.2 hlt (by omega))
      go_wp2_with fail
      refine HPu.out.mono ?_
      rintro e w1 ⟨rfl, ⟨g, cap, hh1⟩, hb1⟩
      have HH1 := Lib.hid hh1
      have HB1 := Lib.hid hb1
      clear hh1 hb1 HPu
      go_wp2_with fail
      go_roundw
      case rel => exact ⟨k + 1, _, rfl, by omega, HH1.out, HBr.out.trans HB1.out, HBw.out.trans (HB1.out.mono (by omega))⟩
      case measure => simp only [natI]; omega
    · obtain rfl : k = n := by omega
      have hltI : (k : Int) ≤ (k : Int) := Int.le_refl _
      go_wp2_with fail
      go_loopg [12] k (fun gk v12 wr2 => ∃ (D : List Nat) (f' : H.Row) (lv' : Value), Hid (HAt wr2 (w.heap.size + 1 + 1 + 1 + 1) lv' (.func (.func 59) #[] #[.pointer (some ⟨w.heap.size + 1 + 1, 0, none⟩), .pointer (some ⟨w.heap.size + 1, 0, none⟩), .pointer (some ⟨w.heap.size, 0, none⟩), .pointer (some ⟨w.heap.size + 1 + 1 + 1, 0, none⟩)]) f' gk) ∧ Hid (H.Heap ltN f' gk ∧ H.All (· < k) f' gk) ∧ Hid (D ++ H.drain ltN gk f' = H.order ltN k) ∧ Hid (wr2.ownsRow (w.heap.size + 1 + 1 + 1 + 1 + 1) 3 1 v12 D.length (cellsH D)) ∧ Hid (∀ g, lv'.ownBlock = some g → v12.ownBlock ≠ some g) ∧ Hid (Below (w.heap.size + 1 + 1 + 1 + 1) w4 wr2) ∧ Hid (Below w.heap.size w wr2) ∧ gk ≤ k ∧ D.length ≤ k)
      case atStart => exact ⟨[], _, lv, HHr, ⟨(HOk.out k (Nat.le_refl k)).1, (HOk.out k (Nat.le_refl k)).2.2⟩, rfl, World.ownsRow_nil _ _ _ _, (fun g h1 h2 => by cases h2), HBr, HBw, Nat.le_refl k, Nat.zero_le _⟩
      case round =>
        obtain ⟨D, f', lv', HH2, HP2, HE2, HO2, HX2, HB2, HW2, hgk, hDk⟩ := hrel
        have HLn := Lib.hid (hLen_any HH2.out)
        rcases Nat.eq_zero_or_pos gk with h0 | h0
        · subst h0
          have hD : D = List.range k := by
            have h := HE2.out
            rw [order_ltN] at h
            simpa [H.drain] using h
          have HD := Lib.hid hD
          clear hD
          go_wp2_with fail
          refine HLn.out.mono ?_
          rintro e w2 ⟨rfl, rfl⟩
          clear HLn
          go_wp2_with fail
          go_ret2
          refine ⟨⟨_, rfl, ?_⟩, HW2.out⟩
          have h := HO2.out
          rw [HD.out, List.length_range] at h
          exact own_baseI h (by omega)
        · obtain ⟨j, hj⟩ : ∃ j, gk = j + 1 := ⟨gk - 1, by omega⟩
          subst hj
          have hj1 : (0 : Int) < (j : Int) + 1 := by omega
          have HPo := Lib.hid (hpPop_any HC.out HB2.out HH2.out HP2.out.2 (by omega))
          have HPk := Lib.hid (H.pop_ok (ltN_ord k) HP2.out.2 HP2.out.1)
          obtain ⟨x, hx⟩ : ∃ x, x = f' 0 := ⟨_, rfl⟩
          have hE3 : (D ++ [x]) ++ H.drain ltN j (H.pop ltN f' j) = H.order ltN k := by
            rw [← HE2.out, hx]; simp [H.drain]
          have HE3 := Lib.hid hE3
          rw [← hx] at HPo
          clear hx hE3
          obtain ⟨i0, hi, hz0, hz1, hz2⟩ := info_parts infoH
          go_wp2_with fail
          refine HLn.out.mono ?_
          rintro e w2 ⟨rfl, rfl⟩
          clear HLn
          go_wp2_with fail
          refine HPo.out.mono ?_
          rintro e w3 ⟨rfl, ⟨lv3, hh3, hl3⟩, ha3⟩
          have hz3 := ha3.size
          have HH3 := Lib.hid hh3
          have HA3 := Lib.hid ha3
          have HL3 := Lib.hid hl3
          clear hh3 ha3 hl3 HPo
          have HO3 : Hid ((w3.alloc (.cells #[.int .i64 (x : Int)] 3)).ownsRow (w.heap.size + 1 + 1 + 1 + 1 + 1) 3 1 u12 D.length (cellsH D)) := by
            have h := own_keepI HO2.out (w' := w3) (fun g hg => HA3.out.block g (HO2.out.lt g hg).2 (fun hm => by
              rcases List.mem_cons.1 hm with h | h
              · have := (HO2.out.lt g hg).1; omega
              · exact HX2.out g (by simpa using h) hg))
            exact h.alloc _
          have hwz : w.heap.size + 1 + 1 + 1 + 1 + 1 ≤ (w3.alloc (.cells #[.int .i64 (x : Int)] 3)).heap.size := by have := HH3.out.lt; simp; omega
          go_wp2_with (at_builtin; go_loud (refine wpList_append_lies _ rfl _ _ 58 rfl (w.heap.size + 1 + 1 + 1 + 1 + 1) 3 i0 (.int .i64 0) 1 8 undH hi hz0 hz1 hz2 rfl (by decide) u12 D.length (cellsH D) rfl HO3.out ⟨w3.heap.size, 0, none⟩ 1 1 [.int .i64 (x : Int)] rfl rfl (World.news_of_block (heap_alloc_at w3 (.cells #[.int .i64 (x : Int)] 3))) (by simp [Value.oneCell']) (by decide) (by unfold maxLen; omega) (by omega) hwz _ rfl ?_))
          intro g2 cap2 w4' hown hgrow hat hlt3
          have hlvb : ∀ g, lv3.ownBlock = some g → w.heap.size + 1 + 1 + 1 + 1 + 1 ≤ g ∧ g < w3.heap.size ∧ u12.ownBlock ≠ some g := fun g hg => ⟨(HH3.out.row.lt g hg).1, (HH3.out.row.lt g hg).2, HX2.out g (HL3.out ▸ hg)⟩
          have hh4 : HAt w4' (w.heap.size + 1 + 1 + 1 + 1) lv3 (.func (.func 59) #[] #[.pointer (some ⟨w.heap.size + 1 + 1, 0, none⟩), .pointer (some ⟨w.heap.size + 1, 0, none⟩), .pointer (some ⟨w.heap.size, 0, none⟩), .pointer (some ⟨w.heap.size + 1 + 1 + 1, 0, none⟩)]) (H.pop ltN f' j) j := by
            refine (HH3.out.below ((Below.refl _ _).alloc (Nat.le_refl _) (.cells #[.int .i64 (x : Int)] 3))).keep fun y hy => ?_
            have hyl : y < (w3.alloc (.cells #[.int .i64 (x : Int)] 3)).heap.size := by
              rcases hy with rfl | hy
              · have := HH3.out.lt; simp; omega
              · have := (hlvb y hy).2.1; simp; omega
            refine hgrow.block y hyl (fun e => ?_)
            rcases hy with rfl | hy
            · have := (HO3.out.lt _ e.symm).1; omega
            · exact (hlvb y hy).2.2 e.symm
          have hb4 : Below (w.heap.size + 1 + 1 + 1 + 1) w3 w4' := ((Below.refl _ w3).alloc (by have := HH3.out.lt; omega) _).grown hgrow (by have := HH3.out.lt; simp; omega) (fun y hy => by have := (HO3.out.lt y hy).1; omega)
          have hb3 : Below (w.heap.size + 1 + 1 + 1 + 1) w2 w3 := HA3.out.below (by have := HH2.out.lt; omega) (fun y hy => by
            rcases List.mem_cons.1 hy with h | h
            · omega
            · have := (HH2.out.row.lt y (by simpa using h)).1; omega)
          have HH4 := Lib.hid hh4
          have HO4 : Hid (w4'.ownsRow (w.heap.size + 1 + 1 + 1 + 1 + 1) 3 1 (.slice (some ⟨g2, 0, none⟩) (D.length + 1) cap2) (D ++ [x]).length (cellsH (D ++ [x]))) := by
            have e : cellsH (D ++ [x]) = cellsH D ++ [.int .i64 (x : Int)] := by simp [cellsH]
            rw [e, List.length_append]; exact hown
          have HX4 : Hid (∀ g, lv3.ownBlock = some g → (Value.slice (some ⟨g2, 0, none⟩) (D.length + 1) cap2).ownBlock ≠ some g) := by
            intro g hg h2
            injection h2 with h2
            have h3 : g2 = g := h2
            have h4 := hlvb g hg
            rcases hat with h5 | h5
            · rw [h3] at h5; exact h4.2.2 h5
            · have h6 : (w3.alloc (.cells #[.int .i64 (x : Int)] 3)).heap.size = w3.heap.size + 1 := by simp
              omega
          have HB4 := Lib.hid (HB2.out.trans (hb3.trans hb4))
          have HW4 := Lib.hid (HW2.out.trans ((hb3.trans hb4).mono (by omega)))
          have hdl : (D ++ [x]).length ≤ k := by
            have h := congrArg List.length HE3.out
            rw [H.order_len (ltN_ord k), List.length_append] at h
            omega
          clear hown hgrow hat hlt3 hh4 hb4 hb3 hlvb hi hz0 hz1 hz2 hwz
          go_wp2_with fail
          go_roundg j
          case measure => omega
          case rel => exact ⟨D ++ [x], _, lv3, HH4, ⟨HPk.out.1, HPk.out.2.2.1⟩, HE3, HO4, HX4, HB4, HW4, by omega, hdl⟩
end Go.Proofs.YtflbhifdololfaaGreatDoor
