/- The law AssocNil. -/
import Derived.Test.YtgmdpgflkelpfaaGreatDoorA7
import Derived.RangeFuncNested
import Derived.RangeFuncBound
import Derived.RangeFuncCalls
import Derived.RangeFuncLeaves
import Derived.OwnWalkIn
import Derived.TacticsInMore
import Derived.Shelf.Abstract
namespace Go.Proofs.YtgmdpgflkelpfaaGreatDoor
open Go.RowKit Go.Shelf
set_option linter.unusedVariables false

theorem cell_lt {w : World} {p : Addr} {v : Value} (h : w.cell? p = some v) : p.block < w.heap.size := by
  rcases Nat.lt_or_ge p.block w.heap.size with h' | h'
  · exact h'
  · exfalso
    unfold World.cell? at h
    rw [Array.getElem?_eq_none h'] at h
    cases h
theorem cell_next {w w' : World} (hb : Below w.heap.size w w') {p : Addr} {v : Value} (h : w.cell? p = some v) : w'.cell? p = some v := (hb.cell (cell_lt h)).trans h
theorem heap_next {w w' : World} (hb : Below w.heap.size w w') {D : Nat} {o : Obj} (h : w.heap[D]? = some o) : w'.heap[D]? = some o := (hb.block D (lt_of_heap h)).trans h
theorem below_next {n : Nat} {w w1 w1' w2 : World} (hn : n ≤ w.heap.size) (h : Below n w w1) (hb : Below w1'.heap.size w1' w2) (e : w1' = w1 ∨ w1' = w1.drew) : Below n w w2 := by
  rcases e with rfl | rfl
  · exact h.trans (hb.mono (Nat.le_trans hn h.size))
  · exact h.drew.trans (hb.mono (Nat.le_trans hn h.size))
theorem sall1_nil (l Bs : Nat) (w : World) (hBs : w.cell? ⟨Bs, 0, none⟩ = some (.slice none 0 0)) :
    Calls Tryz.prog 36 #[.func (.yield l) #[] #[], .pointer (some ⟨Bs, 0, none⟩)] w fun e w' => e = .returned (.tuple #[]) ∧ w = w' := by
  go_enter Tryz.func36, Tryz.ntmps36
  go_wp2_with fail
  refine wp_loop_rounds 1 ?_
  rw [rounds_succ]
  go_wp2_with fail
  go_end0
  exact ⟨rfl, rfl⟩
theorem sall_stops (n Bs : Nat) (w : World) (hB : Bs < w.heap.size) (hBs : w.cell? ⟨Bs, 0, none⟩ = some (.slice none 0 0)) (n₀ : Nat) :
    SeqStopsK Fence.wide n Tryz.prog 36 #[.pointer (some ⟨Bs, 0, none⟩)] (fun x : Empty => (nomatch x : Array Value)) (Below n₀) (fun ys => ys = []) (fun _ => False) 0 w := fun l J Jx W hW _ _ hY h0 =>
  callsIn_wide.2 ((sall1_nil l Bs W ((hW.cell (p := ⟨Bs, 0, none⟩) hB).trans hBs)).mono fun e W' ⟨he, hw⟩ => ⟨⟨_, he⟩, .inl ⟨[], rfl, hw ▸ h0⟩⟩)

set_option maxHeartbeats 4000000 in
set_option maxRecDepth 100000 in
theorem nil_any (k : ByteArray) (w : World) : Calls Tryz.prog 5 #[.string k] w fun e w' => e = .returned (.bool true) ∧ Below w.heap.size w w' := by
  have HX := Lib.hid (fixed_any w)
  have HK := Lib.hid keys_nil
  have hu : uns = ⟨#[64, 117, 110, 115, 111, 114, 116, 101, 100]⟩ := rfl
  rw [hu] at HK
  clear hu
  refine (callsIn_wide (n := 9)).1 ?_
  refine callsIn_of_wp_marks Tryz.func5 rfl trivial ?_ rfl
  simp only [Tryz.ntmps5, List.size_toArray, List.length_cons, List.length_nil, Nat.reduceAdd, Nat.reduceSub, Array.replicate_succ, Array.replicate_zero, List.push_toArray, List.append_toArray, List.nil_append, List.cons_append]
  refine wpIn_wide.2 ?_
  go_wp2_with fail
  refine HX.out.mono ?_
  rintro e w1 ⟨rfl, hb1⟩
  have HB1 := Lib.hid hb1
  clear hb1 HX
  go_wp2_with fail
  refine (clear_nil _).mono ?_
  rintro e _ ⟨rfl, rfl⟩
  go_wp2_with fail
  refine (Get_nil k _).mono ?_
  rintro e w2 ⟨rfl, hb2⟩
  have hs1 := HB1.out.size
  have hs2 := hb2.size
  have HB2 := Lib.hid (HB1.out.trans (hb2.mono hs1))
  clear hb2 HB1
  go_wp2_with fail
  refine (sub_nil k _).mono ?_
  rintro e _ ⟨rfl, rfl⟩
  go_wp2_with fail
  refine (HK.out _).mono ?_
  rintro e w3 ⟨rfl, hb3⟩
  have c0 : w3.cell? ⟨w2.heap.size, 0, none⟩ = some (.int .i64 0) := by rw [hb3.cell (by simp)]; simp [go_sem]
  have c1 : w3.cell? ⟨w2.heap.size, 1, none⟩ = some (.float .f64 0) := by rw [hb3.cell (by simp)]; simp [go_sem]
  have c2 : w3.cell? ⟨w2.heap.size, 2, none⟩ = some (.string ⟨#[]⟩) := by rw [hb3.cell (by simp)]; simp [go_sem]
  have hs3 := hb3.size
  rw [World.size_alloc] at hs3
  have HB3 := Lib.hid ((HB2.out.alloc (by omega) (.cells #[.int .i64 0, .float .f64 0, .string ⟨#[]⟩] 32)).trans (hb3.mono (by simp; omega)))
  clear hb3 HB2
  go_wp2_with fail
  refine (all_nil _).mono ?_
  rintro e w4 ⟨rfl, hw4⟩
  have e4 : w4.heap.size = w3.heap.size + 2 := by rw [hw4]; simp
  have hb4 : Below w3.heap.size w3 w4 := by rw [hw4]; exact ((Below.refl _ _).alloc (Nat.le_refl _) _).alloc (by simp) _
  have d0 : w4.cell? ⟨w3.heap.size, 0, none⟩ = some (.int .i64 0) := by rw [hw4, World.cell?_alloc_past _ _ _ (by simp)]; simp [go_sem]
  have d1 : w4.cell? ⟨w3.heap.size + 1, 0, none⟩ = some (.slice none 0 0) := by rw [hw4, World.cell?_alloc_at _ _ _ _ (by simp)]; rfl
  have k0 := (hb4.cell (p := ⟨w2.heap.size, 0, none⟩) (by simp; omega)).trans c0
  have k1 := (hb4.cell (p := ⟨w2.heap.size, 1, none⟩) (by simp; omega)).trans c1
  have k2 := (hb4.cell (p := ⟨w2.heap.size, 2, none⟩) (by simp; omega)).trans c2
  have HB4 := Lib.hid (HB3.out.trans (hb4.mono (by omega)))
  have hs4 : w2.heap.size < w3.heap.size := by omega
  clear hw4 c0 c1 c2 hb4 HB3 HK
  rw [World.size_alloc]
  go_wp2_with fail
  refine (wpIn_wide (n := 9)).1 ?_
  refine wpIn_rangeFunc_ownF (α := Empty) rfl (by decide) (gf := 36) (lb := #[.pointer (some ⟨w3.heap.size + 1, 0, none⟩)]) rfl trivial (enters_of Tryz.func36 (by kernel_rfl) rfl)
    (sall_stops 8 (w3.heap.size + 1) w4 (by omega) d1 w4.heap.size) belowK_t (belowK_b (Nat.le_refl _)) (Below.refl _ _) (fun x => nomatch x) (fun _ W => Below w4.heap.size w4 W) (fun _ _ _ => False)
    (ownFrom_below (Nat.le_refl _) (Nat.le_refl _)) (fun _ _ _ _ _ hs _ _ => hs) (Below.refl _ _) (fun x => nomatch x) (fun l x => nomatch x) (fun l pre x => nomatch x) ?done (fun _ _ _ _ _ _ h => h.elim)
  case done =>
    rintro D ys w5 hD rfl hb5 hK
    have p0 := (hb5.cell (p := ⟨w2.heap.size, 0, none⟩) (by simp; omega)).trans k0
    have p1 := (hb5.cell (p := ⟨w2.heap.size, 1, none⟩) (by simp; omega)).trans k1
    have p2 := (hb5.cell (p := ⟨w2.heap.size, 2, none⟩) (by simp; omega)).trans k2
    have p3 := (hb5.cell (p := ⟨w3.heap.size, 0, none⟩) (by simp; omega)).trans d0
    have HB4sz : w.heap.size ≤ w4.heap.size := HB4.out.size
    have HB5 := Lib.hid (HB4.out.trans (hb5.mono (by have := HB4.out.size; omega)))
    have HK := Lib.hid hK
    have hs5 := hb5.size
    clear hb5 hK d0 d1 k0 k1 k2 HB4
    go_wp2_with fail
    go_region_held3 (fun w' => w'.cell? ⟨w2.heap.size, 0, none⟩ = some (.int .i64 0) ∧ w'.cell? ⟨w2.heap.size, 1, none⟩ = some (.float .f64 0) ∧ w'.cell? ⟨w2.heap.size, 2, none⟩ = some (.string ⟨#[]⟩) ∧ w'.cell? ⟨w3.heap.size, 0, none⟩ = some (.int .i64 0))
      (exact ⟨p0, p1, p2, p3⟩)
      (first
        | (go_at_call 14; refine (len_nil _).mono ?_; rintro e _ ⟨rfl, rfl⟩)
        | (go_at_call 17; refine (total_nil _).mono ?_; rintro e _ ⟨rfl, rfl⟩)
        | (go_at_call 8; refine (kind_nil k _).mono ?_; rintro e w6 ⟨rfl, hb6⟩
           have p0 := cell_next hb6 p0
           have p1 := cell_next hb6 p1
           have p2 := cell_next hb6 p2
           have p3 := cell_next hb6 p3
           have HB6 := Lib.hid (below_next (Nat.le_refl _) HB5.out hb6 (by first | exact .inl rfl | exact .inr rfl))
           have HK6 := Lib.hid (heap_next hb6 HK.out))
        | (go_at_call 20; refine (same_zero _).mono ?_; rintro e w7 ⟨rfl, hb7⟩
           have p0 := cell_next hb7 p0
           have p1 := cell_next hb7 p1
           have p2 := cell_next hb7 p2
           have p3 := cell_next hb7 p3
           have HB7 := Lib.hid (below_next (Nat.le_refl _) HB6.out hb7 (by first | exact .inl rfl | exact .inr rfl))
           have HK7 := Lib.hid (heap_next hb7 HK6.out))
        | (go_at_call 9; refine (set_nil k _ _ _ _).mono ?_; rintro e w8 ⟨rfl, hb8⟩
           have p0 := cell_next hb8 p0
           have p1 := cell_next hb8 p1
           have p2 := cell_next hb8 p2
           have p3 := cell_next hb8 p3
           have HB8 := Lib.hid (below_next (Nat.le_refl _) HB7.out hb8 (by first | exact .inl rfl | exact .inr rfl))
           have HK8 := Lib.hid (heap_next hb8 HK7.out))
        | (go_at_call 15; refine (delete_nil k _).mono ?_; rintro e w9 ⟨rfl, hb9⟩
           have p0 := cell_next hb9 p0
           have p1 := cell_next hb9 p1
           have p2 := cell_next hb9 p2
           have p3 := cell_next hb9 p3
           have HB9 := Lib.hid (below_next (Nat.le_refl _) HB8.out hb9 (by first | exact .inl rfl | exact .inr rfl))
           have HK9 := Lib.hid (heap_next hb9 HK8.out)))
    go_wp2_with fail
    refine ⟨by simp, .inl ⟨_, _, rfl, run_takeDeferred HK9.out, ?_⟩⟩
    refine ⟨_, results_tmp rfl _ _ _, rfl, ?_⟩
    exact HB9.out.trans (belowK_b (w := w) (Nat.le_refl _) w9 D _ _ (by have := HB4sz; omega) HK9.out rfl rfl)
end Go.Proofs.YtgmdpgflkelpfaaGreatDoor
