/- Package assoc: Get and Total. -/
import Derived.Test.YtflbhifdololfaaGreatDoorA1
import Derived.Test.YtflbhifdololfaaGreatDoorG2
import Derived.Deep.RegionHeld3
namespace Go.Proofs.YtflbhifdololfaaGreatDoor
open Go.RowKit
set_option linter.unusedVariables false

set_option maxHeartbeats 1000000 in
theorem Get_any (p m c : Nat) (clk : Int) (k : ByteArray) (es : Array MapEntry) (r : Option (Nat × Value)) (x0 x1 : Int) (x2 : Nat) (x3 : ByteArray) (x4 : Option Addr) (w : World)
    (hA : ArrAt w p m clk es c) (hf : fnd k es.toList = some r) (hr : slotOf r = .agg #[.int .i64 x0, .int .i64 x1, .float .f64 x2, .string x3, .pointer x4]) :
    Calls Tryz.prog 33 #[.pointer (some ⟨p, 0, none⟩), .string k] w fun e w' =>
      e = .returned (.tuple #[.agg #[.int .i64 x1, .float .f64 x2, .string x3], .bool (kindOf r x4 == 1)]) ∧ Below w.heap.size w w' := by
  have HA := Lib.hid hA
  have Hf := Lib.hid hf
  have Hr := Lib.hid hr
  clear hA hf hr
  go_enter Tryz.func33, Tryz.ntmps33
  go_wp2_with fail
  refine (get_any p m c clk k es r x0 x1 x2 x3 x4 _ (HA.out.keep ((Apart.refl [] w).alloc _) (by simp) (by simp)) Hf.out Hr.out).mono ?_
  rintro e w1 ⟨rfl, hb⟩
  have hb' : Below w.heap.size w w1 := (((Below.refl _ _).alloc (Nat.le_refl _) _).trans (hb.mono (by simp)))
  have hs1 : w.heap.size < w1.heap.size := by have := hb.size; simp at this; omega
  have r0 : w1.cell? ⟨w.heap.size, 0, none⟩ = some (.int .i64 0) := by rw [hb.cell (by simp)]; simp [go_sem]
  have r1 : w1.cell? ⟨w.heap.size, 1, none⟩ = some (.float .f64 0) := by rw [hb.cell (by simp)]; simp [go_sem]
  have r2 : w1.cell? ⟨w.heap.size, 2, none⟩ = some (.string ⟨#[]⟩) := by rw [hb.cell (by simp)]; simp [go_sem]
  have rf : ∀ i, w1.frozen? ⟨w.heap.size, i, none⟩ = false := by intro i; rw [hb.frozen (by simp)]; simp [go_sem]
  have RF := Lib.hid rf
  have HB := Lib.hid hb'
  have HA1 := Lib.hid (HA.out.below hb')
  clear hb hb' HA rf
  go_wp2_with fail
  generalize hW2 : World.alloc _ _ = W2
  have z2 : W2.heap.size = w1.heap.size + 1 := by rw [← hW2]; simp
  have q0 : W2.cell? ⟨w.heap.size, 0, none⟩ = some (.int .i64 0) := by rw [← hW2, World.cell?_alloc_past _ _ _ hs1]; exact r0
  have q1 : W2.cell? ⟨w.heap.size, 1, none⟩ = some (.float .f64 0) := by rw [← hW2, World.cell?_alloc_past _ _ _ hs1]; exact r1
  have q2 : W2.cell? ⟨w.heap.size, 2, none⟩ = some (.string ⟨#[]⟩) := by rw [← hW2, World.cell?_alloc_past _ _ _ hs1]; exact r2
  have qf : ∀ i, W2.frozen? ⟨w.heap.size, i, none⟩ = false := by
    intro i; rw [← hW2, World.frozen?_of_block (heap_alloc_lt _ _ _ (by exact hs1))]; exact RF.out i
  have t1 : W2.cell? ⟨w1.heap.size, 1, none⟩ = some (.int .i64 x1) := by rw [← hW2]; simp [go_sem]
  have t2 : W2.cell? ⟨w1.heap.size, 2, none⟩ = some (.float .f64 x2) := by rw [← hW2]; simp [go_sem]
  have t3 : W2.cell? ⟨w1.heap.size, 3, none⟩ = some (.string x3) := by rw [← hW2]; simp [go_sem]
  have hap : Apart [] w1 W2 := by rw [← hW2]; exact (Apart.refl [] w1).alloc _
  have HA2 := Lib.hid (HA1.out.keep hap (by simp) (by simp))
  have HB2 := Lib.hid (show Below w.heap.size w W2 by rw [← hW2]; exact HB.out.alloc HB.out.size _)
  have QF := Lib.hid qf
  clear hap hW2 r0 r1 r2 RF HB HA1 qf
  go_region_held3 (fun w' => w'.cell? ⟨w1.heap.size, 1, none⟩ = some (.int .i64 x1) ∧ w'.cell? ⟨w1.heap.size, 2, none⟩ = some (.float .f64 x2) ∧ w'.cell? ⟨w1.heap.size, 3, none⟩ = some (.string x3))
    (first | exact ⟨t1, t2, t3⟩ | exact ⟨s1, s2, s3⟩ | (refine ⟨?_, ?_, ?_⟩ <;> (rw [World.cell?_setCell_far _ _ _ _ (by simp; omega), World.cell?_setCell_far _ _ _ _ (by simp; omega), World.cell?_setCell_far _ _ _ _ (by simp; omega)]; assumption)))
    (first | (go_at_call 31; refine (kind_any p m c clk k es r x0 x1 x2 x3 x4 _ (HA2.out.below (by simpa [z2] using (Below.refl W2.heap.size W2).drew)) Hf.out Hr.out).mono ?_; rintro e w3 ⟨rfl, hb2⟩
              have u0 : w3.cell? ⟨w.heap.size, 0, none⟩ = some (.int .i64 0) := (hb2.cell (by simp [z2]; omega)).trans q0
              have u1 : w3.cell? ⟨w.heap.size, 1, none⟩ = some (.float .f64 0) := (hb2.cell (by simp [z2]; omega)).trans q1
              have u2 : w3.cell? ⟨w.heap.size, 2, none⟩ = some (.string ⟨#[]⟩) := (hb2.cell (by simp [z2]; omega)).trans q2
              have s1 : w3.cell? ⟨w1.heap.size, 1, none⟩ = some (.int .i64 x1) := (hb2.cell (by simp [z2])).trans t1
              have s2 : w3.cell? ⟨w1.heap.size, 2, none⟩ = some (.float .f64 x2) := (hb2.cell (by simp [z2])).trans t2
              have s3 : w3.cell? ⟨w1.heap.size, 3, none⟩ = some (.string x3) := (hb2.cell (by simp [z2])).trans t3
              have v0 : w3.frozen? ⟨w.heap.size, 0, none⟩ = false := (hb2.frozen (by simp [z2]; omega)).trans (QF.out 0)
              have v1 : w3.frozen? ⟨w.heap.size, 1, none⟩ = false := (hb2.frozen (by simp [z2]; omega)).trans (QF.out 1)
              have v2 : w3.frozen? ⟨w.heap.size, 2, none⟩ = false := (hb2.frozen (by simp [z2]; omega)).trans (QF.out 2)))
  go_wp2
  refine bodyPost_ret (v := .tuple #[.agg #[.int .i64 x1, .float .f64 x2, .string x3], .bool (kindOf r x4 == 1)]) (by simp [results, Tryz.results33, go_sem, *]) rfl ⟨rfl, ?_⟩
  have := (hb2.mono (show w.heap.size ≤ _ by simp [z2]; omega))
  exact ((((HB2.out.drew).trans this).setCell (by simp) _).setCell (by simp) _).setCell (by simp) _

/-- the array at p counts n values; d bounds how deep it goes -/
def Tot : Nat → World → Nat → Int → Prop
  | 0, _, _, _ => False
  | d + 1, w, p, n => ∃ (m : Nat) (clk : Int) (es : Array MapEntry) (c : Nat) (f : MapEntry → Int), ArrAt w p m clk es c ∧ (es.toList.map (·.born)).Nodup ∧ n = sumAll f es ∧
      ∀ e ∈ es.toList, e.born < c ∧ 0 ≤ f e ∧ ∃ (x0 x1 : Int) (x2 : Nat) (x3 : ByteArray) (x4 : Option Addr), e.val = .agg #[.int .i64 x0, .int .i64 x1, .float .f64 x2, .string x3, .pointer x4] ∧
        ((x4 = none ∧ f e = 1) ∨ ∃ q, x4 = some ⟨q, 0, none⟩ ∧ Tot d w q (f e))

theorem Tot.keep {S : List Nat} : ∀ (d : Nat) {w w' : World} {p : Nat} {n : Int}, Tot d w p n → Below w.heap.size w w' → Tot d w' p n
  | 0, _, _, _, _, h, _ => h
  | d + 1, w, w', p, n, ⟨m, clk, es, c, f, hA, hn, hs, he⟩, hb => ⟨m, clk, es, c, f, hA.below hb, hn, hs, fun e hm => by
      obtain ⟨h1, h2, x0, x1, x2, x3, x4, hv, hx⟩ := he e hm
      refine ⟨h1, h2, x0, x1, x2, x3, x4, hv, ?_⟩
      rcases hx with hx | ⟨q, hq, ht⟩
      · exact .inl hx
      · exact .inr ⟨q, hq, Tot.keep (S := S) d ht hb⟩⟩

theorem Tot.nonneg {d : Nat} {w : World} {p : Nat} {n : Int} (h : Tot d w p n) : 0 ≤ n := by
  cases d with
  | zero => exact h.elim
  | succ d =>
    obtain ⟨m, clk, es, c, f, hA, hn, hs, he⟩ := h
    have := sumSeen_le (f := f) (es := es) #[] (fun e hm => (he e hm).2.1)
    rw [hs]; omega

set_option maxHeartbeats 1000000 in
theorem Total_any : ∀ (d : Nat) (p : Nat) (n : Int) (w : World), Tot d w p n → n ≤ 1000000000 →
    Calls Tryz.prog 39 #[.pointer (some ⟨p, 0, none⟩)] w fun e w' => e = .returned (.int .i64 n) ∧ Below w.heap.size w w'
  | 0, _, _, _, h, _ => h.elim
  | d + 1, p, n, w, h, hn => by
    have IH := Lib.hid (Total_any d)
    obtain ⟨m, clk, es, c, f, hA, hnd, hs, he⟩ := h
    have hp := hA.ltp
    have hms := hA.ltm
    have h0 := hA.c0
    have hbo : ∀ e ∈ es.toList, e.born < c := fun e hm => (he e hm).1
    have hfn : ∀ e ∈ es.toList, 0 ≤ f e := fun e hm => (he e hm).2.1
    have BO := Lib.hid hbo; have FN := Lib.hid hfn; have HE := Lib.hid he; have ND := Lib.hid hnd
    have HS := Lib.hid hs
    have HM := Lib.hid hA.map
    have hrg := run_range_map (P := Tryz.prog) w 125 _ _ m undMap es c hA.map
    clear hA hbo hfn he hnd hs
    go_enter Tryz.func39, Tryz.ntmps39
    go_wp2
    go_loopw [3] (fun v wr => ∃ seen : Array Nat, v = .int .i64 (sumSeen f es seen) ∧ wr.heap[w.heap.size]? = some (.mapIter (some m) c seen c) ∧ Below w.heap.size w wr)
      (fun v wr => (leftOf' es (wr.iterSeen w.heap.size)).size)
    case atStart => exact ⟨#[], by rw [sumSeen_nil], heap_alloc_at _ _, (Below.refl _ _).alloc (Nat.le_refl _) _⟩
    case round =>
      obtain ⟨seen, rfl, hr, hbw⟩ := hrel
      have hrl := lt_of_heap hr
      have HR := Lib.hid hr
      have HB := Lib.hid hbw
      have HI : Hid (wr.iterSeen w.heap.size = seen) := by show wr.iterSeen w.heap.size = seen; simp [World.iterSeen, hr]
      clear hr hbw
      by_cases hl : leftOf' es seen = #[]
      · have HL := Lib.hid hl
        clear hl
        have HMr : Hid (wr.heap[m]? = some (.map es c)) := (HB.out.block m hms).trans HM.out
        go_wp2_with (at_next; refine wpList_next_over _ rfl _ rfl w.heap.size m c c seen es c rfl HR.out HMr.out BO.out HL.out ?_)
        go_ret
        exact ⟨by rw [HS.out, ← sumSeen_all HL.out]; rfl, HB.out⟩
      · have HL := Lib.hid hl
        clear hl
        have HMr : Hid (wr.heap[m]? = some (.map es c)) := (HB.out.block m hms).trans HM.out
        go_wp2_with (first
          | (at_next; refine wpList_next_step _ rfl _ rfl w.heap.size m c c seen es c rfl HR.out HMr.out BO.out BO.out HL.out ?_; intro e w1 w2 he hw1 hw2
             obtain ⟨q1, q2, x0, x1, x2, x3, x4, hv, hx⟩ := HE.out e (left_mem he).1
             have HV := Lib.hid hv
             have HE1 := Lib.hid he
             have hh1 : w1.heap = wr.heap := by rcases hw1 with rfl | rfl <;> rfl
             have HR2 := Lib.hid (show w2.heap[w.heap.size]? = some (.mapIter (some m) c (seen.push e.born) c) by rw [hw2]; exact setObj'_same _ _ _ (by rw [hh1]; exact hrl))
             have hB2 : Below w.heap.size w w2 := by rw [hw2]; rcases hw1 with rfl | rfl; exact Below.setObj' HB.out _ (Nat.le_refl _) _; exact Below.setObj' HB.out.drew _ (Nat.le_refl _) _
             have HM2 := Lib.hid ((hB2.block m hms).trans HM.out)
             have HB2 := Lib.hid hB2
             have hz2 : w.heap.size < w2.heap.size := lt_of_heap HR2.out
             have b1 := (sumSeen_le (f := f) (es := es) (seen.push e.born) FN.out).2
             have b2 := (sumSeen_le (f := f) (es := es) seen FN.out).1
             rw [sumSeen_push ND.out he, ← HS.out] at b1
             clear hv he hw1 hw2 hh1 hB2
             rcases hx with ⟨rfl, hf1⟩ | ⟨q, rfl, ht⟩)
          | (refine wpList_entry _ rfl _ rfl w.heap.size m c c seen es e rfl HR2.out HM2.out (find_born' _ ND.out (left_mem HE1.out).1) ?_; rw [HV.out])
          | (go_at_call 39; refine (IH.out q (f e) _ (Tot.keep (S := []) d ht (by exact ((HB2.out.alloc HB2.out.size _)))) (by omega)).mono ?_; rintro e' w5 ⟨rfl, hb5⟩))
        · have hh := (heap_alloc_lt _ (.cells #[.int .i64 x0, .int .i64 x1, .float .f64 x2, .string x3, .pointer none] 129) _ hz2).trans HR2.out
          refine ⟨⟨seen.push e.born, by rw [sumSeen_push ND.out HE1.out, hf1], hh, HB2.out.alloc HB2.out.size _⟩, ?_⟩
          rw [HI.out, show (World.alloc w2 (.cells #[.int .i64 x0, .int .i64 x1, .float .f64 x2, .string x3, .pointer none] 129)).iterSeen w.heap.size = seen.push e.born by simp only [World.iterSeen, hh]]
          exact left_lt HE1.out
        · have hh : w5.heap[w.heap.size]? = some (.mapIter (some m) c (seen.push e.born) c) :=
            ((hb5.block _ (by simp; omega)).trans (heap_alloc_lt _ _ _ hz2)).trans HR2.out
          refine ⟨⟨seen.push e.born, by rw [sumSeen_push ND.out HE1.out], hh, (HB2.out.alloc HB2.out.size _).trans (hb5.mono (by simp; omega))⟩, ?_⟩
          rw [HI.out, show w5.iterSeen w.heap.size = seen.push e.born by simp only [World.iterSeen, hh]]
          exact left_lt HE1.out
end Go.Proofs.YtflbhifdololfaaGreatDoor
