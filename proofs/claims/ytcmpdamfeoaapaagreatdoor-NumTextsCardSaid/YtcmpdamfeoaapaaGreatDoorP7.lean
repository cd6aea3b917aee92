/- Package format: by, of a pattern that is one part. -/
import Derived.Test.YtcmpdamfeoaapaaGreatDoorP6
namespace Go.Proofs.YtcmpdamfeoaapaaGreatDoor
open Go.RowKit
set_option linter.unusedVariables false

theorem owns_below {B : Nat} {e : TypeId} {k n : Nat} {v : Value} {xs : List Value} {w w' : World} (h : w.ownsRow B e k v n xs) (hb : Below w.heap.size w w') : w'.ownsRow B e k v n xs := by
  refine ⟨h.1, ?_⟩
  rcases h.2 with hn | ⟨g, cap, cur, rfl, hbg, hgg, rest⟩
  · exact .inl hn
  · refine .inr ⟨g, cap, cur, rfl, hbg, ?_, rest⟩
    rw [hb.block g (Array.getElem?_eq_some_iff.1 hgg).1]
    exact hgg
theorem builder_below {T e : TypeId} {B b : Nat} {p : Value} {bs : List Value} {w w' : World} (h : Lib.BuilderAt T e B b p bs w) (hb : Below w.heap.size w w') : Lib.BuilderAt T e B b p bs w' := by
  have hlt := h.lt
  obtain ⟨hB, v, hbk, hown, hne⟩ := h
  exact ⟨hB, v, (hb.block b hlt).trans hbk, owns_below hown hb, hne⟩
theorem isBuilder_below {T e : TypeId} {B b : Nat} {bs : List Value} {w w' : World} (h : Lib.IsBuilder T e B b bs w) (hb : Below w.heap.size w w') : Lib.IsBuilder T e B b bs w' := by
  rcases h with h | h
  · exact .inl (builder_below h hb)
  · exact .inr (builder_below h hb)


set_option maxHeartbeats 8000000 in
set_option maxRecDepth 1000000 in
/-- by, of a pattern that is one part for a number -/
theorem by_one (pat : ByteArray) (x : Nat) (m p bl a z : Bool) (wd pr : Int) (vb : Nat) (L : List UInt8) (w : World) (hs : pat.size ≤ 1000) (h0 : 0 < pat.size) (hE : ErrOk w) (hc : ch pat 0 = 37)
    (hA : parseA pat 0 = pieceA m p bl a z wd pr vb false false pat.size) (hQ : parseE pat 0 = 0) (hv : vb ≠ 37)
    (hN : ∀ W, Calls Tryz.prog 21 #[.agg (specA m p bl a z wd pr vb), .float .f64 x] W fun e w' => e = .returned (.tuple #[.string ⟨L.toArray⟩, .int .i64 0]) ∧ Below W.heap.size W w') (hL : L.length ≤ 1000000) :
    Calls Tryz.prog 107 #[.float .f64 x, .string pat] w fun e w' => e = .returned (.tuple #[.string ⟨L.toArray⟩, .bool true]) ∧ Below w.heap.size w w' := by
  have HP := Lib.hid (fun W h => FParse_any pat 0 W (by omega) h)
  rw [hA, hQ] at HP
  have HE := Lib.hid hE
  have hp0 : (pat[0]'h0).toNat = 37 := by rw [ch_in h0]; exact hc
  have hvn : ((vb : Int) == 37) = false := by simp; omega
  have HNm := Lib.hid hN
  unfold specA at HNm
  unfold pieceA at HP
  have HLl := Lib.hid hL
  obtain ⟨T, hT⟩ : ∃ T : ByteArray, T = ⟨L.toArray⟩ := ⟨_, rfl⟩
  rw [← hT] at HNm ⊢
  have HT := Lib.hid hT
  have hTs : T.size ≤ 1000000 := by rw [sz_list, hT]; exact hL
  have hsI : (0 : Int) < (pat.size : Int) := by omega
  clear hA hQ hE hN hL hT hv hc
  go_enter Tryz.func107, Tryz.ntmps107
  go_wp2_with fail
  refine wp_loop_rounds 2 ?_
  rw [rounds_succ]
  go_wp2_with fail
  refine (HP.out _ (HE.out.below ((Below.refl _ _).alloc (Nat.le_refl _) _))).mono ?_
  rintro e w1 ⟨rfl, hb1⟩
  have HB1 := Lib.hid (((Below.refl w.heap.size w).alloc (Nat.le_refl _) (.cells #[.pointer none, .slice none 0 0] 106)).trans (hb1.mono (by simp)))
  have hz1 := hb1.size
  rw [World.size_alloc] at hz1
  have HBu1 : Hid (Lib.IsBuilder 106 5 w.heap.size w.heap.size (Lib.byteCells []) w1) := by
    show Lib.IsBuilder _ _ _ _ _ _
    refine isBuilder_below (.inl ⟨Nat.le_refl _, .slice none 0 0, heap_alloc_at w _, World.ownsRow_nil .., by simp [Value.ownBlock]⟩) hb1
  clear hb1
  go_wp2_with fail
  refine (HNm.out _).mono ?_
  rintro e w2 ⟨rfl, hb2⟩
  have hz2 := hb2.size
  rw [World.size_alloc] at hz2
  have hb12 : Below w1.heap.size w1 w2 := ((Below.refl w1.heap.size w1).alloc (Nat.le_refl _) _).trans (hb2.mono (by simp))
  have HB2 := Lib.hid (HB1.out.trans (hb12.mono (by omega)))
  have HBu2 := Lib.hid (isBuilder_below HBu1.out hb12)
  clear hb2 hb12
  go_wp2_with fail
  refine (WriteString_any w.heap.size w.heap.size (Lib.byteCells []) T w2 HBu2.out (by rw [Lib.byteCells_length]; show 0 + T.size ≤ _; omega) (by omega)).mono ?_
  rintro e w3 ⟨rfl, hbu3, hb3⟩
  have HB3 := Lib.hid (HB2.out.trans hb3)
  have HBu3 : Hid (Lib.IsBuilder 106 5 w.heap.size w.heap.size (Lib.byteCells T.data.toList) w3) := by
    show Lib.IsBuilder _ _ _ _ _ _
    rw [Lib.strCells_eq] at hbu3
    exact .inr hbu3
  have hz3 := HB3.out.size
  clear hb3 hbu3
  go_wp2_with fail
  rw [rounds_succ]
  go_wp2_with fail
  refine (Tryz.Builder_String_any w.heap.size w.heap.size T.data.toList w3 HBu3.out hz3).mono ?_
  rintro e w4 ⟨rfl, hb4⟩
  have HB4 := Lib.hid (HB3.out.trans hb4)
  clear hb4
  go_wp2_with fail
  go_ret2
  exact ⟨rfl, HB4.out⟩
end Go.Proofs.YtcmpdamfeoaapaaGreatDoor
