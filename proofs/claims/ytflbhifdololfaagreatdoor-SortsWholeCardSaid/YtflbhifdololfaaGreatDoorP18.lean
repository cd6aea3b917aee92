/- Package format: Conv by the document's pattern, of any float. -/
import Derived.Test.YtflbhifdololfaaGreatDoorP7
import Derived.Test.YtflbhifdololfaaGreatDoorP17
namespace Go.Proofs.YtflbhifdololfaaGreatDoor
open Go.RowKit
set_option linter.unusedVariables false

set_option maxHeartbeats 8000000 in
set_option maxRecDepth 1000000 in
/-- by, of a pattern that is one part for a number -/
theorem by_two (pat : ByteArray) (x : Nat) (m p bl a z : Bool) (wd pr : Int) (vb : Nat) (L : List UInt8) (w : World) (hs : pat.size ≤ 1000) (h0 : 0 < pat.size) (hE : ErrOk w) (hc : ch pat 0 = 37)
    (hA : parseA pat 0 = pieceA m p bl a z wd pr vb false false pat.size) (hQ : parseE pat 0 = 0) (hv : vb ≠ 37)
    (hN : ∀ W, Below w.heap.size w W → Calls Tryz.prog 15 #[.agg (specA m p bl a z wd pr vb), .float .f64 x] W fun e w' => e = .returned (.tuple #[.string ⟨L.toArray⟩, .int .i64 0]) ∧ L.length ≤ 1000000 ∧ Below W.heap.size W w') :
    Calls Tryz.prog 75 #[.float .f64 x, .string pat] w fun e w' => e = .returned (.tuple #[.string ⟨L.toArray⟩, .bool true]) ∧ Below w.heap.size w w' := by
  have HP := Lib.hid (fun W h => FParse_any pat 0 W (by omega) h)
  rw [hA, hQ] at HP
  have HE := Lib.hid hE
  have hp0 : (pat[0]'h0).toNat = 37 := by rw [ch_in h0]; exact hc
  have hvn : ((vb : Int) == 37) = false := by simp; omega
  have HNm := Lib.hid hN
  unfold specA at HNm
  unfold pieceA at HP
  obtain ⟨T, hT⟩ : ∃ T : ByteArray, T = ⟨L.toArray⟩ := ⟨_, rfl⟩
  rw [← hT] at HNm ⊢
  have HT := Lib.hid hT
  have hsI : (0 : Int) < (pat.size : Int) := by omega
  clear hA hQ hE hN hT hv hc
  go_enter Tryz.func75, Tryz.ntmps75
  go_wp2_with fail
  refine wp_loop_rounds 2 ?_
  rw [rounds_succ]
  go_wp2_with fail
  refine (HP.out _ (HE.out.below ((Below.refl _ _).alloc (Nat.le_refl _) _))).mono ?_
  rintro e w1 ⟨rfl, hb1⟩
  have HB1 := Lib.hid (((Below.refl w.heap.size w).alloc (Nat.le_refl _) (.cells #[.pointer none, .slice none 0 0] 100)).trans (hb1.mono (by simp)))
  have hz1 := hb1.size
  rw [World.size_alloc] at hz1
  have HBu1 : Hid (Lib.IsBuilder 100 5 w.heap.size w.heap.size (Lib.byteCells []) w1) := by
    show Lib.IsBuilder _ _ _ _ _ _
    refine isBuilder_below (.inl ⟨Nat.le_refl _, .slice none 0 0, heap_alloc_at w _, World.ownsRow_nil .., by simp [Value.ownBlock]⟩) hb1
  clear hb1
  go_wp2_with fail
  refine (HNm.out _ (HB1.out.alloc HB1.out.size _)).mono ?_
  rintro e w2 ⟨rfl, hL, hb2⟩
  have hTs : T.size ≤ 1000000 := by rw [sz_list, HT.out]; exact hL
  clear hL
  have hz2 := hb2.size
  rw [World.size_alloc] at hz2
  have hb12 : Below w1.heap.size w1 w2 := ((Below.refl w1.heap.size w1).alloc (Nat.le_refl _) _).trans (hb2.mono (by simp))
  have HB2 := Lib.hid (HB1.out.trans (hb12.mono (by omega)))
  have HBu2 := Lib.hid (isBuilder_below HBu1.out hb12)
  clear hb2 hb12
  go_wp2_with fail
  refine (WriteString_any w.heap.size w.heap.size (Lib.byteCells []) T w2 HBu2.out (by rw [Lib.byteCells_length]; show 0 + T.size ≤ _; omega) (by omega)).mono ?_
  rintro e w3 ⟨rfl, hbu3, hb3⟩
  have HB3 := Lib.hid (HB2.out.trans hb3)
  have HBu3 : Hid (Lib.IsBuilder 100 5 w.heap.size w.heap.size (Lib.byteCells T.data.toList) w3) := by
    show Lib.IsBuilder _ _ _ _ _ _
    rw [Lib.strCells_eq] at hbu3
    exact .inr hbu3
  have hz3 := HB3.out.size
  clear hb3 hbu3
  go_wp2_with fail
  rw [rounds_succ]
  go_wp2_with fail
  refine (Tryz.Builder_String_any w.heap.size w.heap.size T.data.toList w3 HBu3.out hz3).mono ?_
  rintro e w4 ⟨rfl, hb4⟩
  have HB4 := Lib.hid (HB3.out.trans hb4)
  clear hb4
  go_wp2_with fail
  go_ret2
  exact ⟨rfl, HB4.out⟩

theorem padL_len (m z : Bool) (wd : Int) (h s : List UInt8) : (padL m z wd h s).length ≤ h.length + s.length + wd.toNat := by
  unfold padL
  split
  · simp; omega
  · split
    · simp; omega
    · simp; omega
theorem signL_len (p b m : Bool) : (signL p b m).length ≤ 1 := by
  unfold signL
  split
  · decide
  · split
    · decide
    · split <;> decide

/-- the text of what is no finite number -/
def oddO (b : Nat) : ByteArray := if FloatKind.f64.format.order b b != some .eq then ⟨#[43, 110, 97, 110]⟩ else if FloatKind.f64.format.order b 0 == some .lt then ⟨#[45, 105, 110, 102]⟩ else ⟨#[43, 105, 110, 102]⟩
theorem odd_any (b : Nat) (w : World) : Calls Tryz.prog 48 #[.float .f64 b] w fun e w' => e = .returned (.string (oddO b)) ∧ w = w' := by
  have HO : Hid (oddO b = if FloatKind.f64.format.order b b != some .eq then ⟨#[43, 110, 97, 110]⟩ else if FloatKind.f64.format.order b 0 == some .lt then ⟨#[45, 105, 110, 102]⟩ else ⟨#[43, 105, 110, 102]⟩) := rfl
  generalize oddO b = O at *
  cases h1 : (FloatKind.f64.format.order b b != some .eq)
  · cases h2 : (FloatKind.f64.format.order b 0 == some .lt)
    · rw [h1, h2] at HO
      go_enter Tryz.func48, Tryz.ntmps48
      go_wp2_with fail
      go_ret
      exact ⟨by rw [HO.out]; rfl, rfl⟩
    · rw [h1, h2] at HO
      go_enter Tryz.func48, Tryz.ntmps48
      go_wp2_with fail
      go_ret
      exact ⟨by rw [HO.out]; rfl, rfl⟩
  · rw [h1] at HO
    go_enter Tryz.func48, Tryz.ntmps48
    go_wp2_with fail
    go_ret
    exact ⟨by rw [HO.out]; rfl, rfl⟩

/-- a float by the pattern "%.6g" -/
noncomputable def convO (b : Nat) : ByteArray :=
  if wholeOk b then ⟨((if (FloatKind.f64.format.order b 0 == some .lt) = true then 45 :: dl (scaledN b 0) else dl (scaledN b 0))).toArray⟩
  else if fin b then ⟨(padL false false 0 (signL false false (decide (9223372036854775808 ≤ b))) (genO b 5 false).data.toList).toArray⟩ else oddO b

theorem parse_g6 : parseA ⟨#[37, 46, 54, 103]⟩ 0 = pieceA false false false false false 0 6 (103 : Nat) false false (4 : Nat) := by kernel_rfl
set_option maxHeartbeats 4000000 in
set_option maxRecDepth 1000000 in
theorem Conv_g6 (b : Nat) (w : World) (hb : b < 18446744073709551616) (hE : ErrOk w) (hT : PowOk w) : Calls Tryz.prog 43 #[.float .f64 b, .string ⟨#[37, 46, 54, 103]⟩] w fun e w' => e = .returned (.string (convO b)) ∧ Below w.heap.size w w' := by
  cases hw : wholeOk b
  · have HW := Lib.hid (fun W => Whole_no b W hb hw)
    have HP := Lib.hid (fun W => Parts_any b W hb)
    cases hf : fin b
    · rw [hf] at HP
      have HC : Hid (convO b = oddO b) := by show _ = _; unfold convO; rw [hw, hf]; rfl
      have HOd := Lib.hid (fun W => odd_any b W)
      generalize oddO b = O at *
      rw [HC.out]
      clear HC hw hf
      go_enter Tryz.func43, Tryz.ntmps43
      go_wp2_with fail
      refine (HW.out _).mono ?_
      rintro e _ ⟨rfl, rfl⟩
      go_wp2_with fail
      refine (HP.out _).mono ?_
      rintro e _ ⟨rfl, rfl⟩
      go_wp2_with fail
      refine (HOd.out _).mono ?_
      rintro e _ ⟨rfl, rfl⟩
      go_wp2_with fail
      go_ret
      exact ⟨rfl, Below.refl _ _⟩
    · rw [hf] at HP
      have HB : Hid (Calls Tryz.prog 75 #[.float .f64 b, .string ⟨#[37, 46, 54, 103]⟩] w fun e w' => e = .returned (.tuple #[.string (convO b), .bool true]) ∧ Below w.heap.size w w') := by
        have hc : convO b = ⟨(padL false false 0 (signL false false (decide (9223372036854775808 ≤ b))) (genO b 5 false).data.toList).toArray⟩ := by unfold convO; rw [hw, hf]; rfl
        rw [hc]
        refine by_two ⟨#[37, 46, 54, 103]⟩ b false false false false false 0 6 103 _ w (by decide) (by decide) hE (by decide) parse_g6 (by kernel_rfl) (by decide) (fun W hW => ?_)
        refine (Number_g false false false false false 0 5 b W hb hf (by decide) (by decide) (by decide) (hT.below hW)).mono ?_
        rintro e w' ⟨rfl, hs, hbw⟩
        refine ⟨rfl, ?_, hbw⟩
        have h1 := padL_len false false 0 (signL false false (decide (9223372036854775808 ≤ b))) (genO b 5 false).data.toList
        have h2 := signL_len false false (decide (9223372036854775808 ≤ b))
        rw [sz_list] at hs
        have h3 : (0 : Int).toNat = 0 := rfl
        omega
      generalize convO b = O at *
      clear hw hf hE hT
      go_enter Tryz.func43, Tryz.ntmps43
      go_wp2_with fail
      refine (HW.out _).mono ?_
      rintro e _ ⟨rfl, rfl⟩
      go_wp2_with fail
      refine (HP.out _).mono ?_
      rintro e _ ⟨rfl, rfl⟩
      go_wp2_with fail
      refine HB.out.mono ?_
      rintro e w1 ⟨rfl, hb⟩
      have HBw := Lib.hid hb
      clear hb
      go_wp2_with fail
      go_ret
      exact ⟨rfl, HBw.out⟩
  · have HW : Hid (∀ W, Calls Tryz.prog 74 #[.float .f64 b] W fun e w' => e = .returned (.tuple #[.string (convO b), .bool true]) ∧ Below W.heap.size W w') := fun W => by
      refine (Whole_yes b W hb hw).mono ?_
      rintro e w' ⟨s, rfl, ⟨l, hc, hs⟩, hbw⟩
      have hO : convO b = s := by
        unfold convO
        rw [hw, dl_eq hc, ← hs]
        exact bytes_self s
      rw [hO]
      exact ⟨rfl, hbw⟩
    generalize convO b = O at *
    clear hw hE hT
    go_enter Tryz.func43, Tryz.ntmps43
    go_wp2_with fail
    refine (HW.out _).mono ?_
    rintro e w1 ⟨rfl, hb⟩
    have HBw := Lib.hid hb
    clear hb
    go_wp2_with fail
    go_ret
    exact ⟨rfl, HBw.out⟩
end Go.Proofs.YtflbhifdololfaaGreatDoor
