/- Several texts in one (P18, W15). -/
import Derived.Test.YtfdnhkjeoeffoaaGreatDoorM11
import Derived.Test.YtfdnhkjeoeffoaaGreatDoorM6
import Derived.Test.YtfdnhkjeoeffoaaGreatDoorM5
import Derived.Test.YtfdnhkjeoeffoaaGreatDoorM9
section
/- Package format: Conv by the document's pattern, of any float. -/
namespace Go.Proofs.YtfdnhkjeoeffoaaGreatDoor
open Go.RowKit
set_option linter.unusedVariables false

set_option maxHeartbeats 8000000 in
set_option maxRecDepth 1000000 in
/-- by, of a pattern that is one part for a number -/
theorem by_two (pat : ByteArray) (x : Nat) (m p bl a z : Bool) (wd pr : Int) (vb : Nat) (L : List UInt8) (w : World) (hs : pat.size ≤ 1000) (h0 : 0 < pat.size) (hE : ErrOk w) (hc : ch pat 0 = 37)
    (hA : parseA pat 0 = pieceA m p bl a z wd pr vb false false pat.size) (hQ : parseE pat 0 = 0) (hv : vb ≠ 37)
    (hN : ∀ W, Below w.heap.size w W → Calls Tryz.prog 24 #[.agg (specA m p bl a z wd pr vb), .float .f64 x] W fun e w' => e = .returned (.tuple #[.string ⟨L.toArray⟩, .int .i64 0]) ∧ L.length ≤ 1000000 ∧ Below W.heap.size W w') :
    Calls Tryz.prog 126 #[.float .f64 x, .string pat] w fun e w' => e = .returned (.tuple #[.string ⟨L.toArray⟩, .bool true]) ∧ Below w.heap.size w w' := by
  have HP := Lib.hid (fun W h => FParse_any pat 0 W (by omega) h)
  rw [hA, hQ] at HP
  have HE := Lib.hid hE
  have hp0 : (pat[0]'h0).toNat = 37 := by rw [ch_in h0]; exact hc
  have hvn : ((vb : Int) == 37) = false := by simp; omega
  have HNm := Lib.hid hN
  unfold specA at HNm
  unfold pieceA at HP
  obtain ⟨T, hT⟩ : ∃ T : ByteArray, T = ⟨L.toArray⟩ := ⟨_, rfl⟩
  rw [← hT] at HNm ⊢
  have HT := Lib.hid hT
  have hsI : (0 : Int) < (pat.size : Int) := by omega
  clear hA hQ hE hN hT hv hc
  go_enter Tryz.func126, Tryz.ntmps126
  go_wp2_with fail
  refine wp_loop_rounds 2 ?_
  rw [rounds_succ]
  go_wp2_with fail
  refine (HP.out _ (HE.out.below ((Below.refl _ _).alloc (Nat.le_refl _) _))).mono ?_
  rintro e w1 ⟨rfl, hb1⟩
  have HB1 := Lib.hid (((Below.refl w.heap.size w).alloc (Nat.le_refl _) (.cells #[.pointer none, .slice none 0 0] 122)).trans (hb1.mono (by simp)))
  have hz1 := hb1.size
  rw [World.size_alloc] at hz1
  have HBu1 : Hid (Lib.IsBuilder 122 5 w.heap.size w.heap.size (Lib.byteCells []) w1) := by
    show Lib.IsBuilder _ _ _ _ _ _
    refine isBuilder_below (.inl ⟨Nat.le_refl _, .slice none 0 0, heap_alloc_at w _, World.ownsRow_nil .., by simp [Value.ownBlock]⟩) hb1
  clear hb1
  go_wp2_with fail
  refine (HNm.out _ (HB1.out.alloc HB1.out.size _)).mono ?_
  rintro e w2 ⟨rfl, hL, hb2⟩
  have hTs : T.size ≤ 1000000 := by rw [sz_list, HT.out]; exact hL
  clear hL
  have hz2 := hb2.size
  rw [World.size_alloc] at hz2
  have hb12 : Below w1.heap.size w1 w2 := ((Below.refl w1.heap.size w1).alloc (Nat.le_refl _) _).trans (hb2.mono (by simp))
  have HB2 := Lib.hid (HB1.out.trans (hb12.mono (by omega)))
  have HBu2 := Lib.hid (isBuilder_below HBu1.out hb12)
  clear hb2 hb12
  go_wp2_with fail
  refine (WriteString_any w.heap.size w.heap.size (Lib.byteCells []) T w2 HBu2.out (by rw [Lib.byteCells_length]; show 0 + T.size ≤ _; omega) (by omega)).mono ?_
  rintro e w3 ⟨rfl, hbu3, hb3⟩
  have HB3 := Lib.hid (HB2.out.trans hb3)
  have HBu3 : Hid (Lib.IsBuilder 122 5 w.heap.size w.heap.size (Lib.byteCells T.data.toList) w3) := by
    show Lib.IsBuilder _ _ _ _ _ _
    rw [Lib.strCells_eq] at hbu3
    exact .inr hbu3
  have hz3 := HB3.out.size
  clear hb3 hbu3
  go_wp2_with fail
  rw [rounds_succ]
  go_wp2_with fail
  refine (Tryz.Builder_String_any w.heap.size w.heap.size T.data.toList w3 HBu3.out hz3).mono ?_
  rintro e w4 ⟨rfl, hb4⟩
  have HB4 := Lib.hid (HB3.out.trans hb4)
  clear hb4
  go_wp2_with fail
  go_ret2
  exact ⟨rfl, HB4.out⟩

theorem padL_len (m z : Bool) (wd : Int) (h s : List UInt8) : (padL m z wd h s).length ≤ h.length + s.length + wd.toNat := by
  unfold padL
  split
  · simp; omega
  · split
    · simp; omega
    · simp; omega
theorem signL_len (p b m : Bool) : (signL p b m).length ≤ 1 := by
  unfold signL
  split
  · decide
  · split
    · decide
    · split <;> decide

/-- the text of what is no finite number -/
def oddO (b : Nat) : ByteArray := if FloatKind.f64.format.order b b != some .eq then ⟨#[43, 110, 97, 110]⟩ else if FloatKind.f64.format.order b 0 == some .lt then ⟨#[45, 105, 110, 102]⟩ else ⟨#[43, 105, 110, 102]⟩
theorem odd_any (b : Nat) (w : World) : Calls Tryz.prog 71 #[.float .f64 b] w fun e w' => e = .returned (.string (oddO b)) ∧ w = w' := by
  have HO : Hid (oddO b = if FloatKind.f64.format.order b b != some .eq then ⟨#[43, 110, 97, 110]⟩ else if FloatKind.f64.format.order b 0 == some .lt then ⟨#[45, 105, 110, 102]⟩ else ⟨#[43, 105, 110, 102]⟩) := rfl
  generalize oddO b = O at *
  cases h1 : (FloatKind.f64.format.order b b != some .eq)
  · cases h2 : (FloatKind.f64.format.order b 0 == some .lt)
    · rw [h1, h2] at HO
      go_enter Tryz.func71, Tryz.ntmps71
      go_wp2_with fail
      go_ret
      exact ⟨by rw [HO.out]; rfl, rfl⟩
    · rw [h1, h2] at HO
      go_enter Tryz.func71, Tryz.ntmps71
      go_wp2_with fail
      go_ret
      exact ⟨by rw [HO.out]; rfl, rfl⟩
  · rw [h1] at HO
    go_enter Tryz.func71, Tryz.ntmps71
    go_wp2_with fail
    go_ret
    exact ⟨by rw [HO.out]; rfl, rfl⟩

/-- a float by the pattern "%.6g" -/
noncomputable def convO (b : Nat) : ByteArray :=
  if wholeOk b then ⟨((if (FloatKind.f64.format.order b 0 == some .lt) = true then 45 :: dl (scaledN b 0) else dl (scaledN b 0))).toArray⟩
  else if fin b then ⟨(padL false false 0 (signL false false (decide (9223372036854775808 ≤ b))) (genO b 5 false).data.toList).toArray⟩ else oddO b

theorem parse_g6 : parseA ⟨#[37, 46, 54, 103]⟩ 0 = pieceA false false false false false 0 6 (103 : Nat) false false (4 : Nat) := by kernel_rfl
set_option maxHeartbeats 4000000 in
set_option maxRecDepth 1000000 in
theorem Conv_g6 (b : Nat) (w : World) (hb : b < 18446744073709551616) (hE : ErrOk w) (hT : PowOk w) : Calls Tryz.prog 67 #[.float .f64 b, .string ⟨#[37, 46, 54, 103]⟩] w fun e w' => e = .returned (.string (convO b)) ∧ Below w.heap.size w w' := by
  cases hw : wholeOk b
  · have HW := Lib.hid (fun W => Whole_no b W hb hw)
    have HP := Lib.hid (fun W => Parts_any b W hb)
    cases hf : fin b
    · rw [hf] at HP
      have HC : Hid (convO b = oddO b) := by show _ = _; unfold convO; rw [hw, hf]; rfl
      have HOd := Lib.hid (fun W => odd_any b W)
      generalize oddO b = O at *
      rw [HC.out]
      clear HC hw hf
      go_enter Tryz.func67, Tryz.ntmps67
      go_wp2_with fail
      refine (HW.out _).mono ?_
      rintro e _ ⟨rfl, rfl⟩
      go_wp2_with fail
      refine (HP.out _).mono ?_
      rintro e _ ⟨rfl, rfl⟩
      go_wp2_with fail
      refine (HOd.out _).mono ?_
      rintro e _ ⟨rfl, rfl⟩
      go_wp2_with fail
      go_ret
      exact ⟨rfl, Below.refl _ _⟩
    · rw [hf] at HP
      have HB : Hid (Calls Tryz.prog 126 #[.float .f64 b, .string ⟨#[37, 46, 54, 103]⟩] w fun e w' => e = .returned (.tuple #[.string (convO b), .bool true]) ∧ Below w.heap.size w w') := by
        have hc : convO b = ⟨(padL false false 0 (signL false false (decide (9223372036854775808 ≤ b))) (genO b 5 false).data.toList).toArray⟩ := by unfold convO; rw [hw, hf]; rfl
        rw [hc]
        refine by_two ⟨#[37, 46, 54, 103]⟩ b false false false false false 0 6 103 _ w (by decide) (by decide) hE (by decide) parse_g6 (by kernel_rfl) (by decide) (fun W hW => ?_)
        refine (Number_g false false false false false 0 5 b W hb hf (by decide) (by decide) (by decide) (hT.below hW)).mono ?_
        rintro e w' ⟨rfl, hs, hbw⟩
        refine ⟨rfl, ?_, hbw⟩
        have h1 := padL_len false false 0 (signL false false (decide (9223372036854775808 ≤ b))) (genO b 5 false).data.toList
        have h2 := signL_len false false (decide (9223372036854775808 ≤ b))
        rw [sz_list] at hs
        have h3 : (0 : Int).toNat = 0 := rfl
        omega
      generalize convO b = O at *
      clear hw hf hE hT
      go_enter Tryz.func67, Tryz.ntmps67
      go_wp2_with fail
      refine (HW.out _).mono ?_
      rintro e _ ⟨rfl, rfl⟩
      go_wp2_with fail
      refine (HP.out _).mono ?_
      rintro e _ ⟨rfl, rfl⟩
      go_wp2_with fail
      refine HB.out.mono ?_
      rintro e w1 ⟨rfl, hb⟩
      have HBw := Lib.hid hb
      clear hb
      go_wp2_with fail
      go_ret
      exact ⟨rfl, HBw.out⟩
  · have HW : Hid (∀ W, Calls Tryz.prog 14 #[.float .f64 b] W fun e w' => e = .returned (.tuple #[.string (convO b), .bool true]) ∧ Below W.heap.size W w') := fun W => by
      refine (Whole_yes b W hb hw).mono ?_
      rintro e w' ⟨s, rfl, ⟨l, hc, hs⟩, hbw⟩
      have hO : convO b = s := by
        unfold convO
        rw [hw, dl_eq hc, ← hs]
        exact bytes_self s
      rw [hO]
      exact ⟨rfl, hbw⟩
    generalize convO b = O at *
    clear hw hE hT
    go_enter Tryz.func67, Tryz.ntmps67
    go_wp2_with fail
    refine (HW.out _).mono ?_
    rintro e w1 ⟨rfl, hb⟩
    have HBw := Lib.hid hb
    clear hb
    go_wp2_with fail
    go_ret
    exact ⟨rfl, HBw.out⟩
end Go.Proofs.YtfdnhkjeoeffoaaGreatDoor
end

section
/- Package format: Number at any spec and any float. -/
namespace Go.Proofs.YtfdnhkjeoeffoaaGreatDoor
open Go.RowKit
set_option linter.unusedVariables false

theorem odd_size (b : Nat) : (oddO b).size = 4 := by unfold oddO; split; rfl; split <;> rfl

set_option maxHeartbeats 4000000 in
set_option maxRecDepth 1000000 in
theorem Number_100 (m p bl al z : Bool) (wd pr : Int) (b : Nat) (w : World) (hb : b < 18446744073709551616) (hf : fin b = true) (hp1 : -1 ≤ pr) (hp2 : pr ≤ 190) (hw : 0 ≤ wd) (hw2 : wd ≤ 1024) :
    Calls Tryz.prog 24 #[.agg (specA m p bl al z wd pr 100), .float .f64 b] w fun e w' => e = .returned (.tuple #[.string (wholeO m p bl al z wd pr 100 b), .int .i64 0]) ∧ Below w.heap.size w w' := by
  have HFl := Lib.hid (fun W => whole_100 m p bl al z wd pr b W hb hf hp1 hp2 hw hw2)
  have HCk := Lib.hid (fun W => Check_ok m p bl al z wd pr 100 W (by
    unfold okS
    rw [show ixB verbsB 100 = 0 from by decide, decide_eq_true hw, decide_eq_true hw2, decide_eq_true hp1, decide_eq_true hp2]
    rfl))
  have HPt := Lib.hid (fun W => Parts_any b W hb)
  rw [hf] at HPt
  have HI1 : Hid (∀ W, Calls Tryz.prog 69 #[.string ⟨#[100, 105, 111, 120, 88, 117, 101, 69, 102, 70, 103, 71]⟩, .int .u8 100] W fun e w' => e = .returned (.int .i64 0) ∧ w' = W) := fun W => Tryz.strings_IndexByte ⟨#[100, 105, 111, 120, 88, 117, 101, 69, 102, 70, 103, 71]⟩ 100 W
  have HI2 : Hid (∀ W, Calls Tryz.prog 69 #[.string ⟨#[100, 105, 111, 120, 88, 117]⟩, .int .u8 100] W fun e w' => e = .returned (.int .i64 0) ∧ w' = W) := fun W => Tryz.strings_IndexByte ⟨#[100, 105, 111, 120, 88, 117]⟩ 100 W
  generalize wholeO m p bl al z wd pr 100 b = out at *
  unfold specA at HFl HCk ⊢
  clear hp1 hp2 hw hw2
  go_enter Tryz.func24, Tryz.ntmps24
  go_wp2_with fail
  refine (HCk.out _).mono ?_
  rintro e w1 ⟨rfl, hb1⟩
  have HB1 := Lib.hid (((Below.refl w.heap.size w).alloc (Nat.le_refl _) (.cells #[.bool m, .bool p, .bool bl, .bool al, .bool z, .int .i64 wd, .int .i64 pr, .int .u8 100] 35)).trans (hb1.mono (by simp)))
  have hsp : SpAt w1 w.heap.size #[.bool m, .bool p, .bool bl, .bool al, .bool z, .int .i64 wd, .int .i64 pr, .int .u8 100] := SpAt.next (heap_alloc_at w _) hb1
  have k0 : w1.cell? ⟨w.heap.size, 0, none⟩ = some (.bool m) := hsp.cell 0
  have k1 : w1.cell? ⟨w.heap.size, 1, none⟩ = some (.bool p) := hsp.cell 1
  have k2 : w1.cell? ⟨w.heap.size, 2, none⟩ = some (.bool bl) := hsp.cell 2
  have k3 : w1.cell? ⟨w.heap.size, 3, none⟩ = some (.bool al) := hsp.cell 3
  have k4 : w1.cell? ⟨w.heap.size, 4, none⟩ = some (.bool z) := hsp.cell 4
  have k5 : w1.cell? ⟨w.heap.size, 5, none⟩ = some (.int .i64 wd) := hsp.cell 5
  have k6 : w1.cell? ⟨w.heap.size, 6, none⟩ = some (.int .i64 pr) := hsp.cell 6
  have k7 : w1.cell? ⟨w.heap.size, 7, none⟩ = some (.int .u8 100) := hsp.cell 7
  clear hb1 hsp
  go_wp2_with fail
  refine (HI1.out _).mono ?_
  rintro e _ ⟨rfl, rfl⟩
  go_wp2_with fail
  refine (HPt.out _).mono ?_
  rintro e _ ⟨rfl, rfl⟩
  go_wp2_with fail
  refine (HI2.out _).mono ?_
  rintro e _ ⟨rfl, rfl⟩
  go_wp2_with fail
  refine (HFl.out _).mono ?_
  rintro e w2 ⟨rfl, hb2⟩
  have HB2 := Lib.hid (HB1.out.trans (hb2.mono HB1.out.size))
  clear hb2
  go_wp2_with fail
  go_ret2
  exact ⟨rfl, HB2.out⟩

set_option maxHeartbeats 4000000 in
set_option maxRecDepth 1000000 in
theorem Number_105 (m p bl al z : Bool) (wd pr : Int) (b : Nat) (w : World) (hb : b < 18446744073709551616) (hf : fin b = true) (hp1 : -1 ≤ pr) (hp2 : pr ≤ 190) (hw : 0 ≤ wd) (hw2 : wd ≤ 1024) :
    Calls Tryz.prog 24 #[.agg (specA m p bl al z wd pr 105), .float .f64 b] w fun e w' => e = .returned (.tuple #[.string (wholeO m p bl al z wd pr 105 b), .int .i64 0]) ∧ Below w.heap.size w w' := by
  have HFl := Lib.hid (fun W => whole_105 m p bl al z wd pr b W hb hf hp1 hp2 hw hw2)
  have HCk := Lib.hid (fun W => Check_ok m p bl al z wd pr 105 W (by
    unfold okS
    rw [show ixB verbsB 105 = 1 from by decide, decide_eq_true hw, decide_eq_true hw2, decide_eq_true hp1, decide_eq_true hp2]
    rfl))
  have HPt := Lib.hid (fun W => Parts_any b W hb)
  rw [hf] at HPt
  have HI1 : Hid (∀ W, Calls Tryz.prog 69 #[.string ⟨#[100, 105, 111, 120, 88, 117, 101, 69, 102, 70, 103, 71]⟩, .int .u8 105] W fun e w' => e = .returned (.int .i64 1) ∧ w' = W) := fun W => Tryz.strings_IndexByte ⟨#[100, 105, 111, 120, 88, 117, 101, 69, 102, 70, 103, 71]⟩ 105 W
  have HI2 : Hid (∀ W, Calls Tryz.prog 69 #[.string ⟨#[100, 105, 111, 120, 88, 117]⟩, .int .u8 105] W fun e w' => e = .returned (.int .i64 1) ∧ w' = W) := fun W => Tryz.strings_IndexByte ⟨#[100, 105, 111, 120, 88, 117]⟩ 105 W
  generalize wholeO m p bl al z wd pr 105 b = out at *
  unfold specA at HFl HCk ⊢
  clear hp1 hp2 hw hw2
  go_enter Tryz.func24, Tryz.ntmps24
  go_wp2_with fail
  refine (HCk.out _).mono ?_
  rintro e w1 ⟨rfl, hb1⟩
  have HB1 := Lib.hid (((Below.refl w.heap.size w).alloc (Nat.le_refl _) (.cells #[.bool m, .bool p, .bool bl, .bool al, .bool z, .int .i64 wd, .int .i64 pr, .int .u8 105] 35)).trans (hb1.mono (by simp)))
  have hsp : SpAt w1 w.heap.size #[.bool m, .bool p, .bool bl, .bool al, .bool z, .int .i64 wd, .int .i64 pr, .int .u8 105] := SpAt.next (heap_alloc_at w _) hb1
  have k0 : w1.cell? ⟨w.heap.size, 0, none⟩ = some (.bool m) := hsp.cell 0
  have k1 : w1.cell? ⟨w.heap.size, 1, none⟩ = some (.bool p) := hsp.cell 1
  have k2 : w1.cell? ⟨w.heap.size, 2, none⟩ = some (.bool bl) := hsp.cell 2
  have k3 : w1.cell? ⟨w.heap.size, 3, none⟩ = some (.bool al) := hsp.cell 3
  have k4 : w1.cell? ⟨w.heap.size, 4, none⟩ = some (.bool z) := hsp.cell 4
  have k5 : w1.cell? ⟨w.heap.size, 5, none⟩ = some (.int .i64 wd) := hsp.cell 5
  have k6 : w1.cell? ⟨w.heap.size, 6, none⟩ = some (.int .i64 pr) := hsp.cell 6
  have k7 : w1.cell? ⟨w.heap.size, 7, none⟩ = some (.int .u8 105) := hsp.cell 7
  clear hb1 hsp
  go_wp2_with fail
  refine (HI1.out _).mono ?_
  rintro e _ ⟨rfl, rfl⟩
  go_wp2_with fail
  refine (HPt.out _).mono ?_
  rintro e _ ⟨rfl, rfl⟩
  go_wp2_with fail
  refine (HI2.out _).mono ?_
  rintro e _ ⟨rfl, rfl⟩
  go_wp2_with fail
  refine (HFl.out _).mono ?_
  rintro e w2 ⟨rfl, hb2⟩
  have HB2 := Lib.hid (HB1.out.trans (hb2.mono HB1.out.size))
  clear hb2
  go_wp2_with fail
  go_ret2
  exact ⟨rfl, HB2.out⟩

set_option maxHeartbeats 4000000 in
set_option maxRecDepth 1000000 in
theorem Number_111 (m p bl al z : Bool) (wd pr : Int) (b : Nat) (w : World) (hb : b < 18446744073709551616) (hf : fin b = true) (hp1 : -1 ≤ pr) (hp2 : pr ≤ 190) (hw : 0 ≤ wd) (hw2 : wd ≤ 1024) :
    Calls Tryz.prog 24 #[.agg (specA m p bl al z wd pr 111), .float .f64 b] w fun e w' => e = .returned (.tuple #[.string (wholeO m p bl al z wd pr 111 b), .int .i64 0]) ∧ Below w.heap.size w w' := by
  have HFl := Lib.hid (fun W => whole_111 m p bl al z wd pr b W hb hf hp1 hp2 hw hw2)
  have HCk := Lib.hid (fun W => Check_ok m p bl al z wd pr 111 W (by
    unfold okS
    rw [show ixB verbsB 111 = 2 from by decide, decide_eq_true hw, decide_eq_true hw2, decide_eq_true hp1, decide_eq_true hp2]
    rfl))
  have HPt := Lib.hid (fun W => Parts_any b W hb)
  rw [hf] at HPt
  have HI1 : Hid (∀ W, Calls Tryz.prog 69 #[.string ⟨#[100, 105, 111, 120, 88, 117, 101, 69, 102, 70, 103, 71]⟩, .int .u8 111] W fun e w' => e = .returned (.int .i64 2) ∧ w' = W) := fun W => Tryz.strings_IndexByte ⟨#[100, 105, 111, 120, 88, 117, 101, 69, 102, 70, 103, 71]⟩ 111 W
  have HI2 : Hid (∀ W, Calls Tryz.prog 69 #[.string ⟨#[100, 105, 111, 120, 88, 117]⟩, .int .u8 111] W fun e w' => e = .returned (.int .i64 2) ∧ w' = W) := fun W => Tryz.strings_IndexByte ⟨#[100, 105, 111, 120, 88, 117]⟩ 111 W
  generalize wholeO m p bl al z wd pr 111 b = out at *
  unfold specA at HFl HCk ⊢
  clear hp1 hp2 hw hw2
  go_enter Tryz.func24, Tryz.ntmps24
  go_wp2_with fail
  refine (HCk.out _).mono ?_
  rintro e w1 ⟨rfl, hb1⟩
  have HB1 := Lib.hid (((Below.refl w.heap.size w).alloc (Nat.le_refl _) (.cells #[.bool m, .bool p, .bool bl, .bool al, .bool z, .int .i64 wd, .int .i64 pr, .int .u8 111] 35)).trans (hb1.mono (by simp)))
  have hsp : SpAt w1 w.heap.size #[.bool m, .bool p, .bool bl, .bool al, .bool z, .int .i64 wd, .int .i64 pr, .int .u8 111] := SpAt.next (heap_alloc_at w _) hb1
  have k0 : w1.cell? ⟨w.heap.size, 0, none⟩ = some (.bool m) := hsp.cell 0
  have k1 : w1.cell? ⟨w.heap.size, 1, none⟩ = some (.bool p) := hsp.cell 1
  have k2 : w1.cell? ⟨w.heap.size, 2, none⟩ = some (.bool bl) := hsp.cell 2
  have k3 : w1.cell? ⟨w.heap.size, 3, none⟩ = some (.bool al) := hsp.cell 3
  have k4 : w1.cell? ⟨w.heap.size, 4, none⟩ = some (.bool z) := hsp.cell 4
  have k5 : w1.cell? ⟨w.heap.size, 5, none⟩ = some (.int .i64 wd) := hsp.cell 5
  have k6 : w1.cell? ⟨w.heap.size, 6, none⟩ = some (.int .i64 pr) := hsp.cell 6
  have k7 : w1.cell? ⟨w.heap.size, 7, none⟩ = some (.int .u8 111) := hsp.cell 7
  clear hb1 hsp
  go_wp2_with fail
  refine (HI1.out _).mono ?_
  rintro e _ ⟨rfl, rfl⟩
  go_wp2_with fail
  refine (HPt.out _).mono ?_
  rintro e _ ⟨rfl, rfl⟩
  go_wp2_with fail
  refine (HI2.out _).mono ?_
  rintro e _ ⟨rfl, rfl⟩
  go_wp2_with fail
  refine (HFl.out _).mono ?_
  rintro e w2 ⟨rfl, hb2⟩
  have HB2 := Lib.hid (HB1.out.trans (hb2.mono HB1.out.size))
  clear hb2
  go_wp2_with fail
  go_ret2
  exact ⟨rfl, HB2.out⟩

set_option maxHeartbeats 4000000 in
set_option maxRecDepth 1000000 in
theorem Number_120 (m p bl al z : Bool) (wd pr : Int) (b : Nat) (w : World) (hb : b < 18446744073709551616) (hf : fin b = true) (hp1 : -1 ≤ pr) (hp2 : pr ≤ 190) (hw : 0 ≤ wd) (hw2 : wd ≤ 1024) :
    Calls Tryz.prog 24 #[.agg (specA m p bl al z wd pr 120), .float .f64 b] w fun e w' => e = .returned (.tuple #[.string (wholeO m p bl al z wd pr 120 b), .int .i64 0]) ∧ Below w.heap.size w w' := by
  have HFl := Lib.hid (fun W => whole_120 m p bl al z wd pr b W hb hf hp1 hp2 hw hw2)
  have HCk := Lib.hid (fun W => Check_ok m p bl al z wd pr 120 W (by
    unfold okS
    rw [show ixB verbsB 120 = 3 from by decide, decide_eq_true hw, decide_eq_true hw2, decide_eq_true hp1, decide_eq_true hp2]
    rfl))
  have HPt := Lib.hid (fun W => Parts_any b W hb)
  rw [hf] at HPt
  have HI1 : Hid (∀ W, Calls Tryz.prog 69 #[.string ⟨#[100, 105, 111, 120, 88, 117, 101, 69, 102, 70, 103, 71]⟩, .int .u8 120] W fun e w' => e = .returned (.int .i64 3) ∧ w' = W) := fun W => Tryz.strings_IndexByte ⟨#[100, 105, 111, 120, 88, 117, 101, 69, 102, 70, 103, 71]⟩ 120 W
  have HI2 : Hid (∀ W, Calls Tryz.prog 69 #[.string ⟨#[100, 105, 111, 120, 88, 117]⟩, .int .u8 120] W fun e w' => e = .returned (.int .i64 3) ∧ w' = W) := fun W => Tryz.strings_IndexByte ⟨#[100, 105, 111, 120, 88, 117]⟩ 120 W
  generalize wholeO m p bl al z wd pr 120 b = out at *
  unfold specA at HFl HCk ⊢
  clear hp1 hp2 hw hw2
  go_enter Tryz.func24, Tryz.ntmps24
  go_wp2_with fail
  refine (HCk.out _).mono ?_
  rintro e w1 ⟨rfl, hb1⟩
  have HB1 := Lib.hid (((Below.refl w.heap.size w).alloc (Nat.le_refl _) (.cells #[.bool m, .bool p, .bool bl, .bool al, .bool z, .int .i64 wd, .int .i64 pr, .int .u8 120] 35)).trans (hb1.mono (by simp)))
  have hsp : SpAt w1 w.heap.size #[.bool m, .bool p, .bool bl, .bool al, .bool z, .int .i64 wd, .int .i64 pr, .int .u8 120] := SpAt.next (heap_alloc_at w _) hb1
  have k0 : w1.cell? ⟨w.heap.size, 0, none⟩ = some (.bool m) := hsp.cell 0
  have k1 : w1.cell? ⟨w.heap.size, 1, none⟩ = some (.bool p) := hsp.cell 1
  have k2 : w1.cell? ⟨w.heap.size, 2, none⟩ = some (.bool bl) := hsp.cell 2
  have k3 : w1.cell? ⟨w.heap.size, 3, none⟩ = some (.bool al) := hsp.cell 3
  have k4 : w1.cell? ⟨w.heap.size, 4, none⟩ = some (.bool z) := hsp.cell 4
  have k5 : w1.cell? ⟨w.heap.size, 5, none⟩ = some (.int .i64 wd) := hsp.cell 5
  have k6 : w1.cell? ⟨w.heap.size, 6, none⟩ = some (.int .i64 pr) := hsp.cell 6
  have k7 : w1.cell? ⟨w.heap.size, 7, none⟩ = some (.int .u8 120) := hsp.cell 7
  clear hb1 hsp
  go_wp2_with fail
  refine (HI1.out _).mono ?_
  rintro e _ ⟨rfl, rfl⟩
  go_wp2_with fail
  refine (HPt.out _).mono ?_
  rintro e _ ⟨rfl, rfl⟩
  go_wp2_with fail
  refine (HI2.out _).mono ?_
  rintro e _ ⟨rfl, rfl⟩
  go_wp2_with fail
  refine (HFl.out _).mono ?_
  rintro e w2 ⟨rfl, hb2⟩
  have HB2 := Lib.hid (HB1.out.trans (hb2.mono HB1.out.size))
  clear hb2
  go_wp2_with fail
  go_ret2
  exact ⟨rfl, HB2.out⟩

set_option maxHeartbeats 4000000 in
set_option maxRecDepth 1000000 in
theorem Number_88 (m p bl al z : Bool) (wd pr : Int) (b : Nat) (w : World) (hb : b < 18446744073709551616) (hf : fin b = true) (hp1 : -1 ≤ pr) (hp2 : pr ≤ 190) (hw : 0 ≤ wd) (hw2 : wd ≤ 1024) :
    Calls Tryz.prog 24 #[.agg (specA m p bl al z wd pr 88), .float .f64 b] w fun e w' => e = .returned (.tuple #[.string (wholeO m p bl al z wd pr 88 b), .int .i64 0]) ∧ Below w.heap.size w w' := by
  have HFl := Lib.hid (fun W => whole_88 m p bl al z wd pr b W hb hf hp1 hp2 hw hw2)
  have HCk := Lib.hid (fun W => Check_ok m p bl al z wd pr 88 W (by
    unfold okS
    rw [show ixB verbsB 88 = 4 from by decide, decide_eq_true hw, decide_eq_true hw2, decide_eq_true hp1, decide_eq_true hp2]
    rfl))
  have HPt := Lib.hid (fun W => Parts_any b W hb)
  rw [hf] at HPt
  have HI1 : Hid (∀ W, Calls Tryz.prog 69 #[.string ⟨#[100, 105, 111, 120, 88, 117, 101, 69, 102, 70, 103, 71]⟩, .int .u8 88] W fun e w' => e = .returned (.int .i64 4) ∧ w' = W) := fun W => Tryz.strings_IndexByte ⟨#[100, 105, 111, 120, 88, 117, 101, 69, 102, 70, 103, 71]⟩ 88 W
  have HI2 : Hid (∀ W, Calls Tryz.prog 69 #[.string ⟨#[100, 105, 111, 120, 88, 117]⟩, .int .u8 88] W fun e w' => e = .returned (.int .i64 4) ∧ w' = W) := fun W => Tryz.strings_IndexByte ⟨#[100, 105, 111, 120, 88, 117]⟩ 88 W
  generalize wholeO m p bl al z wd pr 88 b = out at *
  unfold specA at HFl HCk ⊢
  clear hp1 hp2 hw hw2
  go_enter Tryz.func24, Tryz.ntmps24
  go_wp2_with fail
  refine (HCk.out _).mono ?_
  rintro e w1 ⟨rfl, hb1⟩
  have HB1 := Lib.hid (((Below.refl w.heap.size w).alloc (Nat.le_refl _) (.cells #[.bool m, .bool p, .bool bl, .bool al, .bool z, .int .i64 wd, .int .i64 pr, .int .u8 88] 35)).trans (hb1.mono (by simp)))
  have hsp : SpAt w1 w.heap.size #[.bool m, .bool p, .bool bl, .bool al, .bool z, .int .i64 wd, .int .i64 pr, .int .u8 88] := SpAt.next (heap_alloc_at w _) hb1
  have k0 : w1.cell? ⟨w.heap.size, 0, none⟩ = some (.bool m) := hsp.cell 0
  have k1 : w1.cell? ⟨w.heap.size, 1, none⟩ = some (.bool p) := hsp.cell 1
  have k2 : w1.cell? ⟨w.heap.size, 2, none⟩ = some (.bool bl) := hsp.cell 2
  have k3 : w1.cell? ⟨w.heap.size, 3, none⟩ = some (.bool al) := hsp.cell 3
  have k4 : w1.cell? ⟨w.heap.size, 4, none⟩ = some (.bool z) := hsp.cell 4
  have k5 : w1.cell? ⟨w.heap.size, 5, none⟩ = some (.int .i64 wd) := hsp.cell 5
  have k6 : w1.cell? ⟨w.heap.size, 6, none⟩ = some (.int .i64 pr) := hsp.cell 6
  have k7 : w1.cell? ⟨w.heap.size, 7, none⟩ = some (.int .u8 88) := hsp.cell 7
  clear hb1 hsp
  go_wp2_with fail
  refine (HI1.out _).mono ?_
  rintro e _ ⟨rfl, rfl⟩
  go_wp2_with fail
  refine (HPt.out _).mono ?_
  rintro e _ ⟨rfl, rfl⟩
  go_wp2_with fail
  refine (HI2.out _).mono ?_
  rintro e _ ⟨rfl, rfl⟩
  go_wp2_with fail
  refine (HFl.out _).mono ?_
  rintro e w2 ⟨rfl, hb2⟩
  have HB2 := Lib.hid (HB1.out.trans (hb2.mono HB1.out.size))
  clear hb2
  go_wp2_with fail
  go_ret2
  exact ⟨rfl, HB2.out⟩

set_option maxHeartbeats 4000000 in
set_option maxRecDepth 1000000 in
theorem Number_117 (m p bl al z : Bool) (wd pr : Int) (b : Nat) (w : World) (hb : b < 18446744073709551616) (hf : fin b = true) (hp1 : -1 ≤ pr) (hp2 : pr ≤ 190) (hw : 0 ≤ wd) (hw2 : wd ≤ 1024) :
    Calls Tryz.prog 24 #[.agg (specA m p bl al z wd pr 117), .float .f64 b] w fun e w' => e = .returned (.tuple #[.string (wholeO m p bl al z wd pr 117 b), .int .i64 0]) ∧ Below w.heap.size w w' := by
  have HFl := Lib.hid (fun W => whole_117 m p bl al z wd pr b W hb hf hp1 hp2 hw hw2)
  have HCk := Lib.hid (fun W => Check_ok m p bl al z wd pr 117 W (by
    unfold okS
    rw [show ixB verbsB 117 = 5 from by decide, decide_eq_true hw, decide_eq_true hw2, decide_eq_true hp1, decide_eq_true hp2]
    rfl))
  have HPt := Lib.hid (fun W => Parts_any b W hb)
  rw [hf] at HPt
  have HI1 : Hid (∀ W, Calls Tryz.prog 69 #[.string ⟨#[100, 105, 111, 120, 88, 117, 101, 69, 102, 70, 103, 71]⟩, .int .u8 117] W fun e w' => e = .returned (.int .i64 5) ∧ w' = W) := fun W => Tryz.strings_IndexByte ⟨#[100, 105, 111, 120, 88, 117, 101, 69, 102, 70, 103, 71]⟩ 117 W
  have HI2 : Hid (∀ W, Calls Tryz.prog 69 #[.string ⟨#[100, 105, 111, 120, 88, 117]⟩, .int .u8 117] W fun e w' => e = .returned (.int .i64 5) ∧ w' = W) := fun W => Tryz.strings_IndexByte ⟨#[100, 105, 111, 120, 88, 117]⟩ 117 W
  generalize wholeO m p bl al z wd pr 117 b = out at *
  unfold specA at HFl HCk ⊢
  clear hp1 hp2 hw hw2
  go_enter Tryz.func24, Tryz.ntmps24
  go_wp2_with fail
  refine (HCk.out _).mono ?_
  rintro e w1 ⟨rfl, hb1⟩
  have HB1 := Lib.hid (((Below.refl w.heap.size w).alloc (Nat.le_refl _) (.cells #[.bool m, .bool p, .bool bl, .bool al, .bool z, .int .i64 wd, .int .i64 pr, .int .u8 117] 35)).trans (hb1.mono (by simp)))
  have hsp : SpAt w1 w.heap.size #[.bool m, .bool p, .bool bl, .bool al, .bool z, .int .i64 wd, .int .i64 pr, .int .u8 117] := SpAt.next (heap_alloc_at w _) hb1
  have k0 : w1.cell? ⟨w.heap.size, 0, none⟩ = some (.bool m) := hsp.cell 0
  have k1 : w1.cell? ⟨w.heap.size, 1, none⟩ = some (.bool p) := hsp.cell 1
  have k2 : w1.cell? ⟨w.heap.size, 2, none⟩ = some (.bool bl) := hsp.cell 2
  have k3 : w1.cell? ⟨w.heap.size, 3, none⟩ = some (.bool al) := hsp.cell 3
  have k4 : w1.cell? ⟨w.heap.size, 4, none⟩ = some (.bool z) := hsp.cell 4
  have k5 : w1.cell? ⟨w.heap.size, 5, none⟩ = some (.int .i64 wd) := hsp.cell 5
  have k6 : w1.cell? ⟨w.heap.size, 6, none⟩ = some (.int .i64 pr) := hsp.cell 6
  have k7 : w1.cell? ⟨w.heap.size, 7, none⟩ = some (.int .u8 117) := hsp.cell 7
  clear hb1 hsp
  go_wp2_with fail
  refine (HI1.out _).mono ?_
  rintro e _ ⟨rfl, rfl⟩
  go_wp2_with fail
  refine (HPt.out _).mono ?_
  rintro e _ ⟨rfl, rfl⟩
  go_wp2_with fail
  refine (HI2.out _).mono ?_
  rintro e _ ⟨rfl, rfl⟩
  go_wp2_with fail
  refine (HFl.out _).mono ?_
  rintro e w2 ⟨rfl, hb2⟩
  have HB2 := Lib.hid (HB1.out.trans (hb2.mono HB1.out.size))
  clear hb2
  go_wp2_with fail
  go_ret2
  exact ⟨rfl, HB2.out⟩

/-- the verbs of numbers -/
def numsV : ByteArray := ⟨#[100, 105, 111, 120, 88, 117, 101, 69, 102, 70, 103, 71]⟩
def isNum (vb : Nat) : Bool := decide (0 ≤ ixB numsV vb)
def numE (wd pr : Int) (vb : Nat) : Int := if okS wd pr vb = true ∧ isNum vb = true then 0 else 50
noncomputable def numO (m p bl al z : Bool) (wd pr : Int) (vb b : Nat) : ByteArray :=
  if okS wd pr vb = true ∧ isNum vb = true then
    (if fin b = false then ⟨(padL m false wd [] (oddO b).data.toList).toArray⟩
     else if vb = 101 ∨ vb = 69 ∨ vb = 102 ∨ vb = 70 ∨ vb = 103 ∨ vb = 71 then floatO m p bl al z wd pr vb b else wholeO m p bl al z wd pr vb b)
  else ⟨#[]⟩
theorem isNum_all : ((List.range 256).all fun vb => isNum vb == (vb == 100 || vb == 105 || vb == 111 || vb == 120 || vb == 88 || vb == 117 || vb == 101 || vb == 69 || vb == 102 || vb == 70 || vb == 103 || vb == 71)) = true := by kernel_rfl
theorem isNum_cases {vb : Nat} (h : vb < 256) (hn : isNum vb = true) : vb = 100 ∨ vb = 105 ∨ vb = 111 ∨ vb = 120 ∨ vb = 88 ∨ vb = 117 ∨ vb = 101 ∨ vb = 69 ∨ vb = 102 ∨ vb = 70 ∨ vb = 103 ∨ vb = 71 := by
  have h1 := List.all_eq_true.1 isNum_all vb (List.mem_range.2 h)
  rw [hn] at h1
  simp at h1
  omega
theorem okS_facts {wd pr : Int} {vb : Nat} (h : okS wd pr vb = true) : 0 ≤ wd ∧ wd ≤ 1024 ∧ -1 ≤ pr ∧ pr ≤ 190 := by
  unfold okS at h
  simp only [Bool.and_eq_true, decide_eq_true_iff] at h
  omega
set_option maxHeartbeats 4000000 in
set_option maxRecDepth 1000000 in
theorem Number_bad (m p bl al z : Bool) (wd pr : Int) (vb b : Nat) (w : World) (hvb : vb < 256) (h : okS wd pr vb = false) :
    Calls Tryz.prog 24 #[.agg (specA m p bl al z wd pr vb), .float .f64 b] w fun e w' => e = .returned (.tuple #[.string ⟨#[]⟩, .int .i64 50]) ∧ Below w.heap.size w w' := by
  have HCk := Lib.hid (fun W => Check_bad m p bl al z wd pr vb W h)
  unfold specA at HCk ⊢
  clear h
  go_enter Tryz.func24, Tryz.ntmps24
  go_wp2_with fail
  refine (HCk.out _).mono ?_
  rintro e w1 ⟨rfl, hb1⟩
  have HB1 := Lib.hid (((Below.refl w.heap.size w).alloc (Nat.le_refl _) (.cells #[.bool m, .bool p, .bool bl, .bool al, .bool z, .int .i64 wd, .int .i64 pr, .int .u8 (vb : Int)] 35)).trans (hb1.mono (by simp)))
  have hsp : SpAt w1 w.heap.size #[.bool m, .bool p, .bool bl, .bool al, .bool z, .int .i64 wd, .int .i64 pr, .int .u8 (vb : Int)] := SpAt.next (heap_alloc_at w _) hb1
  have k0 : w1.cell? ⟨w.heap.size, 0, none⟩ = some (.bool m) := hsp.cell 0
  have k1 : w1.cell? ⟨w.heap.size, 1, none⟩ = some (.bool p) := hsp.cell 1
  have k2 : w1.cell? ⟨w.heap.size, 2, none⟩ = some (.bool bl) := hsp.cell 2
  have k3 : w1.cell? ⟨w.heap.size, 3, none⟩ = some (.bool al) := hsp.cell 3
  have k4 : w1.cell? ⟨w.heap.size, 4, none⟩ = some (.bool z) := hsp.cell 4
  have k5 : w1.cell? ⟨w.heap.size, 5, none⟩ = some (.int .i64 wd) := hsp.cell 5
  have k6 : w1.cell? ⟨w.heap.size, 6, none⟩ = some (.int .i64 pr) := hsp.cell 6
  have k7 : w1.cell? ⟨w.heap.size, 7, none⟩ = some (.int .u8 (vb : Int)) := hsp.cell 7
  clear hb1 hsp
  go_wp2_with fail
  go_ret2
  exact ⟨rfl, HB1.out⟩
set_option maxHeartbeats 4000000 in
set_option maxRecDepth 1000000 in
theorem Number_other (m p bl al z : Bool) (wd pr : Int) (vb b : Nat) (w : World) (hvb : vb < 256) (h : okS wd pr vb = true) (hn : isNum vb = false) :
    Calls Tryz.prog 24 #[.agg (specA m p bl al z wd pr vb), .float .f64 b] w fun e w' => e = .returned (.tuple #[.string ⟨#[]⟩, .int .i64 50]) ∧ Below w.heap.size w w' := by
  have HCk := Lib.hid (fun W => Check_ok m p bl al z wd pr vb W h)
  have HI1 : Hid (∀ W, Calls Tryz.prog 69 #[.string ⟨#[100, 105, 111, 120, 88, 117, 101, 69, 102, 70, 103, 71]⟩, .int .u8 (vb : Int)] W fun e w' => e = .returned (.int .i64 (ixB numsV vb)) ∧ w' = W) := fun W => Tryz.strings_IndexByte ⟨#[100, 105, 111, 120, 88, 117, 101, 69, 102, 70, 103, 71]⟩ (vb : Int) W
  have hneg : ixB numsV vb < 0 := by unfold isNum at hn; simp at hn; exact hn
  generalize ixB numsV vb = q at *
  unfold specA at HCk ⊢
  clear h hn
  go_enter Tryz.func24, Tryz.ntmps24
  go_wp2_with fail
  refine (HCk.out _).mono ?_
  rintro e w1 ⟨rfl, hb1⟩
  have HB1 := Lib.hid (((Below.refl w.heap.size w).alloc (Nat.le_refl _) (.cells #[.bool m, .bool p, .bool bl, .bool al, .bool z, .int .i64 wd, .int .i64 pr, .int .u8 (vb : Int)] 35)).trans (hb1.mono (by simp)))
  have hsp : SpAt w1 w.heap.size #[.bool m, .bool p, .bool bl, .bool al, .bool z, .int .i64 wd, .int .i64 pr, .int .u8 (vb : Int)] := SpAt.next (heap_alloc_at w _) hb1
  have k0 : w1.cell? ⟨w.heap.size, 0, none⟩ = some (.bool m) := hsp.cell 0
  have k1 : w1.cell? ⟨w.heap.size, 1, none⟩ = some (.bool p) := hsp.cell 1
  have k2 : w1.cell? ⟨w.heap.size, 2, none⟩ = some (.bool bl) := hsp.cell 2
  have k3 : w1.cell? ⟨w.heap.size, 3, none⟩ = some (.bool al) := hsp.cell 3
  have k4 : w1.cell? ⟨w.heap.size, 4, none⟩ = some (.bool z) := hsp.cell 4
  have k5 : w1.cell? ⟨w.heap.size, 5, none⟩ = some (.int .i64 wd) := hsp.cell 5
  have k6 : w1.cell? ⟨w.heap.size, 6, none⟩ = some (.int .i64 pr) := hsp.cell 6
  have k7 : w1.cell? ⟨w.heap.size, 7, none⟩ = some (.int .u8 (vb : Int)) := hsp.cell 7
  clear hb1 hsp
  go_wp2_with fail
  refine (HI1.out _).mono ?_
  rintro e _ ⟨rfl, rfl⟩
  go_wp2_with fail
  go_ret2
  exact ⟨rfl, HB1.out⟩
set_option maxHeartbeats 4000000 in
set_option maxRecDepth 1000000 in
theorem Number_odd (m p bl al z : Bool) (wd pr : Int) (vb b : Nat) (w : World) (hvb : vb < 256) (hb : b < 18446744073709551616) (h : okS wd pr vb = true) (hn : isNum vb = true) (hf : fin b = false) :
    Calls Tryz.prog 24 #[.agg (specA m p bl al z wd pr vb), .float .f64 b] w fun e w' => e = .returned (.tuple #[.string ⟨(padL m false wd [] (oddO b).data.toList).toArray⟩, .int .i64 0]) ∧ Below w.heap.size w w' := by
  have HCk := Lib.hid (fun W => Check_ok m p bl al z wd pr vb W h)
  have HI1 : Hid (∀ W, Calls Tryz.prog 69 #[.string ⟨#[100, 105, 111, 120, 88, 117, 101, 69, 102, 70, 103, 71]⟩, .int .u8 (vb : Int)] W fun e w' => e = .returned (.int .i64 (ixB numsV vb)) ∧ w' = W) := fun W => Tryz.strings_IndexByte ⟨#[100, 105, 111, 120, 88, 117, 101, 69, 102, 70, 103, 71]⟩ (vb : Int) W
  have hneg : 0 ≤ ixB numsV vb := by unfold isNum at hn; simp at hn; exact hn
  have hneg2 : decide (ixB numsV vb < 0) = false := by simp; omega
  have HPt := Lib.hid (fun W => Parts_any b W hb)
  rw [hf] at HPt
  obtain ⟨o1, o2, o3, o4⟩ := okS_facts h
  have HOd := Lib.hid (fun W => odd_any b W)
  have hos := odd_size b
  have HPd : Hid (∀ W, Calls Tryz.prog 70 #[.agg (specA m p bl al z wd pr vb), .string ⟨#[]⟩, .string (oddO b), .bool false] W fun e w' => e = .returned (.string ⟨(padL m false wd [] (oddO b).data.toList).toArray⟩) ∧ Below W.heap.size W w') := fun W => padded_any m p bl al z false wd pr vb ⟨#[]⟩ (oddO b) W o1 o2 (by decide) (by omega)
  generalize ixB numsV vb = q at *
  generalize (⟨(padL m false wd [] (oddO b).data.toList).toArray⟩ : ByteArray) = out at *
  generalize oddO b = od at *
  unfold specA at HCk HPd ⊢
  clear h hn o1 o2 o3 o4 hos
  go_enter Tryz.func24, Tryz.ntmps24
  go_wp2_with fail
  refine (HCk.out _).mono ?_
  rintro e w1 ⟨rfl, hb1⟩
  have HB1 := Lib.hid (((Below.refl w.heap.size w).alloc (Nat.le_refl _) (.cells #[.bool m, .bool p, .bool bl, .bool al, .bool z, .int .i64 wd, .int .i64 pr, .int .u8 (vb : Int)] 35)).trans (hb1.mono (by simp)))
  have hsp : SpAt w1 w.heap.size #[.bool m, .bool p, .bool bl, .bool al, .bool z, .int .i64 wd, .int .i64 pr, .int .u8 (vb : Int)] := SpAt.next (heap_alloc_at w _) hb1
  have k0 : w1.cell? ⟨w.heap.size, 0, none⟩ = some (.bool m) := hsp.cell 0
  have k1 : w1.cell? ⟨w.heap.size, 1, none⟩ = some (.bool p) := hsp.cell 1
  have k2 : w1.cell? ⟨w.heap.size, 2, none⟩ = some (.bool bl) := hsp.cell 2
  have k3 : w1.cell? ⟨w.heap.size, 3, none⟩ = some (.bool al) := hsp.cell 3
  have k4 : w1.cell? ⟨w.heap.size, 4, none⟩ = some (.bool z) := hsp.cell 4
  have k5 : w1.cell? ⟨w.heap.size, 5, none⟩ = some (.int .i64 wd) := hsp.cell 5
  have k6 : w1.cell? ⟨w.heap.size, 6, none⟩ = some (.int .i64 pr) := hsp.cell 6
  have k7 : w1.cell? ⟨w.heap.size, 7, none⟩ = some (.int .u8 (vb : Int)) := hsp.cell 7
  clear hb1 hsp
  go_wp2_with fail
  refine (HI1.out _).mono ?_
  rintro e _ ⟨rfl, rfl⟩
  go_wp2_with fail
  refine (HPt.out _).mono ?_
  rintro e _ ⟨rfl, rfl⟩
  go_wp2_with fail
  refine wp_region_guarded (by kernel_rfl) (by kernel_rfl) (fun a0 V0 L a W => ∃ u : Nat → Value, a = { tmps := ((((((a0.tmps.setIfInBounds 27 (u 0)).setIfInBounds 28 (u 1)).setIfInBounds 29 (u 2)).setIfInBounds 30 (u 3)).setIfInBounds 4 (u 4)).setIfInBounds 5 (u 5)), defers := a0.defers } ∧ Hid (Below V0.heap.size V0 W) ∧ Hid (∀ i, L i = true → u i = valAt [.agg #[.bool m, .bool p, .bool bl, .bool al, .bool z, .int .i64 wd, .int .i64 pr, .int .u8 (vb : Int)], .float .f64 b, .string od, .string out, .string out, .int .i64 0] i)) ?h0 ?hstep ?hdone
  case h0 =>
    refine ⟨valAt [undef, undef, undef, undef, .string ⟨#[]⟩, .int .i64 0], ?_, (Below.refl _ _).drew, fun _ h => (by cases h)⟩
    kernel_rfl
  case hstep =>
    refine ⟨?o0, ?o1, ?o2, ?o3, ?o4, ?o5, trivial⟩
    case o0 =>
      rintro L a' W ⟨u, rfl, HI, E⟩ hL hd K hK
      have kk0 := cellNext HI.out k0
      have kk1 := cellNext HI.out k1
      have kk2 := cellNext HI.out k2
      have kk3 := cellNext HI.out k3
      have kk4 := cellNext HI.out k4
      have kk5 := cellNext HI.out k5
      have kk6 := cellNext HI.out k6
      have kk7 := cellNext HI.out k7
      simp only [List.setIfInBounds_toArray, List.set_cons_zero, List.set_cons_succ]
      refine ite_take rfl ?_
      clear hL hd
      go_simp
      refine hK _ _ ⟨withVal u 0 (.agg #[.bool m, .bool p, .bool bl, .bool al, .bool z, .int .i64 wd, .int .i64 pr, .int .u8 (vb : Int)]), ?_, HI, withVal_next E 0 _ rfl⟩
      kernel_rfl
    case o1 =>
      rintro L a' W ⟨u, rfl, HI, E⟩ hL hd K hK
      simp only [List.setIfInBounds_toArray, List.set_cons_zero, List.set_cons_succ]
      refine ite_take rfl ?_
      clear hL hd
      go_simp
      refine hK _ _ ⟨withVal u 1 (.float .f64 b), ?_, HI, withVal_next E 1 _ rfl⟩
      kernel_rfl
    case o2 =>
      rintro L a' W ⟨u, rfl, HI, E⟩ hL hd K hK
      have e1 : u 1 = .float .f64 b := E.out 1 (hd 1 (List.elem_iff.1 (by kernel_rfl)))
      simp only [List.setIfInBounds_toArray, List.set_cons_zero, List.set_cons_succ, e1]
      refine ite_take rfl ?_
      clear hL hd
      go_simp
      refine (HOd.out W).mono ?_
      rintro e _ ⟨rfl, rfl⟩
      refine hK _ _ ⟨withVal (withVal u 1 (.float .f64 b)) 2 (.string od), ?_, HI, withVal_next (withVal_same E 1 _ rfl) 2 _ rfl⟩
      kernel_rfl
    case o3 =>
      rintro L a' W ⟨u, rfl, HI, E⟩ hL hd K hK
      have e0 : u 0 = .agg #[.bool m, .bool p, .bool bl, .bool al, .bool z, .int .i64 wd, .int .i64 pr, .int .u8 (vb : Int)] := E.out 0 (hd 0 (List.elem_iff.1 (by kernel_rfl)))
      have e2 : u 2 = .string od := E.out 2 (hd 2 (List.elem_iff.1 (by kernel_rfl)))
      simp only [List.setIfInBounds_toArray, List.set_cons_zero, List.set_cons_succ, e0, e2]
      refine ite_take rfl ?_
      clear hL hd
      go_simp
      refine (HPd.out W).mono ?_
      rintro e W' ⟨rfl, hb⟩
      refine hK _ _ ⟨withVal (withVal (withVal u 0 (.agg #[.bool m, .bool p, .bool bl, .bool al, .bool z, .int .i64 wd, .int .i64 pr, .int .u8 (vb : Int)])) 2 (.string od)) 3 (.string out), ?_, HI.out.trans (hb.mono HI.out.size), withVal_next (withVal_same (withVal_same E 0 _ rfl) 2 _ rfl) 3 _ rfl⟩
      kernel_rfl
    case o4 =>
      rintro L a' W ⟨u, rfl, HI, E⟩ hL hd K hK
      have e3 : u 3 = .string out := E.out 3 (hd 3 (List.elem_iff.1 (by kernel_rfl)))
      simp only [List.setIfInBounds_toArray, List.set_cons_zero, List.set_cons_succ, e3]
      refine ite_take rfl ?_
      clear hL hd
      go_simp
      refine hK _ _ ⟨withVal (withVal u 3 (.string out)) 4 (.string out), ?_, HI, withVal_next (withVal_same E 3 _ rfl) 4 _ rfl⟩
      kernel_rfl
    case o5 =>
      rintro L a' W ⟨u, rfl, HI, E⟩ hL hd K hK
      simp only [List.setIfInBounds_toArray, List.set_cons_zero, List.set_cons_succ]
      refine ite_take rfl ?_
      clear hL hd
      go_simp
      refine hK _ _ ⟨withVal u 5 (.int .i64 0), ?_, HI, withVal_next E 5 _ rfl⟩
      kernel_rfl
  case hdone =>
    rintro L a' W1 hall ⟨u, rfl, HI, E⟩
    have e0 : u 0 = .agg #[.bool m, .bool p, .bool bl, .bool al, .bool z, .int .i64 wd, .int .i64 pr, .int .u8 (vb : Int)] := E.out 0 (hall 0 (by decide))
    have e1 : u 1 = .float .f64 b := E.out 1 (hall 1 (by decide))
    have e2 : u 2 = .string od := E.out 2 (hall 2 (by decide))
    have e3 : u 3 = .string out := E.out 3 (hall 3 (by decide))
    have e4 : u 4 = .string out := E.out 4 (hall 4 (by decide))
    have e5 : u 5 = .int .i64 0 := E.out 5 (hall 5 (by decide))
    simp only [List.setIfInBounds_toArray, List.set_cons_zero, List.set_cons_succ, e0, e1, e2, e3, e4, e5]
    clear hall E
    go_wp2_with fail
    go_ret2
    exact ⟨rfl, HB1.out.trans (HI.out.mono HB1.out.size)⟩
theorem Number_any (m p bl al z : Bool) (wd pr : Int) (vb b : Nat) (w : World) (hvb : vb < 256) (hb : b < 18446744073709551616) (hT : PowOk w) :
    Calls Tryz.prog 24 #[.agg (specA m p bl al z wd pr vb), .float .f64 b] w fun e w' => e = .returned (.tuple #[.string (numO m p bl al z wd pr vb b), .int .i64 (numE wd pr vb)]) ∧ Below w.heap.size w w' := by
  unfold numO numE
  cases h : okS wd pr vb
  · rw [if_neg (show ¬ (false = true ∧ isNum vb = true) from fun h => by cases h.1), if_neg (show ¬ (false = true ∧ isNum vb = true) from fun h => by cases h.1)]
    exact Number_bad m p bl al z wd pr vb b w hvb h
  cases hn : isNum vb
  · rw [if_neg (show ¬ (true = true ∧ false = true) from fun h => by cases h.2), if_neg (show ¬ (true = true ∧ false = true) from fun h => by cases h.2)]
    exact Number_other m p bl al z wd pr vb b w hvb h hn
  rw [if_pos (show true = true ∧ true = true from ⟨rfl, rfl⟩), if_pos (show true = true ∧ true = true from ⟨rfl, rfl⟩)]
  cases hf : fin b
  · rw [if_pos (show false = false from rfl)]
    exact Number_odd m p bl al z wd pr vb b w hvb hb h hn hf
  rw [if_neg (by decide)]
  obtain ⟨o1, o2, o3, o4⟩ := okS_facts h
  rcases isNum_cases hvb hn with rfl | rfl | rfl | rfl | rfl | rfl | rfl | rfl | rfl | rfl | rfl | rfl
  · rw [if_neg (by decide)]; exact Number_100 m p bl al z wd pr b w hb hf o3 o4 o1 o2
  · rw [if_neg (by decide)]; exact Number_105 m p bl al z wd pr b w hb hf o3 o4 o1 o2
  · rw [if_neg (by decide)]; exact Number_111 m p bl al z wd pr b w hb hf o3 o4 o1 o2
  · rw [if_neg (by decide)]; exact Number_120 m p bl al z wd pr b w hb hf o3 o4 o1 o2
  · rw [if_neg (by decide)]; exact Number_88 m p bl al z wd pr b w hb hf o3 o4 o1 o2
  · rw [if_neg (by decide)]; exact Number_117 m p bl al z wd pr b w hb hf o3 o4 o1 o2
  · rw [if_pos (by decide)]; exact Number_101 m p bl al z wd pr b w hb hf o3 o4 o1 o2 hT
  · rw [if_pos (by decide)]; exact Number_69 m p bl al z wd pr b w hb hf o3 o4 o1 o2 hT
  · rw [if_pos (by decide)]; exact Number_102 m p bl al z wd pr b w hb hf o3 o4 o1 o2 hT
  · rw [if_pos (by decide)]; exact Number_70 m p bl al z wd pr b w hb hf o3 o4 o1 o2 hT
  · rw [if_pos (by decide)]; exact Number_103 m p bl al z wd pr b w hb hf o3 o4 o1 o2 hT
  · rw [if_pos (by decide)]; exact Number_71 m p bl al z wd pr b w hb hf o3 o4 o1 o2 hT
end Go.Proofs.YtfdnhkjeoeffoaaGreatDoor
end
