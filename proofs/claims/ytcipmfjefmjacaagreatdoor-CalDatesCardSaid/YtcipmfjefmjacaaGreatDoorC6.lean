/- Package cal: Text, and the document's example of it. -/
import Derived.Test.YtcipmfjefmjacaaGreatDoorC5
namespace Go.Proofs.YtcipmfjefmjacaaGreatDoor
open Go.RowKit
set_option linter.unusedVariables false

/-- what a letter writes in the example -/
def cvE (c : UInt8) : List UInt8 :=
  if c = 89 then [50, 48, 48, 48] else if c = 109 then [48, 50] else if c = 100 then [50, 57] else if c = 106 then [48, 54, 48] else if c = 86 then [48, 57] else if c = 97 then [84, 117, 101] else [48, 48]
def lgE (c : UInt8) : List UInt8 := if c = 70 then [50, 48, 48, 48, 45, 48, 50, 45, 50, 57] else [48, 48, 58, 48, 48, 58, 48, 48]
theorem fairE : Fair 2000 2 29 0 0 0 2 60 := ⟨by decide, by decide, by decide, by decide, by decide, by decide, by decide, by decide, by decide, by decide, by decide, by decide, by decide, by decide, by decide, by decide⟩
/-- what conv does in the example -/
def CvE (c : UInt8) : Prop := ∀ W, Tabs W → Calls Tryz.prog 36 #[.int .u8 c.toNat, dateV 2000 2 29 0 0 0 2 60, .int .i64 951782400] W fun e W' => e = .returned (.tuple #[.string ⟨(cvE c).toArray⟩, .bool true]) ∧ Below W.heap.size W W'
def LgE (c : UInt8) : Prop := ∀ W, Tabs W → Calls Tryz.prog 22 #[.string ⟨(longL c).toArray⟩, dateV 2000 2 29 0 0 0 2 60, .int .i64 951782400] W fun e W' => e = .returned (.string ⟨(lgE c).toArray⟩) ∧ Below W.heap.size W W'
theorem cvE_Y : CvE 89 := fun W hT => by
  have h := conv_Y 2000 2 29 0 0 0 2 60 951782400 W hT fairE
  rw [show Lib.itoa 2000 = cvE 89 by kernel_rfl] at h
  exact h
theorem cvE_m : CvE 109 := fun W hT => by
  have h := conv_m 2000 2 29 0 0 0 2 60 951782400 W hT fairE (of_decide_eq_true (by kernel_rfl))
  rw [show wideL 2 2 [48] = cvE 109 by kernel_rfl] at h
  exact h
theorem cvE_d : CvE 100 := fun W hT => by
  have h := conv_d 2000 2 29 0 0 0 2 60 951782400 W hT fairE (of_decide_eq_true (by kernel_rfl))
  rw [show wideL 29 2 [48] = cvE 100 by kernel_rfl] at h
  exact h
theorem cvE_H : CvE 72 := fun W hT => by
  have h := conv_H 2000 2 29 0 0 0 2 60 951782400 W hT fairE (of_decide_eq_true (by kernel_rfl))
  rw [show wideL 0 2 [48] = cvE 72 by kernel_rfl] at h
  exact h
theorem cvE_M : CvE 77 := fun W hT => by
  have h := conv_M 2000 2 29 0 0 0 2 60 951782400 W hT fairE (of_decide_eq_true (by kernel_rfl))
  rw [show wideL 0 2 [48] = cvE 77 by kernel_rfl] at h
  exact h
theorem cvE_S : CvE 83 := fun W hT => by
  have h := conv_S 2000 2 29 0 0 0 2 60 951782400 W hT fairE (of_decide_eq_true (by kernel_rfl))
  rw [show wideL 0 2 [48] = cvE 83 by kernel_rfl] at h
  exact h
theorem cvE_j : CvE 106 := fun W hT => by
  have h := conv_j 2000 2 29 0 0 0 2 60 951782400 W hT fairE (of_decide_eq_true (by kernel_rfl))
  rw [show wideL 60 3 [48] = cvE 106 by kernel_rfl] at h
  exact h
theorem isoE : isoW 2000 2 60 = 9 := by kernel_rfl
theorem cvE_V : CvE 86 := fun W hT => by
  have h := conv_V 2000 2 29 0 0 0 2 60 951782400 W hT fairE (by rw [isoE]; exact of_decide_eq_true (by kernel_rfl)) (by rw [isoE]; decide) (by rw [isoE]; decide)
  rw [isoE, show wideL 9 2 [48] = cvE 86 by kernel_rfl] at h
  exact h
theorem cvE_a : CvE 97 := fun W hT => conv_a 2000 2 29 0 0 0 60 951782400 W hT fairE

theorem known_F {CV LG : UInt8 → Prop} (h1 : CV 89) (h2 : CV 109) (h3 : CV 100) : Known CV LG [37, 89, 45, 37, 109, 45, 37, 100] := by
  simp [Known, longL, h1, h2, h3]
theorem known_T {CV LG : UInt8 → Prop} (h1 : CV 72) (h2 : CV 77) (h3 : CV 83) : Known CV LG [37, 72, 58, 37, 77, 58, 37, 83] := by
  simp [Known, longL, h1, h2, h3]
theorem known_E {CV LG : UInt8 → Prop} (h1 : LG 70) (h2 : LG 84) (h3 : CV 97) (h4 : CV 106) (h5 : CV 86) : Known CV LG [37, 70, 32, 37, 84, 32, 37, 97, 32, 37, 106, 32, 37, 86] := by
  simp [Known, longL, h1, h2, h3, h4, h5]
theorem lgE_F : LgE 70 := fun W hT => by
  have h := written_any cvE lgE ⟨#[37, 89, 45, 37, 109, 45, 37, 100]⟩ 2000 2 29 0 0 0 2 60 951782400 W hT (by decide) (of_decide_eq_true (by kernel_rfl)) (known_F cvE_Y cvE_m cvE_d)
  rw [show wrG cvE lgE (⟨#[37, 89, 45, 37, 109, 45, 37, 100]⟩ : ByteArray).data.toList = lgE 70 by kernel_rfl] at h
  exact h
theorem lgE_T : LgE 84 := fun W hT => by
  have h := written_any cvE lgE ⟨#[37, 72, 58, 37, 77, 58, 37, 83]⟩ 2000 2 29 0 0 0 2 60 951782400 W hT (by decide) (of_decide_eq_true (by kernel_rfl)) (known_T cvE_H cvE_M cvE_S)
  rw [show wrG cvE lgE (⟨#[37, 72, 58, 37, 77, 58, 37, 83]⟩ : ByteArray).data.toList = lgE 84 by kernel_rfl] at h
  exact h
/-- the example's text -/
def textE : ByteArray := ⟨#[50, 48, 48, 48, 45, 48, 50, 45, 50, 57, 32, 48, 48, 58, 48, 48, 58, 48, 48, 32, 84, 117, 101, 32, 48, 54, 48, 32, 48, 57]⟩
def fmtE : ByteArray := ⟨#[37, 70, 32, 37, 84, 32, 37, 97, 32, 37, 106, 32, 37, 86]⟩
theorem written_E (W : World) (hT : Tabs W) : Calls Tryz.prog 22 #[.string fmtE, dateV 2000 2 29 0 0 0 2 60, .int .i64 951782400] W fun e W' => e = .returned (.string textE) ∧ Below W.heap.size W W' := by
  have h := written_any cvE lgE fmtE 2000 2 29 0 0 0 2 60 951782400 W hT (by decide) (of_decide_eq_true (by kernel_rfl)) (known_E lgE_F lgE_T cvE_a cvE_j cvE_V)
  rw [show (⟨(wrG cvE lgE fmtE.data.toList).toArray⟩ : ByteArray) = textE by kernel_rfl] at h
  exact h

theorem date_E {y mo : Int} (h : DateOk 11016 y mo) : y = 2000 ∧ mo = 2 := by
  obtain ⟨h1, h2, h3, h4, h5, h6⟩ := h
  have hy : y = 2000 := by
    unfold beginL daysL at h1 h2
    omega
  subst hy
  refine ⟨rfl, ?_⟩
  rcases Int.lt_or_le mo 12 with h7 | h7
  · have h8 := h6 h7
    have : mo = 1 ∨ mo = 2 ∨ mo = 3 ∨ mo = 4 ∨ mo = 5 ∨ mo = 6 ∨ mo = 7 ∨ mo = 8 ∨ mo = 9 ∨ mo = 10 ∨ mo = 11 := by omega
    unfold beginL daysL at h5 h8
    rcases this with rfl | rfl | rfl | rfl | rfl | rfl | rfl | rfl | rfl | rfl | rfl <;> first | rfl | omega
  · have : mo = 12 := by omega
    subst this
    unfold beginL daysL at h5
    omega
theorem Of_E (w : World) : Calls Tryz.prog 10 #[.int .i64 951782400] w fun e w' => e = .returned (.tuple #[dateV 2000 2 29 0 0 0 2 60, .int .i64 0]) ∧ Below w.heap.size w w' := by
  refine (Of_ok 951782400 w (by decide) (by decide)).mono ?_
  rintro e w' ⟨⟨y, mo, rfl, hd⟩, hb⟩
  obtain ⟨rfl, rfl⟩ := date_E hd
  exact ⟨by rw [show ofV 951782400 2000 2 = dateV 2000 2 29 0 0 0 2 60 by kernel_rfl], hb⟩

set_option maxRecDepth 100000 in
set_option maxHeartbeats 2000000 in
theorem Text_E (w : World) (hT : Tabs w) : Calls Tryz.prog 14 #[.string fmtE, .int .i64 951782400] w fun e w' => e = .returned (.tuple #[.string textE, .int .i64 0]) ∧ Below w.heap.size w w' := by
  have HT := Lib.hid hT
  have hts : textE.size = 30 := by decide
  have HW := Lib.hid written_E
  generalize fmtE = F at *
  generalize textE = T at *
  have hd : dateV 2000 2 29 0 0 0 2 60 = .agg #[.int .i64 2000, .int .i64 2, .int .i64 29, .int .i64 0, .int .i64 0, .int .i64 0, .int .i64 2, .int .i64 60] := rfl
  have HO := Lib.hid (Of_E w)
  rw [hd] at HO HW
  clear hT hd
  go_enter Tryz.func14, Tryz.ntmps14
  go_wp2_with fail
  refine HO.out.mono ?_
  rintro e w1 ⟨rfl, hb1⟩
  have HB1 := Lib.hid hb1
  have hs1 := hb1.size
  clear hb1 HO
  go_wp2_with fail
  refine (HW.out _ (HT.out.below (HB1.out.alloc hs1 _))).mono ?_
  rintro e w2 ⟨rfl, hb2⟩
  have HB2 := Lib.hid ((HB1.out.alloc hs1 _).trans (hb2.mono (by simp; omega)))
  clear hb2
  go_wp2_with fail
  go_ret2
  exact ⟨rfl, HB2.out⟩
end Go.Proofs.YtcipmfjefmjacaaGreatDoor
