/- Package cal: Of out of range; Text of any date; Parse of it. -/
import Derived.Test.YtcipmfjefmjacaaGreatDoorC13
import Derived.Test.YtcipmfjefmjacaaGreatDoorC11
namespace Go.Proofs.YtcipmfjefmjacaaGreatDoor
open Go.RowKit
set_option linter.unusedVariables false

set_option maxRecDepth 100000 in
set_option maxHeartbeats 2000000 in
theorem Of_bad (t : Int) (w : World) (h : t < -62135596800 ∨ 253402300799 < t) (h1 : -9223372036854775808 ≤ t) (h2 : t ≤ 9223372036854775807) :
    Calls Tryz.prog 10 #[.int .i64 t] w fun e w' => e = .returned (.tuple #[dateV 0 0 0 0 0 0 0 0, .int .i64 1]) ∧ Below w.heap.size w w' := by
  go_enter Tryz.func10, Tryz.ntmps10
  rcases h with h | h
  · go_wp2_with fail
    exact bodyPost_ret (v := .tuple #[.agg #[.int .i64 0, .int .i64 0, .int .i64 0, .int .i64 0, .int .i64 0, .int .i64 0, .int .i64 0, .int .i64 0], .int .i64 1]) (by simp [results, Tryz.results10, go_sem]) rfl ⟨rfl, (Below.refl _ _).alloc (Nat.le_refl _) _⟩
  · have h3 : -62135596800 ≤ t := by omega
    go_wp2_with fail
    exact bodyPost_ret (v := .tuple #[.agg #[.int .i64 0, .int .i64 0, .int .i64 0, .int .i64 0, .int .i64 0, .int .i64 0, .int .i64 0, .int .i64 0], .int .i64 1]) (by simp [results, Tryz.results10, go_sem]) rfl ⟨rfl, (Below.refl _ _).alloc (Nat.le_refl _) _⟩

set_option maxRecDepth 100000 in
set_option maxHeartbeats 2000000 in
theorem Text_ok (fmt : ByteArray) (t : Int) (R : Int → Int → ByteArray) (w : World) (hT : Tabs w) (h1 : -62135596800 ≤ t) (h2 : t ≤ 253402300799)
    (hR : ∀ y mo, DateOk (t / 86400) y mo → (R y mo).size ≤ 1024 ∧ ∀ W, Tabs W → Calls Tryz.prog 22 #[.string fmt, ofV t y mo, .int .i64 t] W fun e W' => e = .returned (.string (R y mo)) ∧ Below W.heap.size W W') :
    Calls Tryz.prog 14 #[.string fmt, .int .i64 t] w fun e w' => (∃ y mo, DateOk (t / 86400) y mo ∧ e = .returned (.tuple #[.string (R y mo), .int .i64 0])) ∧ Below w.heap.size w w' := by
  have HT := Lib.hid hT
  have HR := Lib.hid hR
  have HO := Lib.hid (Of_ok t w h1 h2)
  clear hT hR
  go_enter Tryz.func14, Tryz.ntmps14
  go_wp2_with fail
  refine HO.out.mono ?_
  rintro e w1 ⟨⟨y, mo, rfl, hd⟩, hb1⟩
  have HB1 := Lib.hid hb1
  have hs1 := hb1.size
  obtain ⟨hsz, hw⟩ := HR.out y mo hd
  have HW := Lib.hid hw
  have HD := Lib.hid hd
  obtain ⟨Z, hZ⟩ : ∃ Z, Z = R y mo := ⟨_, rfl⟩
  rw [← hZ] at hsz HW
  have HZ := Lib.hid hZ
  have hV : ofV t y mo = .agg #[.int .i64 y, .int .i64 mo, .int .i64 (t / 86400 - beginL y mo + 1), .int .i64 (t % 86400 / 3600), .int .i64 (t % 86400 / 60 % 60), .int .i64 (t % 86400 % 60), .int .i64 ((t / 86400 + 4) % 7), .int .i64 (t / 86400 - beginL y 1 + 1)] := rfl
  rw [hV] at HW ⊢
  obtain ⟨da, hda⟩ : ∃ z, z = t / 86400 - beginL y mo + 1 := ⟨_, rfl⟩
  obtain ⟨h, hh⟩ : ∃ z, z = t % 86400 / 3600 := ⟨_, rfl⟩
  obtain ⟨mi, hmi⟩ : ∃ z, z = t % 86400 / 60 % 60 := ⟨_, rfl⟩
  obtain ⟨s, hs⟩ : ∃ z, z = t % 86400 % 60 := ⟨_, rfl⟩
  obtain ⟨wk, hwk⟩ : ∃ z, z = (t / 86400 + 4) % 7 := ⟨_, rfl⟩
  obtain ⟨yd, hyd⟩ : ∃ z, z = t / 86400 - beginL y 1 + 1 := ⟨_, rfl⟩
  rw [← hda, ← hh, ← hmi, ← hs, ← hwk, ← hyd] at HW ⊢
  have hzI : (Z.size : Int) ≤ 1024 := by omega
  clear hb1 HO hw hd hV hda hh hmi hs hwk hyd HR hZ
  go_wp2_with fail
  refine (HW.out _ (HT.out.below (HB1.out.alloc hs1 _))).mono ?_
  rintro e w2 ⟨rfl, hb2⟩
  have HB2 := Lib.hid ((HB1.out.alloc hs1 _).trans (hb2.mono (by simp; omega)))
  clear hb2
  go_wp2_with fail
  go_ret2
  exact ⟨⟨y, mo, HD.out, by rw [← HZ.out]; rfl⟩, HB2.out⟩

/-- what a letter writes, of any date -/
def cvD (y mo da h mi s t : Int) (c : UInt8) : List UInt8 :=
  if c = 89 then Lib.itoa y else if c = 109 then wideL mo 2 [48] else if c = 100 then wideL da 2 [48] else if c = 72 then wideL h 2 [48] else if c = 77 then wideL mi 2 [48] else if c = 83 then wideL s 2 [48] else Lib.itoa t
def CvD (y mo da h mi s wk yd t : Int) (c : UInt8) : Prop := ∀ W, Tabs W → Calls Tryz.prog 36 #[.int .u8 c.toNat, dateV y mo da h mi s wk yd, .int .i64 t] W fun e W' => e = .returned (.tuple #[.string ⟨(cvD y mo da h mi s t c).toArray⟩, .bool true]) ∧ Below W.heap.size W W'
def fmtS : ByteArray := ⟨#[37, 89, 32, 37, 109, 32, 37, 100, 32, 37, 72, 32, 37, 77, 32, 37, 83]⟩
theorem known_S {CV LG : UInt8 → Prop} (h1 : CV 89) (h2 : CV 109) (h3 : CV 100) (h4 : CV 72) (h5 : CV 77) (h6 : CV 83) : Known CV LG [37, 89, 32, 37, 109, 32, 37, 100, 32, 37, 72, 32, 37, 77, 32, 37, 83] := by
  simp [Known, longL, h1, h2, h3, h4, h5, h6]
theorem known_s {CV LG : UInt8 → Prop} (h1 : CV 115) : Known CV LG [37, 115] := by
  simp [Known, longL, h1]
theorem wr_S (cv lg : UInt8 → List UInt8) : wrG cv lg [37, 89, 32, 37, 109, 32, 37, 100, 32, 37, 72, 32, 37, 77, 32, 37, 83] = sixL (cv 89) (cv 109) (cv 100) (cv 72) (cv 77) (cv 83) := by
  simp [wrG, longL, sixL]
theorem wr_s (cv lg : UInt8 → List UInt8) : wrG cv lg [37, 115] = cv 115 := by
  simp [wrG, longL]
theorem fair_of {day y mo h mi s : Int} (hd : DateOk day y mo) (h1 : -719162 ≤ day) (h2 : day ≤ 2932896) (hh : 0 ≤ h ∧ h ≤ 23) (hm : 0 ≤ mi ∧ mi ≤ 59) (hs : 0 ≤ s ∧ s ≤ 59) : Fair y mo (day - beginL y mo + 1) h mi s ((day + 4) % 7) (day - beginL y 1 + 1) := by
  obtain ⟨a, b⟩ := hd.bounds h1 h2
  obtain ⟨n1, n2, n3, n4⟩ := hd.nums
  have m1 := hd.m1
  have m2 := hd.m2
  exact ⟨by omega, by omega, by omega, by omega, by omega, by omega, by omega, by omega, by omega, by omega, by omega, by omega, by omega, by omega, by omega, by omega⟩
section
variable {y mo da h mi s wk yd t : Int}
theorem cvD_Y (hF : Fair y mo da h mi s wk yd) : CvD y mo da h mi s wk yd t 89 := fun W hT => conv_Y y mo da h mi s wk yd t W hT hF
theorem cvD_m (hF : Fair y mo da h mi s wk yd) : CvD y mo da h mi s wk yd t 109 := fun W hT => conv_m y mo da h mi s wk yd t W hT hF (itoa_small hF.mo1 (by have := hF.mo2; omega))
theorem cvD_d (hF : Fair y mo da h mi s wk yd) : CvD y mo da h mi s wk yd t 100 := fun W hT => conv_d y mo da h mi s wk yd t W hT hF (itoa_small hF.da1 (by have := hF.da2; omega))
theorem cvD_H (hF : Fair y mo da h mi s wk yd) : CvD y mo da h mi s wk yd t 72 := fun W hT => conv_H y mo da h mi s wk yd t W hT hF (itoa_small hF.h1 (by have := hF.h2; omega))
theorem cvD_M (hF : Fair y mo da h mi s wk yd) : CvD y mo da h mi s wk yd t 77 := fun W hT => conv_M y mo da h mi s wk yd t W hT hF (itoa_small hF.mi1 (by have := hF.mi2; omega))
theorem cvD_S (hF : Fair y mo da h mi s wk yd) : CvD y mo da h mi s wk yd t 83 := fun W hT => conv_S y mo da h mi s wk yd t W hT hF (itoa_small hF.s1 (by have := hF.s2; omega))
theorem cvD_s (hF : Fair y mo da h mi s wk yd) (h1 : -9223372036854775808 ≤ t) (h2 : t ≤ 9223372036854775807) : CvD y mo da h mi s wk yd t 115 := fun W hT => conv_s y mo da h mi s wk yd t W hT hF h1 h2
end
/-- the six words of a date -/
def dateS (y mo da h mi s : Int) : ByteArray := ⟨(sixL (Lib.itoa y) (wideL mo 2 [48]) (wideL da 2 [48]) (wideL h 2 [48]) (wideL mi 2 [48]) (wideL s 2 [48])).toArray⟩
structure Six (y mo da h mi s : Int) : Prop where
  y : 0 ≤ y ∧ y < 10000
  mo : 0 ≤ mo ∧ mo < 100
  da : 0 ≤ da ∧ da < 100
  h : 0 ≤ h ∧ h < 100
  mi : 0 ≤ mi ∧ mi < 100
  s : 0 ≤ s ∧ s < 100
theorem six_size {y mo da h mi s : Int} (H : Six y mo da h mi s) : (sixL (Lib.itoa y) (wideL mo 2 [48]) (wideL da 2 [48]) (wideL h 2 [48]) (wideL mi 2 [48]) (wideL s 2 [48])).length ≤ 100 := by
  have a := (itoa_facts H.y.1 H.y.2).2.2.1
  have b := (wide_facts H.mo.1 H.mo.2).2.2.1
  have c := (wide_facts H.da.1 H.da.2).2.2.1
  have d := (wide_facts H.h.1 H.h.2).2.2.1
  have e := (wide_facts H.mi.1 H.mi.2).2.2.1
  have f := (wide_facts H.s.1 H.s.2).2.2.1
  unfold sixL
  simp only [List.length_append, List.length_cons]
  omega
theorem written_S (y mo da h mi s wk yd t : Int) (hF : Fair y mo da h mi s wk yd) (H : Six y mo da h mi s) (W : World) (hT : Tabs W) :
    Calls Tryz.prog 22 #[.string fmtS, dateV y mo da h mi s wk yd, .int .i64 t] W fun e W' => e = .returned (.string (dateS y mo da h mi s)) ∧ Below W.heap.size W W' := by
  have e := wr_S (cvD y mo da h mi s t) (fun _ => [])
  have hw := written_any (cvD y mo da h mi s t) (fun _ => []) fmtS y mo da h mi s wk yd t W hT (by decide)
    (by rw [show fmtS.data.toList = [37, 89, 32, 37, 109, 32, 37, 100, 32, 37, 72, 32, 37, 77, 32, 37, 83] from rfl, e]; exact Nat.le_trans (six_size H) (by decide))
    (known_S (cvD_Y hF) (cvD_m hF) (cvD_d hF) (cvD_H hF) (cvD_M hF) (cvD_S hF))
  rw [show fmtS.data.toList = [37, 89, 32, 37, 109, 32, 37, 100, 32, 37, 72, 32, 37, 77, 32, 37, 83] from rfl, e] at hw
  exact hw
theorem Parse_S (y mo da h mi s : Int) (H : Six y mo da h mi s) (w : World) (hT : Tabs w) (ht1 : -62135596800 ≤ atL y mo da h mi s) (ht2 : atL y mo da h mi s ≤ 253402300799) :
    Calls Tryz.prog 16 #[.string (dateS y mo da h mi s)] w fun e w' => e = .returned (.int .i64 (atL y mo da h mi s)) ∧ Below w.heap.size w w' := by
  obtain ⟨a1, a2, a3, a4⟩ := itoa_facts H.y.1 H.y.2
  obtain ⟨b1, b2, b3, b4⟩ := wide_facts H.mo.1 H.mo.2
  obtain ⟨c1, c2, c3, c4⟩ := wide_facts H.da.1 H.da.2
  obtain ⟨d1, d2, d3, d4⟩ := wide_facts H.h.1 H.h.2
  obtain ⟨e1, e2, e3, e4⟩ := wide_facts H.mi.1 H.mi.2
  obtain ⟨f1, f2, f3, f4⟩ := wide_facts H.s.1 H.s.2
  have hpl := six_plain a1 b1 c1 d1 e1 f1
  have wd : ∀ (l : List UInt8) (v : Int), Digits l → l ≠ [] → l.length ≤ 4 → digVal l = v.toNat → 0 ≤ v → v < 10000 → Word ⟨l.toArray⟩ v := by
    intro l v q1 q2 q3 q4 q5 q6
    have hw := word_digits (s := ⟨l.toArray⟩) (n := v.toNat) q1 q2 (by rw [size_list]; show l.length ≤ 7; omega) q4 (by omega)
    rw [show ((v.toNat : Nat) : Int) = v by omega] at hw
    exact hw
  refine Parse_ok (dateS y mo da h mi s) ⟨(Lib.itoa y).toArray⟩ ⟨(wideL mo 2 [48]).toArray⟩ ⟨(wideL da 2 [48]).toArray⟩ ⟨(wideL h 2 [48]).toArray⟩ ⟨(wideL mi 2 [48]).toArray⟩ ⟨(wideL s 2 [48]).toArray⟩ y mo da h mi s w hT ?_ ?_ ?_ ?_
    (wd _ _ a1 a2 a3 a4 H.y.1 H.y.2) (wd _ _ b1 b2 b3 b4 H.mo.1 (by have := H.mo.2; omega)) (wd _ _ c1 c2 c3 c4 H.da.1 (by have := H.da.2; omega)) (wd _ _ d1 d2 d3 d4 H.h.1 (by have := H.h.2; omega)) (wd _ _ e1 e2 e3 e4 H.mi.1 (by have := H.mi.2; omega)) (wd _ _ f1 f2 f3 f4 H.s.1 (by have := H.s.2; omega)) ht1 ht2
  · rw [size_list]; exact Nat.le_trans (six_size H) (by decide)
  · exact mapD_plain _ hpl
  · intro j b hj
    exact (hpl b (List.mem_of_getElem? hj)).1
  · show (Lib.fields (sixL _ _ _ _ _ _)).map _ = _
    rw [fields_six ⟨a1, a2⟩ ⟨b1, b2⟩ ⟨c1, c2⟩ ⟨d1, d2⟩ ⟨e1, e2⟩ ⟨f1, f2⟩]
    rfl
end Go.Proofs.YtcipmfjefmjacaaGreatDoor
