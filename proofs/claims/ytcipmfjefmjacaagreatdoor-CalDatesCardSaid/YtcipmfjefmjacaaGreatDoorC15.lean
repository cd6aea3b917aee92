/- What CalBack's code computes: it answers true. -/
import Derived.Test.YtcipmfjefmjacaaGreatDoorC14
namespace Go.Proofs.YtcipmfjefmjacaaGreatDoor
open Go.RowKit
set_option linter.unusedVariables false

theorem itoa_any {t : Int} (h1 : -62135596800 ≤ t) (h2 : t ≤ 253402300799) : (Lib.itoa t).length ≤ 100 ∧ Lib.itoa t ≠ [] := by
  unfold Lib.itoa
  by_cases h : t < 0
  · rw [if_pos h]
    have := (dec_facts 11 t.natAbs (by show _ < 1000000000000; omega)).2.2.1
    exact ⟨by rw [List.length_cons]; omega, by simp⟩
  · rw [if_neg h]
    have h3 := dec_facts 11 t.toNat (by show _ < 1000000000000; omega)
    exact ⟨by have := h3.2.2.1; omega, h3.2.1⟩
theorem written_s (y mo da h mi s wk yd t : Int) (hF : Fair y mo da h mi s wk yd) (h1 : -62135596800 ≤ t) (h2 : t ≤ 253402300799) (W : World) (hT : Tabs W) :
    Calls Tryz.prog 22 #[.string ⟨#[37, 115]⟩, dateV y mo da h mi s wk yd, .int .i64 t] W fun e W' => e = .returned (.string ⟨(Lib.itoa t).toArray⟩) ∧ Below W.heap.size W W' := by
  have e := wr_s (cvD y mo da h mi s t) (fun _ => [])
  have hw := written_any (cvD y mo da h mi s t) (fun _ => []) ⟨#[37, 115]⟩ y mo da h mi s wk yd t W hT (by decide)
    (by rw [show (⟨#[37, 115]⟩ : ByteArray).data.toList = [37, 115] from rfl, e]; exact Nat.le_trans (itoa_any h1 h2).1 (by decide))
    (known_s (cvD_s hF (by omega) (by omega)))
  rw [show (⟨#[37, 115]⟩ : ByteArray).data.toList = [37, 115] from rfl, e] at hw
  exact hw
theorem CellsAt.below {w w' : World} {n b : Nat} {x0 x1 x2 x3 x4 x5 x6 x7 : Int} (h : CellsAt w b x0 x1 x2 x3 x4 x5 x6 x7) (hb : Below n w w') (hn : b < n) : CellsAt w' b x0 x1 x2 x3 x4 x5 x6 x7 := by
  obtain ⟨h0, h1, h2, h3, h4, h5, h6, h7⟩ := h
  exact ⟨(hb.cell (p := ⟨b, 0, none⟩) hn).trans h0, (hb.cell (p := ⟨b, 1, none⟩) hn).trans h1, (hb.cell (p := ⟨b, 2, none⟩) hn).trans h2, (hb.cell (p := ⟨b, 3, none⟩) hn).trans h3, (hb.cell (p := ⟨b, 4, none⟩) hn).trans h4, (hb.cell (p := ⟨b, 5, none⟩) hn).trans h5, (hb.cell (p := ⟨b, 6, none⟩) hn).trans h6, (hb.cell (p := ⟨b, 7, none⟩) hn).trans h7⟩
theorem cellsAt_new (w : World) (x0 x1 x2 x3 x4 x5 x6 x7 : Int) : CellsAt (w.alloc (.cells #[.int .i64 x0, .int .i64 x1, .int .i64 x2, .int .i64 x3, .int .i64 x4, .int .i64 x5, .int .i64 x6, .int .i64 x7] 23)) w.heap.size x0 x1 x2 x3 x4 x5 x6 x7 := by
  refine ⟨?_, ?_, ?_, ?_, ?_, ?_, ?_, ?_⟩ <;> (rw [World.cell?_alloc_new]; rfl)

set_option maxRecDepth 100000 in
set_option maxHeartbeats 8000000 in
theorem back_any (t : Int) (w : World) (hT : Tabs w) (ht1 : -9223372036854775808 ≤ t) (ht2 : t ≤ 9223372036854775807) :
    Calls Tryz.prog 6 #[.int .i64 t] w fun e w' => e = .returned (.bool true) ∧ Below w.heap.size w w' := by
  have HX := Lib.hid (fixed13_any w hT)
  have HT := Lib.hid hT
  clear hT
  go_enter Tryz.func6, Tryz.ntmps6
  go_wp2_with fail
  refine HX.out.mono ?_
  rintro e w1 ⟨rfl, hb1⟩
  have HB1 := Lib.hid hb1
  have hs1 := hb1.size
  clear hb1 HX
  go_wp2_with fail
  by_cases hbad : t < -62135596800 ∨ 253402300799 < t
  · refine (Of_bad t w1 hbad ht1 ht2).mono ?_
    rintro e w2 ⟨rfl, hb2⟩
    have HB2 := Lib.hid (HB1.out.trans (hb2.mono hs1))
    have hs2 := hb2.size
    clear hb2 HB1
    rw [show dateV 0 0 0 0 0 0 0 0 = .agg #[.int .i64 0, .int .i64 0, .int .i64 0, .int .i64 0, .int .i64 0, .int .i64 0, .int .i64 0, .int .i64 0] from rfl]
    rcases hbad with hr | hr
    · go_wp2_with fail
      go_ret
      exact ⟨rfl, HB2.out.alloc (by omega) _⟩
    · have hr3 : -62135596800 ≤ t := by omega
      go_wp2_with fail
      go_ret
      exact ⟨rfl, HB2.out.alloc (by omega) _⟩
  have hr : -62135596800 ≤ t := by omega
  have hr2 : t ≤ 253402300799 := by omega
  clear hbad
  refine (Of_ok t w1 hr hr2).mono ?_
  rintro e w2 ⟨⟨y, mo, rfl, hd⟩, hb2⟩
  have HB2 := Lib.hid (HB1.out.trans (hb2.mono hs1))
  have hs2 := hb2.size
  clear hb2 HB1
  have hF : ∀ y mo, DateOk (t / 86400) y mo → Fair y mo (t / 86400 - beginL y mo + 1) (t % 86400 / 3600) (t % 86400 / 60 % 60) (t % 86400 % 60) ((t / 86400 + 4) % 7) (t / 86400 - beginL y 1 + 1) := fun y mo hd => fair_of hd (by omega) (by omega) (by omega) (by omega) (by omega)
  have hS : ∀ y mo, DateOk (t / 86400) y mo → Six y mo (t / 86400 - beginL y mo + 1) (t % 86400 / 3600) (t % 86400 / 60 % 60) (t % 86400 % 60) := by
    intro y mo hd
    obtain ⟨a, b⟩ := hd.bounds (by omega) (by omega)
    obtain ⟨n1, n2, n3, n4⟩ := hd.nums
    have m1 := hd.m1
    have m2 := hd.m2
    refine ⟨⟨a, ?_⟩, by omega, by omega, by omega, by omega, by omega⟩
    rcases Int.lt_or_le y 10000 with h | h
    · exact h
    · exfalso
      have h2 := hd.lo
      have h3 : beginL 10000 1 ≤ beginL y 1 := begin_mono h
      have h4 : beginL 10000 1 = 2932897 := by decide
      omega
  have HTx := Lib.hid (fun W hW => Text_ok fmtS t (fun y mo => dateS y mo (t / 86400 - beginL y mo + 1) (t % 86400 / 3600) (t % 86400 / 60 % 60) (t % 86400 % 60)) W hW hr hr2
    (fun y mo hd => ⟨by rw [size_list]; exact Nat.le_trans (six_size (hS y mo hd)) (by decide), fun W hW => written_S _ _ _ _ _ _ _ _ t (hF y mo hd) (hS y mo hd) W hW⟩))
  have HTs := Lib.hid (fun W hW => Text_ok ⟨#[37, 115]⟩ t (fun _ _ => ⟨(Lib.itoa t).toArray⟩) W hW hr hr2
    (fun y mo hd => ⟨by rw [size_list]; exact Nat.le_trans (itoa_any hr hr2).1 (by decide), fun W hW => written_s _ _ _ _ _ _ _ _ t (hF y mo hd) hr hr2 W hW⟩))
  have hat : atL y mo (t / 86400 - beginL y mo + 1) (t % 86400 / 3600) (t % 86400 / 60 % 60) (t % 86400 % 60) = t := by
    unfold atL
    omega
  have hf := hF y mo hd
  have HP := Lib.hid (fun W hW => Parse_S y mo (t / 86400 - beginL y mo + 1) (t % 86400 / 3600) (t % 86400 / 60 % 60) (t % 86400 % 60) (hS y mo hd) W hW (by rw [hat]; exact hr) (by rw [hat]; exact hr2))
  have HA := Lib.hid (fun W => At_ok y mo (t / 86400 - beginL y mo + 1) (t % 86400 / 3600) (t % 86400 / 60 % 60) (t % 86400 % 60) ((t / 86400 + 4) % 7) (t / 86400 - beginL y 1 + 1) W (by have := hf.y1; have := (hS y mo hd).y; omega) (by have := (hS y mo hd).y; omega) (by have := hf.mo1; omega) (by have := hf.mo2; omega) (by have := hf.da1; omega) (by have := hf.da2; omega) (by omega) (by omega) (by omega) (by omega) (by omega) (by omega) (by rw [hat]; exact hr) (by rw [hat]; exact hr2))
  rw [hat] at HP HA
  obtain ⟨n1, n2, n3, n4⟩ := hd.nums
  have m1 := hd.m1
  have m2 := hd.m2
  have HD := Lib.hid hd
  have HU : Hid (∀ y' mo', DateOk (t / 86400) y' mo' → dateS y' mo' (t / 86400 - beginL y' mo' + 1) (t % 86400 / 3600) (t % 86400 / 60 % 60) (t % 86400 % 60) = dateS y mo (t / 86400 - beginL y mo + 1) (t % 86400 / 3600) (t % 86400 / 60 % 60) (t % 86400 % 60)) := by
    show ∀ _ _, _ → _
    intro y' mo' hd'
    obtain ⟨rfl, rfl⟩ := hd'.unique HD.out
    rfl
  have hi : (⟨(Lib.itoa t).toArray⟩ : ByteArray).toList.isEmpty = false := by
    rw [empty_bytes]
    have := (itoa_any hr hr2).2
    cases h : Lib.itoa t with
    | nil => exact absurd h this
    | cons _ _ => rfl
  obtain ⟨I, hI⟩ : ∃ I : ByteArray, I = ⟨(Lib.itoa t).toArray⟩ := ⟨_, rfl⟩
  rw [← hI] at hi HTs
  have hV : ofV t y mo = .agg #[.int .i64 y, .int .i64 mo, .int .i64 (t / 86400 - beginL y mo + 1), .int .i64 (t % 86400 / 3600), .int .i64 (t % 86400 / 60 % 60), .int .i64 (t % 86400 % 60), .int .i64 ((t / 86400 + 4) % 7), .int .i64 (t / 86400 - beginL y 1 + 1)] := rfl
  have hdV : dateV y mo (t / 86400 - beginL y mo + 1) (t % 86400 / 3600) (t % 86400 / 60 % 60) (t % 86400 % 60) ((t / 86400 + 4) % 7) (t / 86400 - beginL y 1 + 1) = .agg #[.int .i64 y, .int .i64 mo, .int .i64 (t / 86400 - beginL y mo + 1), .int .i64 (t % 86400 / 3600), .int .i64 (t % 86400 / 60 % 60), .int .i64 (t % 86400 % 60), .int .i64 ((t / 86400 + 4) % 7), .int .i64 (t / 86400 - beginL y 1 + 1)] := rfl
  rw [hV]
  rw [hdV] at HA
  have b1 : 0 ≤ t % 86400 / 3600 := by omega
  have b2 : t % 86400 / 3600 < 24 := by omega
  have b3 : 0 ≤ t % 86400 / 60 % 60 := by omega
  have b4 : t % 86400 / 60 % 60 < 60 := by omega
  have b5 : 0 ≤ t % 86400 % 60 := by omega
  have b6 : t % 86400 % 60 < 60 := by omega
  have b7 : 0 ≤ (t / 86400 + 4) % 7 := by omega
  have b8 : (t / 86400 + 4) % 7 < 7 := by omega
  obtain ⟨Z, hZ⟩ : ∃ Z, Z = dateS y mo (t / 86400 - beginL y mo + 1) (t % 86400 / 3600) (t % 86400 / 60 % 60) (t % 86400 % 60) := ⟨_, rfl⟩
  rw [← hZ] at HU HP
  clear hat hf hF hS hd hV hdV hI hZ HD
  generalize t / 86400 - beginL y mo + 1 = da at *
  generalize t / 86400 - beginL y 1 + 1 = yd at *
  generalize t % 86400 / 3600 = h at *
  generalize t % 86400 / 60 % 60 = mi at *
  generalize t % 86400 % 60 = s at *
  generalize (t / 86400 + 4) % 7 = wk at *
  rw [show fmtS = ⟨#[37, 89, 32, 37, 109, 32, 37, 100, 32, 37, 72, 32, 37, 77, 32, 37, 83]⟩ from rfl] at HTx
  have HBA := Lib.hid (HB2.out.alloc (o := .cells #[.int .i64 y, .int .i64 mo, .int .i64 da, .int .i64 h, .int .i64 mi, .int .i64 s, .int .i64 wk, .int .i64 yd] 23) (by omega))
  have HC2 := Lib.hid (cellsAt_new w2 y mo da h mi s wk yd)
  have hlast : w.heap.size ≤ w2.heap.size := by omega
  clear HB2
  go_wp2_with fail
  refine (HA.out _).mono ?_
  rintro e w3 ⟨rfl, hb3⟩
  have HB3 := Lib.hid (HBA.out.trans (hb3.mono (by simp; omega)))
  have HC3 := Lib.hid (HC2.out.below hb3 (by simp))
  have hs3 := hb3.size
  rw [World.size_alloc] at hs3
  have HT3 := Lib.hid (HT.out.below HB3.out)
  clear hb3 HA HBA HC2
  go_wp2_with fail
  refine (HTx.out w3 HT3.out).mono ?_
  rintro e w4 ⟨⟨y', mo', hd', rfl⟩, hb4⟩
  rw [HU.out y' mo' hd']
  have HB4 := Lib.hid (HB3.out.trans (hb4.mono (by omega)))
  have HC4 := Lib.hid (HC3.out.below hb4 (by omega))
  have hs4 := hb4.size
  have HT4 := Lib.hid (HT.out.below HB4.out)
  clear hb4 HTx HB3 HC3 HT3 hd'
  go_wp2_with fail
  refine (HTs.out w4 HT4.out).mono ?_
  rintro e w5 ⟨⟨y'', mo'', hd'', rfl⟩, hb5⟩
  have HB5 := Lib.hid (HB4.out.trans (hb5.mono (by omega)))
  have HC5 := Lib.hid (HC4.out.below hb5 (by omega))
  have hs5 := hb5.size
  have HT5 := Lib.hid (HT.out.below HB5.out)
  clear hb5 HTs HB4 HC4 HT4 hd''
  go_wp2_with fail
  refine (HP.out w5 HT5.out).mono ?_
  rintro e w6 ⟨rfl, hb6⟩
  have HB6 := Lib.hid (HB5.out.trans (hb6.mono (by omega)))
  obtain ⟨k0, k1, k2, k3, k4, k5, k6, k7⟩ := HC5.out.below hb6 (by omega)
  clear hb6 HP HB5 HC5 HT5 HT HU
  go_wp2_with fail
  go_ret
  exact ⟨rfl, HB6.out⟩
end Go.Proofs.YtcipmfjefmjacaaGreatDoor
