/- What CalNext's code computes: it answers true. -/
import Derived.Test.YtcipmfjefmjacaaGreatDoorC10
namespace Go.Proofs.YtcipmfjefmjacaaGreatDoor
open Go.RowKit
set_option linter.unusedVariables false

theorem month_top {y : Int} : beginL (y + 1) 1 = beginL y 12 + 31 := by
  unfold beginL daysL
  omega
theorem year_months {y : Int} : beginL y 12 = beginL y 1 + 334 ∨ beginL y 12 = beginL y 1 + 335 := by
  unfold beginL daysL
  omega
/-- the next day: in the same month, in the next one, or in the next year -/
theorem DateOk.next {day y mo : Int} (h : DateOk day y mo) :
    (DateOk (day + 1) y mo) ∨ (mo ≤ 11 ∧ DateOk (day + 1) y (mo + 1) ∧ day + 1 = beginL y (mo + 1)) ∨ (mo = 12 ∧ DateOk (day + 1) (y + 1) 1 ∧ day + 1 = beginL (y + 1) 1) := by
  have lo := h.lo; have hi := h.hi; have m1 := h.m1; have m2 := h.m2; have ml := h.ml
  rcases Int.lt_or_le mo 12 with h12 | h12
  · have mh := h.mh h12
    rcases Int.lt_or_le (day + 1) (beginL y (mo + 1)) with hc | hc
    · refine .inl ⟨by omega, ?_, m1, m2, by omega, fun _ => hc⟩
      have b := begin_months (y := y) (m := mo + 1) (by omega) (12 - (mo + 1)).toNat (by omega)
      rw [show mo + 1 + ((12 - (mo + 1)).toNat : Int) = 12 by omega] at b
      have := month_top (y := y)
      omega
    · have he : day + 1 = beginL y (mo + 1) := by omega
      refine .inr (.inl ⟨by omega, ⟨by omega, ?_, by omega, by omega, by omega, ?_⟩, he⟩)
      · have b := begin_months (y := y) (m := mo + 1) (by omega) (12 - (mo + 1)).toNat (by omega)
        rw [show mo + 1 + ((12 - (mo + 1)).toNat : Int) = 12 by omega] at b
        have := month_top (y := y)
        omega
      · intro h11
        have := (begin_month (y := y) (m := mo + 1) (by omega) (by omega)).1
        omega
  · have h12' : mo = 12 := by omega
    subst h12'
    have ht := month_top (y := y)
    rcases Int.lt_or_le (day + 1) (beginL (y + 1) 1) with hc | hc
    · exact .inl ⟨by omega, hc, m1, m2, by omega, fun h => absurd h (by decide)⟩
    · have he : day + 1 = beginL (y + 1) 1 := by omega
      refine .inr (.inr ⟨rfl, ⟨by omega, ?_, by decide, by decide, by omega, ?_⟩, he⟩)
      · have := begin_year (y + 1)
        omega
      · intro _
        have := (begin_month (y := y + 1) (m := 1) (by decide) (by decide)).1
        omega
theorem DateOk.first {day y mo : Int} (h : DateOk day y mo) (h11 : mo ≤ 11) (he : day + 1 = beginL y (mo + 1)) : 28 ≤ day - beginL y mo + 1 := by
  have := (begin_month (y := y) (m := mo) h.m1 h11).1
  omega
theorem DateOk.last {day y : Int} (h : DateOk day y 12) (he : day + 1 = beginL (y + 1) 1) : 28 ≤ day - beginL y 12 + 1 ∧ 365 ≤ day - beginL y 1 + 1 := by
  have h1 := month_top (y := y)
  have h2 := year_months (y := y)
  omega
theorem DateOk.nums {day y mo : Int} (h : DateOk day y mo) : 1 ≤ day - beginL y mo + 1 ∧ day - beginL y mo + 1 ≤ 31 ∧ 1 ≤ day - beginL y 1 + 1 ∧ day - beginL y 1 + 1 ≤ 366 := by
  have lo := h.lo; have hi := h.hi; have m1 := h.m1; have m2 := h.m2; have ml := h.ml
  have hy := begin_year y
  rcases Int.lt_or_le mo 12 with h12 | h12
  · have mh := h.mh h12
    have := (begin_month (y := y) (m := mo) m1 (by omega)).2
    omega
  · have h12' : mo = 12 := by omega
    subst h12'
    have ht := month_top (y := y)
    omega

/-- the cells of a date in a world -/
def CellsAt (w : World) (b : Nat) (x0 x1 x2 x3 x4 x5 x6 x7 : Int) : Prop :=
  w.cell? ⟨b, 0, none⟩ = some (.int .i64 x0) ∧ w.cell? ⟨b, 1, none⟩ = some (.int .i64 x1) ∧ w.cell? ⟨b, 2, none⟩ = some (.int .i64 x2) ∧ w.cell? ⟨b, 3, none⟩ = some (.int .i64 x3) ∧
  w.cell? ⟨b, 4, none⟩ = some (.int .i64 x4) ∧ w.cell? ⟨b, 5, none⟩ = some (.int .i64 x5) ∧ w.cell? ⟨b, 6, none⟩ = some (.int .i64 x6) ∧ w.cell? ⟨b, 7, none⟩ = some (.int .i64 x7)
theorem cellsAt_kept (w w3 : World) (x0 x1 x2 x3 x4 x5 x6 x7 : Int) (hb : Below (w.alloc (.cells #[.int .i64 x0, .int .i64 x1, .int .i64 x2, .int .i64 x3, .int .i64 x4, .int .i64 x5, .int .i64 x6, .int .i64 x7] 23)).heap.size (w.alloc (.cells #[.int .i64 x0, .int .i64 x1, .int .i64 x2, .int .i64 x3, .int .i64 x4, .int .i64 x5, .int .i64 x6, .int .i64 x7] 23)) w3) :
    CellsAt w3 w.heap.size x0 x1 x2 x3 x4 x5 x6 x7 := by
  refine ⟨?_, ?_, ?_, ?_, ?_, ?_, ?_, ?_⟩ <;> (rw [hb.cell (by simp), World.cell?_alloc_new]; rfl)

set_option maxRecDepth 100000 in
set_option maxHeartbeats 8000000 in
theorem next_any (t : Int) (w : World) (hT : Tabs w) (ht1 : -9223372036854775808 ≤ t) (ht2 : t ≤ 9223372036854775807) :
    Calls Tryz.prog 7 #[.int .i64 t] w fun e w' => e = .returned (.bool true) ∧ Below w.heap.size w w' := by
  have HX := Lib.hid (fixed13_any w hT)
  clear hT
  go_enter Tryz.func7, Tryz.ntmps7
  go_wp2_with fail
  refine HX.out.mono ?_
  rintro e w1 ⟨rfl, hb1⟩
  have HB1 := Lib.hid hb1
  have hs1 := hb1.size
  clear hb1 HX
  rcases Int.lt_or_le t (-62135596800) with hr | hr
  · go_wp2_with fail
    go_ret
    exact ⟨rfl, HB1.out⟩
  rcases Int.lt_or_le 253402214399 t with hr2 | hr2
  · go_wp2_with fail
    go_ret
    exact ⟨rfl, HB1.out⟩
  go_wp2_with fail
  refine (Of_ok t w1 hr (by omega)).mono ?_
  rintro e w2 ⟨⟨y, mo, rfl, hd⟩, hb2⟩
  have HB2 := Lib.hid (HB1.out.trans (hb2.mono hs1))
  have hs2 := hb2.size
  clear hb2 HB1
  obtain ⟨by1, by2⟩ := hd.bounds (by omega) (by omega)
  obtain ⟨n1, n2, n3, n4⟩ := hd.nums
  have mo1 := hd.m1
  have mo2 := hd.m2
  have e1 : (t + 86400) / 86400 = t / 86400 + 1 := by omega
  have e2 : (t + 86400) % 86400 = t % 86400 := by omega
  have HO := Lib.hid (fun W => Of_ok (t + 86400) W (by omega) (by omega))
  rw [e1] at HO
  have hV : ∀ t' y' mo', ofV t' y' mo' = .agg #[.int .i64 y', .int .i64 mo', .int .i64 (t' / 86400 - beginL y' mo' + 1), .int .i64 (t' % 86400 / 3600), .int .i64 (t' % 86400 / 60 % 60), .int .i64 (t' % 86400 % 60), .int .i64 ((t' / 86400 + 4) % 7), .int .i64 (t' / 86400 - beginL y' 1 + 1)] := fun _ _ _ => rfl
  have hV2 : ∀ y' mo', ofV (t + 86400) y' mo' = .agg #[.int .i64 y', .int .i64 mo', .int .i64 (t / 86400 + 1 - beginL y' mo' + 1), .int .i64 (t % 86400 / 3600), .int .i64 (t % 86400 / 60 % 60), .int .i64 (t % 86400 % 60), .int .i64 ((t / 86400 + 1 + 4) % 7), .int .i64 (t / 86400 + 1 - beginL y' 1 + 1)] := by
    intro y' mo'; rw [hV, e1, e2]
  rw [hV]
  have HV2 := Lib.hid hV2
  obtain ⟨day, hday⟩ : ∃ d, d = t / 86400 := ⟨_, rfl⟩
  have hd1 : -719162 ≤ day := by omega
  have hd2 : day ≤ 2932896 := by omega
  rw [← hday] at hd n1 n2 n3 n4 HO HV2 ⊢
  obtain ⟨h, hh⟩ : ∃ z, z = t % 86400 / 3600 := ⟨_, rfl⟩
  obtain ⟨mi, hmi⟩ : ∃ z, z = t % 86400 / 60 % 60 := ⟨_, rfl⟩
  obtain ⟨s, hs⟩ : ∃ z, z = t % 86400 % 60 := ⟨_, rfl⟩
  obtain ⟨wk, hwk⟩ : ∃ z, z = (day + 4) % 7 := ⟨_, rfl⟩
  obtain ⟨wk2, hwk2⟩ : ∃ z, z = (day + 1 + 4) % 7 := ⟨_, rfl⟩
  have hww : (wk + 1).tmod 7 = wk2 := by rw [Int.tmod_eq_emod_of_nonneg (by omega)]; omega
  have wb1 : 0 ≤ wk := by omega
  have wb2 : wk ≤ 6 := by omega
  obtain ⟨da, hda⟩ : ∃ z, z = day - beginL y mo + 1 := ⟨_, rfl⟩
  obtain ⟨yd, hyd⟩ : ∃ z, z = day - beginL y 1 + 1 := ⟨_, rfl⟩
  rw [← hh, ← hmi, ← hs, ← hwk2] at HV2
  rw [← hda, ← hh, ← hmi, ← hs, ← hwk, ← hyd]
  rw [← hda] at n1 n2
  rw [← hyd] at n3 n4
  have HDA := Lib.hid hda
  have HYD := Lib.hid hyd
  have HD := Lib.hid hd
  clear hd e1 e2 hV hV2 hh hmi hs hwk hwk2 hda hyd hday
  go_wp2_with fail
  refine (HO.out _).mono ?_
  rintro e w3 ⟨⟨y', mo', rfl, hd'⟩, hb3⟩
  rw [HV2.out y' mo']
  have HB3 := Lib.hid ((HB2.out.alloc (by omega) _).trans (hb3.mono (by simp; omega)))
  have hs3 := hb3.size
  rw [World.size_alloc] at hs3
  obtain ⟨k0, k1, k2, k3, k4, k5, k6, k7⟩ := cellsAt_kept w2 w3 _ _ _ _ _ _ _ _ hb3
  have hlt : w2.heap.size < w3.heap.size := by omega
  clear hb3 HO HB2 HV2
  rcases HD.out.next with hn | ⟨hm11, hn, he⟩ | ⟨hm12, hn, he⟩
  · obtain ⟨rfl, rfl⟩ := hd'.unique hn
    have q1 : day + 1 - beginL y' mo' + 1 = da + 1 := by rw [HDA.out]; omega
    have q2 : day + 1 - beginL y' 1 + 1 = yd + 1 := by rw [HYD.out]; omega
    rw [q1, q2]
    clear hd' hn q1 q2
    go_wp2_with fail
    go_ret
    refine ⟨rfl, ?_⟩
    exact HB3.out.alloc (by omega) _
  · obtain ⟨rfl, rfl⟩ := hd'.unique hn
    have q1 : day + 1 - beginL y' (mo + 1) + 1 = 1 := by omega
    have q2 : day + 1 - beginL y' 1 + 1 = yd + 1 := by rw [HYD.out]; omega
    have q3 : 28 ≤ da := by rw [HDA.out]; exact HD.out.first hm11 he
    rw [q1, q2]
    clear hd' hn q1 q2 he
    go_wp2_with fail
    go_ret
    refine ⟨rfl, ?_⟩
    exact HB3.out.alloc (by omega) _
  · subst hm12
    obtain ⟨rfl, rfl⟩ := hd'.unique hn
    obtain ⟨q3, q4⟩ := HD.out.last he
    rw [← HDA.out] at q3
    rw [← HYD.out] at q4
    have q1 : day + 1 - beginL (y + 1) 1 + 1 = 1 := by omega
    rw [q1]
    clear hd' hn q1 he
    go_wp2_with fail
    go_ret
    refine ⟨rfl, ?_⟩
    exact HB3.out.alloc (by omega) _
end Go.Proofs.YtcipmfjefmjacaaGreatDoor
