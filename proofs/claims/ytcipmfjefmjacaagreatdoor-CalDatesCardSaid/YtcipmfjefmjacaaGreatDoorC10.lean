/- What CalAges's code computes: it answers true. -/
import Derived.Test.YtcipmfjefmjacaaGreatDoorC9
namespace Go.Proofs.YtcipmfjefmjacaaGreatDoor
open Go.RowKit
set_option linter.unusedVariables false

theorem begin_400 (y m : Int) : beginL (y + 400) m = beginL y m + 146097 := by
  unfold beginL daysL
  omega
theorem begin_mono {y z : Int} (h : y ≤ z) : beginL y 1 ≤ beginL z 1 := by
  unfold beginL daysL
  omega
theorem begin_month {y m : Int} (h1 : 1 ≤ m) (h2 : m ≤ 11) : beginL y m + 28 ≤ beginL y (m + 1) ∧ beginL y (m + 1) ≤ beginL y m + 31 := by
  have : m = 1 ∨ m = 2 ∨ m = 3 ∨ m = 4 ∨ m = 5 ∨ m = 6 ∨ m = 7 ∨ m = 8 ∨ m = 9 ∨ m = 10 ∨ m = 11 := by omega
  unfold beginL daysL
  rcases this with rfl | rfl | rfl | rfl | rfl | rfl | rfl | rfl | rfl | rfl | rfl <;> omega
theorem begin_months {y m : Int} (h1 : 1 ≤ m) : ∀ k : Nat, m + k ≤ 12 → beginL y m ≤ beginL y (m + k)
  | 0, _ => by simp
  | k + 1, h => by
    have h2 := begin_months (y := y) h1 k (by omega)
    have h3 := (begin_month (y := y) (m := m + k) (by omega) (by omega)).1
    have e : m + ((k + 1 : Nat) : Int) = m + k + 1 := by omega
    rw [e]
    omega
theorem DateOk.unique {day y mo y' mo' : Int} (h : DateOk day y mo) (h' : DateOk day y' mo') : y = y' ∧ mo = mo' := by
  have hy : y = y' := by
    rcases Int.lt_trichotomy y y' with h1 | h1 | h1
    · have := begin_mono (y := y + 1) (z := y') (by omega)
      have a := h.hi; have b := h'.lo
      omega
    · exact h1
    · have := begin_mono (y := y' + 1) (z := y) (by omega)
      have a := h'.hi; have b := h.lo
      omega
  subst hy
  refine ⟨rfl, ?_⟩
  rcases Int.lt_trichotomy mo mo' with h1 | h1 | h1
  · exfalso
    have m1 := h.m1; have m2 := h'.m2
    have a := h.mh (by omega)
    have b := begin_months (y := y) (m := mo + 1) (by omega) (mo' - (mo + 1)).toNat (by omega)
    rw [show mo + 1 + ((mo' - (mo + 1)).toNat : Int) = mo' by omega] at b
    have c := h'.ml
    omega
  · exact h1
  · exfalso
    have m1 := h'.m1; have m2 := h.m2
    have a := h'.mh (by omega)
    have b := begin_months (y := y) (m := mo' + 1) (by omega) (mo - (mo' + 1)).toNat (by omega)
    rw [show mo' + 1 + ((mo - (mo' + 1)).toNat : Int) = mo by omega] at b
    have c := h.ml
    omega
theorem DateOk.ages {day y mo : Int} (h : DateOk day y mo) : DateOk (day + 146097) (y + 400) mo := by
  refine ⟨?_, ?_, h.m1, h.m2, ?_, ?_⟩
  · rw [begin_400]; have := h.lo; omega
  · rw [show y + 400 + 1 = y + 1 + 400 by omega, begin_400]; have := h.hi; omega
  · rw [begin_400]; have := h.ml; omega
  · intro h2; rw [begin_400]; have := h.mh h2; omega
theorem DateOk.bounds {day y mo : Int} (h : DateOk day y mo) (h1 : -719162 ≤ day) (h2 : day ≤ 2932896) : 0 ≤ y ∧ y ≤ 10000 := by
  have a := h.lo; have b := h.hi
  unfold beginL daysL at a b
  omega

set_option maxRecDepth 100000 in
set_option maxHeartbeats 4000000 in
theorem ages_any (t : Int) (w : World) (hT : Tabs w) (ht1 : -9223372036854775808 ≤ t) (ht2 : t ≤ 9223372036854775807) :
    Calls Tryz.prog 8 #[.int .i64 t] w fun e w' => e = .returned (.bool true) ∧ Below w.heap.size w w' := by
  have HX := Lib.hid (fixed13_any w hT)
  clear hT
  go_enter Tryz.func8, Tryz.ntmps8
  go_wp2_with fail
  refine HX.out.mono ?_
  rintro e w1 ⟨rfl, hb1⟩
  have HB1 := Lib.hid hb1
  have hs1 := hb1.size
  clear hb1 HX
  rcases Int.lt_or_le t (-62135596800) with hr | hr
  · go_wp2_with fail
    go_ret
    exact ⟨rfl, HB1.out⟩
  rcases Int.lt_or_le 240779519999 t with hr2 | hr2
  · go_wp2_with fail
    go_ret
    exact ⟨rfl, HB1.out⟩
  go_wp2_with fail
  refine (Of_ok t w1 hr (by omega)).mono ?_
  rintro e w2 ⟨⟨y, mo, rfl, hd⟩, hb2⟩
  have HB2 := Lib.hid (HB1.out.trans (hb2.mono hs1))
  have hs2 := hb2.size
  clear hb2 HB1
  have HD := Lib.hid hd
  obtain ⟨by1, by2⟩ := hd.bounds (by omega) (by omega)
  have mo1 := hd.m1
  have mo2 := hd.m2
  have hV2 : ∀ y' mo', DateOk ((t + 12622780800) / 86400) y' mo' → ofV (t + 12622780800) y' mo' = dateV (y + 400) mo (t / 86400 - beginL y mo + 1) (t % 86400 / 3600) (t % 86400 / 60 % 60) (t % 86400 % 60) ((t / 86400 + 4) % 7) (t / 86400 - beginL y 1 + 1) := by
    intro y' mo' hd'
    have e1 : (t + 12622780800) / 86400 = t / 86400 + 146097 := by omega
    have e2 : (t + 12622780800) % 86400 = t % 86400 := by omega
    rw [e1] at hd'
    obtain ⟨rfl, rfl⟩ := hd'.unique hd.ages
    unfold ofV
    rw [e1, e2, begin_400, begin_400]
    congr 1 <;> omega
  have HV2 := Lib.hid hV2
  have hV : ofV t y mo = .agg #[.int .i64 y, .int .i64 mo, .int .i64 (t / 86400 - beginL y mo + 1), .int .i64 (t % 86400 / 3600), .int .i64 (t % 86400 / 60 % 60), .int .i64 (t % 86400 % 60), .int .i64 ((t / 86400 + 4) % 7), .int .i64 (t / 86400 - beginL y 1 + 1)] := rfl
  have hdV : ∀ a b c d e f g h : Int, dateV a b c d e f g h = .agg #[.int .i64 a, .int .i64 b, .int .i64 c, .int .i64 d, .int .i64 e, .int .i64 f, .int .i64 g, .int .i64 h] := fun _ _ _ _ _ _ _ _ => rfl
  have HO := Lib.hid (fun W => Of_ok (t + 12622780800) W (by omega) (by omega))
  rw [hV]
  obtain ⟨da, hda⟩ : ∃ z, z = t / 86400 - beginL y mo + 1 := ⟨_, rfl⟩
  obtain ⟨h, hh⟩ : ∃ z, z = t % 86400 / 3600 := ⟨_, rfl⟩
  obtain ⟨mi, hmi⟩ : ∃ z, z = t % 86400 / 60 % 60 := ⟨_, rfl⟩
  obtain ⟨s, hs⟩ : ∃ z, z = t % 86400 % 60 := ⟨_, rfl⟩
  obtain ⟨wk, hwk⟩ : ∃ z, z = (t / 86400 + 4) % 7 := ⟨_, rfl⟩
  obtain ⟨yd, hyd⟩ : ∃ z, z = t / 86400 - beginL y 1 + 1 := ⟨_, rfl⟩
  rw [← hda, ← hh, ← hmi, ← hs, ← hwk, ← hyd] at HV2 ⊢
  clear hd hV2 hV hda hh hmi hs hwk hyd HD
  have HDV := Lib.hid hdV
  clear hdV
  go_wp2_with fail
  refine (HO.out _).mono ?_
  rintro e w3 ⟨⟨y', mo', rfl, hd'⟩, hb3⟩
  have hv2 := HV2.out y' mo' hd'
  rw [HDV.out] at hv2
  rw [hv2]
  have HB3 := Lib.hid ((HB2.out.alloc (by omega) _).trans (hb3.mono (by simp; omega)))
  have hs3 := hb3.size
  rw [World.size_alloc] at hs3
  have k0 : w3.cell? ⟨w2.heap.size, 0, none⟩ = some (.int .i64 y) := by rw [hb3.cell (p := ⟨w2.heap.size, 0, none⟩) (by simp), World.cell?_alloc_new]; rfl
  have k1 : w3.cell? ⟨w2.heap.size, 1, none⟩ = some (.int .i64 mo) := by rw [hb3.cell (p := ⟨w2.heap.size, 1, none⟩) (by simp), World.cell?_alloc_new]; rfl
  have k2 : w3.cell? ⟨w2.heap.size, 2, none⟩ = some (.int .i64 da) := by rw [hb3.cell (p := ⟨w2.heap.size, 2, none⟩) (by simp), World.cell?_alloc_new]; rfl
  have k3 : w3.cell? ⟨w2.heap.size, 3, none⟩ = some (.int .i64 h) := by rw [hb3.cell (p := ⟨w2.heap.size, 3, none⟩) (by simp), World.cell?_alloc_new]; rfl
  have k4 : w3.cell? ⟨w2.heap.size, 4, none⟩ = some (.int .i64 mi) := by rw [hb3.cell (p := ⟨w2.heap.size, 4, none⟩) (by simp), World.cell?_alloc_new]; rfl
  have k5 : w3.cell? ⟨w2.heap.size, 5, none⟩ = some (.int .i64 s) := by rw [hb3.cell (p := ⟨w2.heap.size, 5, none⟩) (by simp), World.cell?_alloc_new]; rfl
  have k6 : w3.cell? ⟨w2.heap.size, 6, none⟩ = some (.int .i64 wk) := by rw [hb3.cell (p := ⟨w2.heap.size, 6, none⟩) (by simp), World.cell?_alloc_new]; rfl
  have k7 : w3.cell? ⟨w2.heap.size, 7, none⟩ = some (.int .i64 yd) := by rw [hb3.cell (p := ⟨w2.heap.size, 7, none⟩) (by simp), World.cell?_alloc_new]; rfl
  have f0 : w3.frozen? ⟨w2.heap.size, 0, none⟩ = false := by rw [hb3.frozen (p := ⟨w2.heap.size, 0, none⟩) (by simp)]; exact World.frozen?_alloc_at _ _ _ _ rfl
  have hlt : w2.heap.size < w3.heap.size := by omega
  clear hb3 hd' hv2 HV2 HO HB2
  have hw12 : w.heap.size ≤ w2.heap.size := by omega
  go_wp2_with fail
  go_ret
  refine ⟨rfl, ?_⟩
  first
    | exact (HB3.out.setCell (p := ⟨w2.heap.size, 0, none⟩) hw12 _).alloc (by simp; omega) _
    | exact (HB3.out.alloc (by omega) _).setCell (p := ⟨w2.heap.size, 0, none⟩) hw12 _
end Go.Proofs.YtcipmfjefmjacaaGreatDoor
