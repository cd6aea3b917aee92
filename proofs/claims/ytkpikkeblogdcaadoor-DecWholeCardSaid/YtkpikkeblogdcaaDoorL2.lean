/- thresherlaw03: fixed; a number has one text. -/
import Derived.Test.YtkpikkeblogdcaaDoorL1
namespace Go.Proofs.YtkpikkeblogdcaaDoor
open Go.RowKit
set_option linter.unusedVariables false

theorem digits_unique : ∀ l l' : List UInt8, Digits l → Digits l' → l.length = l'.length → digVal l = digVal l' → l = l'
  | [], [], _, _, _, _ => rfl
  | [], _ :: _, _, _, h, _ => by simp at h
  | _ :: _, [], _, _, h, _ => by simp at h
  | c :: r, c' :: r', hd, hd', hl, hv => by
    have hl2 : r.length = r'.length := by simpa using hl
    have h1 := hd c (by simp)
    have h1' := hd' c' (by simp)
    have hr : Digits r := fun x hx => hd x (by simp [hx])
    have hr' : Digits r' := fun x hx => hd' x (by simp [hx])
    rw [digVal_cons, digVal_cons, hl2] at hv
    have h2 := digVal_lt hr
    have h2' := digVal_lt hr'
    rw [hl2] at h2
    have hP : 0 < 10 ^ r'.length := Nat.pow_pos (by decide)
    generalize 10 ^ r'.length = P at *
    have ha : (digVal r + P * (c.toNat - 48)) / P = (digVal r' + P * (c'.toNat - 48)) / P := by
      rw [Nat.mul_comm P, Nat.mul_comm P, Nat.add_comm, hv, Nat.add_comm]
    rw [Nat.add_mul_div_left _ _ hP, Nat.add_mul_div_left _ _ hP, Nat.div_eq_of_lt h2, Nat.div_eq_of_lt h2'] at ha
    have hc : c = c' := UInt8.toNat_inj.1 (by omega)
    subst hc
    rw [digits_unique r r' hr hr' hl2 (by omega)]
theorem canon_low {l : List UInt8} {x : Nat} (h : Canon l x) (hl : 1 < l.length) : 10 ^ (l.length - 1) ≤ x := by
  cases h1 : l with
  | nil => exact absurd h1 h.ne
  | cons c r =>
    have h2 := h.dig c (by rw [h1]; simp)
    have h3 : c.toNat ≠ 48 := fun h4 => by
      have := h.top c r h1 h4
      rw [h1, this] at hl; simp at hl
    have h5 := h.val
    rw [h1, digVal_cons] at h5
    have h6 : 1 * 10 ^ r.length ≤ (c.toNat - 48) * 10 ^ r.length := Nat.mul_le_mul_right _ (by omega)
    simp only [List.length_cons, Nat.add_sub_cancel]
    omega
theorem canon_length {l l' : List UInt8} {x : Nat} (h : Canon l x) (h' : Canon l' x) : l.length ≤ l'.length := by
  rcases Nat.lt_or_ge l'.length l.length with h1 | h1
  · exfalso
    have h0 : 0 < l'.length := List.length_pos_iff.2 h'.ne
    have h2 := canon_low h (by omega)
    have h3 := digVal_lt h'.dig
    rw [h'.val] at h3
    have h4 : 10 ^ l'.length ≤ 10 ^ (l.length - 1) := Nat.pow_le_pow_right (by decide) (by omega)
    omega
  · exact h1
/-- a number has one text -/
theorem canon_unique {l l' : List UInt8} {x : Nat} (h : Canon l x) (h' : Canon l' x) : l = l' :=
  digits_unique l l' h.dig h'.dig (Nat.le_antisymm (canon_length h h') (canon_length h' h)) (by rw [h.val, h'.val])
theorem digits_mk {l : List UInt8} (h : (l.all fun c => decide (48 ≤ c.toNat) && decide (c.toNat ≤ 57)) = true) : Digits l := by
  intro c hc
  have := List.all_eq_true.1 h c hc
  simpa using this
theorem canon_mk {l : List UInt8} {x : Nat} (h : (l.all fun c => decide (48 ≤ c.toNat) && decide (c.toNat ≤ 57)) = true) (hne : l ≠ []) (hv : digVal l = x) (ht : l.length = 1 ∨ l.head? ≠ some 48) : Canon l x := by
  refine ⟨hne, ?_, hv, ?_⟩
  · intro c hc
    have := List.all_eq_true.1 h c hc
    simpa using this
  · intro c r hl hc
    rcases ht with h1 | h1
    · rw [hl] at h1; simpa using h1
    · rw [hl] at h1
      exact absurd (by simp; exact UInt8.toNat_inj.1 hc) h1

def okAt (i : Nat) : Bool := !(decide (1000 ≤ scaledN 4653144203864309760 (3 - ((i : Int) - 325))) && decide (scaledN 4653144203864309760 (3 - ((i : Int) - 325)) < 10000)) || i == 328
theorem okAll : (List.range 635).all okAt = true := by kernel_rfl
theorem sci_fixed {x : Int} (h1 : -325 ≤ x) (h2 : x ≤ 309) (h : SciAt 4653144203864309760 3 x) : x = 3 := by
  have h3 := List.all_eq_true.1 okAll (x + 325).toNat (List.mem_range.2 (by omega))
  unfold okAt at h3
  rw [show (((x + 325).toNat : Nat) : Int) - 325 = x by omega] at h3
  have h4 := h.ge
  have h5 := h.lt
  rw [show (10 : Nat) ^ 3 = 1000 by decide] at h4
  rw [show (10 : Nat) ^ (3 + 1) = 10000 by decide] at h5
  have e : ((3 : Nat) : Int) = 3 := rfl
  rw [e] at h4 h5
  rw [decide_eq_true h4, decide_eq_true h5] at h3
  have h6 : (x + 325).toNat = 328 := by simpa using h3
  omega

theorem toBytes {s : ByteArray} {l : List UInt8} (h : s.data.toList = l) : s = ⟨l.toArray⟩ := by
  cases s; simp at h; subst h; rfl

theorem Read_fixed (w : World) : Calls Tryd.prog 14 #[.string ⟨#[51, 49, 52, 49, 54]⟩, .int .i64 (-4)] w fun e w' => e = .returned (.tuple #[.float .f64 4614256673094690983, .int .i64 0]) ∧ Below w.heap.size w w' := by
  have h := Read_ok ⟨#[51, 49, 52, 49, 54]⟩ (-4) w (by simp) (digits_mk (by decide)) (by decide) (by decide) (by decide)
  rw [show readB (⟨#[51, 49, 52, 49, 54]⟩ : ByteArray).data.toList (-4) = 4614256673094690983 by kernel_rfl] at h
  exact h
theorem Fixed_fixed (w : World) : Calls Tryd.prog 18 #[.float .f64 4612811918334230528, .int .i64 0] w fun e w' => e = .returned (.tuple #[.string ⟨#[50]⟩, .int .i64 0]) ∧ Below w.heap.size w w' := by
  refine (Fixed_ok 4612811918334230528 0 w (by decide) (by decide) (by decide)).mono ?_
  rintro e w' ⟨s, l, rfl, hc, hs, hb⟩
  rw [show scaledN 4612811918334230528 (0 : Nat) = 2 by kernel_rfl] at hc
  have hl := canon_unique hc (canon_mk (l := [50]) (by decide) (by simp) (by decide) (.inl rfl))
  rw [hl] at hs
  rw [toBytes hs]
  exact ⟨rfl, hb⟩
theorem Sci_fixed (w : World) : Calls Tryd.prog 20 #[.float .f64 4653144203864309760, .int .i64 3] w fun e w' => e = .returned (.tuple #[.string ⟨#[49, 50, 51, 52]⟩, .int .i64 3, .int .i64 0]) ∧ Below w.heap.size w w' := by
  refine (Sci_loop 4653144203864309760 3 w (by decide) (by decide) (by decide) (by decide)).mono ?_
  rintro e w' ⟨s, x, rfl, hc, hl, hsa, hx1, hx2, hb⟩
  obtain rfl := sci_fixed hx1 hx2 hsa
  rw [show scaledN 4653144203864309760 ((3 : Nat) - 3) = 1234 by kernel_rfl] at hc
  have hl := canon_unique hc (canon_mk (l := [49, 50, 51, 52]) (by decide) (by simp) (by decide) (.inr (by decide)))
  rw [toBytes hl]
  exact ⟨rfl, hb⟩

set_option maxRecDepth 100000 in
set_option maxHeartbeats 2000000 in
theorem fixed_any (w : World) : Calls Tryd.prog 13 #[] w fun e w' => e = .returned (.bool true) ∧ Below w.heap.size w w' := by
  go_enter Tryd.func13, Tryd.ntmps13
  go_wp2_with fail
  refine (Read_fixed w).mono ?_
  rintro e w1 ⟨rfl, hb1⟩
  have HB1 := Lib.hid hb1
  have hs1 := hb1.size
  clear hb1
  go_wp2_with fail
  refine (Fixed_fixed w1).mono ?_
  rintro e w2 ⟨rfl, hb2⟩
  have HB2 := Lib.hid (HB1.out.trans (hb2.mono hs1))
  have hs2 := hb2.size
  clear hb2 HB1
  go_wp2_with fail
  refine (Sci_fixed w2).mono ?_
  rintro e w3 ⟨rfl, hb3⟩
  have HB3 := Lib.hid (HB2.out.trans (hb3.mono (by omega)))
  clear hb3 HB2
  go_wp2_with fail
  go_ret
  exact ⟨rfl, HB3.out⟩
end Go.Proofs.YtkpikkeblogdcaaDoor
