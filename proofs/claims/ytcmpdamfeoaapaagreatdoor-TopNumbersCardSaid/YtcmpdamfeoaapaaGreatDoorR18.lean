/- Plain: of very many digits the first ones count, in the program's way and in the document's. -/
import Derived.Test.YtcmpdamfeoaapaaGreatDoorR17
import Derived.Test.YtcmpdamfeoaapaaGreatDoorM6
import Derived.Test.YtcmpdamfeoaapaaGreatDoorR16
namespace Go.Proofs.YtcmpdamfeoaapaaGreatDoor
open Go.RowKit
set_option linter.unusedVariables false

/-- the float that digits and a power are -/
def numV (l : List UInt8) (e : Int) : Nat := if digVal l = 0 then 0 else nearD (digVal l) e
theorem bare_head {l : List UInt8} (h : bare l ≠ []) : ∃ c r, bare l = c :: r ∧ c ≠ 48 := by
  cases hb : bare l with
  | nil => exact absurd hb h
  | cons c r =>
    refine ⟨c, r, rfl, fun hc => ?_⟩
    have := dw_head (· == 48) l c r hb
    rw [hc] at this; simp at this
theorem head_bare {l : List UInt8} (h : ∃ c r, l = c :: r ∧ c ≠ 48) : bare l = l := by
  obtain ⟨c, r, rfl, hc⟩ := h
  exact bare_self hc
theorem head_pos {l : List UInt8} (hd : Digits l) (h : ∃ c r, l = c :: r ∧ c ≠ 48) : 0 < digVal l := by
  have h1 := digVal_low hd h
  have h2 : 0 < 10 ^ (l.length - 1) := Nat.pow_pos (by decide)
  omega
theorem head_take {l : List UInt8} (h : ∃ c r, l = c :: r ∧ c ≠ 48) (k : Nat) (hk : 0 < k) (t : List UInt8) : ∃ c r, l.take k ++ t = c :: r ∧ c ≠ 48 := by
  obtain ⟨c, r, rfl, hc⟩ := h
  obtain ⟨j, rfl⟩ : ∃ j, k = j + 1 := ⟨k - 1, by omega⟩
  exact ⟨c, r.take j ++ t, by simp, hc⟩
theorem readB_head {l : List UInt8} {e : Int} (hd : Digits l) (h : ∃ c r, l = c :: r ∧ c ≠ 48) (hl : l.length ≤ 3600) : readB l e = nearD (digVal l) e :=
  readB_nearD hd (by rw [head_bare h]; obtain ⟨c, r, e, _⟩ := h; rw [e]; simp) hl
theorem nearD_low {l : List UInt8} {e : Int} (hd : Digits l) (h : ∃ c r, l = c :: r ∧ c ≠ 48) (hl : l.length ≤ 3600) (he : (l.length : Int) + e < -330) : nearD (digVal l) e = 0 := by
  rw [← readB_head hd h hl]
  exact readB_low (by omega) (by rw [head_bare h]; exact he)
theorem nearD_high {l : List UInt8} {e : Int} (hd : Digits l) (h : ∃ c r, l = c :: r ∧ c ≠ 48) (hl : l.length ≤ 3600) (he : 310 < (l.length : Int) + e) : nearD (digVal l) e = 9218868437227405312 := by
  rw [← readB_head hd h hl]
  have h0 : (bare l).length ≠ 0 := by rw [head_bare h]; obtain ⟨c, r, e, _⟩ := h; rw [e]; simp
  exact readB_inf h0 (by omega) (by rw [head_bare h]; exact he)
/-- the first m digits and one for what follows -/
def stickL (l : List UInt8) (m : Nat) (c : UInt8) : List UInt8 := l.take m ++ [c]
theorem stick_val {l : List UInt8} {m : Nat} {e : Int} (hd : Digits l) (h : ∃ c r, l = c :: r ∧ c ≠ 48) (hm : 900 ≤ m) (hml : m ≤ l.length) :
    ((∀ c ∈ l.drop m, c = 48) → nearD (digVal l) e = nearD (digVal (l.take m)) (e + l.length - m)) ∧ (¬ (∀ c ∈ l.drop m, c = 48) → nearD (digVal l) e = nearD (digVal (l.take m ++ [49])) (e + l.length - m - 1)) := by
  have hs := digVal_app (l.take m) (l.drop m)
  rw [List.take_append_drop] at hs
  have hdl : (l.drop m).length = l.length - m := by simp
  rw [hdl] at hs
  have hT : 10 ^ q899 ≤ digVal (l.take m) := by
    have h1 := head_take h m (by omega) []
    rw [List.append_nil] at h1
    have h2 := digVal_low (digits_take hd m) h1
    refine Nat.le_trans (Nat.pow_le_pow_right (by decide) ?_) h2
    rw [List.length_take]
    have : q899 = 899 := rfl
    omega
  refine ⟨fun hz => ?_, fun hz => ?_⟩
  · have h0 : digVal (l.drop m) = 0 := by
      rw [List.eq_replicate_iff.2 ⟨rfl, hz⟩, digVal_noughts]
    rw [hs, h0, Nat.add_zero, nearD_shift]
    congr 1; omega
  · have hr : 0 < digVal (l.drop m) := by
      refine Nat.pos_of_ne_zero fun h0 => hz fun c hc => ?_
      obtain ⟨i, hi, rfl⟩ := List.mem_iff_getElem.1 hc
      refine Classical.byContradiction fun hne => ?_
      have := (digVal_pos_of (digits_drop hd m)).2 ⟨i, hi, fun h => hne (UInt8.toNat_inj.1 h)⟩
      omega
    have hlt := digVal_lt (digits_drop hd m)
    rw [hdl] at hlt
    rw [hs, nearD_stick hT hr hlt, digVal_snoc]
    congr 1
    omega
theorem trimB_nil (l : List UInt8) : Lib.trimB l 48 = [] ↔ ∀ c ∈ l, c = 48 := by
  unfold Lib.trimB Lib.trimLeftB Lib.trimRightB
  constructor
  · intro h c hc
    have h1 := dw_nil _ _ h
    have h2 : ∀ x ∈ l.reverse.dropWhile (· == 48), (x == 48) = true := fun x hx => h1 x (by simpa using hx)
    have h3 : l.reverse.dropWhile (· == 48) = [] := by
      cases hw : l.reverse.dropWhile (· == 48) with
      | nil => rfl
      | cons x r =>
        have := dw_head _ _ _ _ hw
        have h4 := h2 x (by rw [hw]; simp)
        rw [h4] at this; cases this
    have h5 := dw_nil _ _ h3 c (by simpa using hc)
    simpa using h5
  · intro h
    have h3 : l.reverse.dropWhile (· == 48) = [] := dw_all _ _ fun x hx => by simp [h x (by simpa using hx)]
    rw [h3]; rfl
theorem readN_val {l : List UInt8} {e : Int} (hd : Digits l) (hl : l.length ≤ 3600) : readN l e = numV l e := by
  have hv := digVal_bare l
  have hbl := bare_length l
  unfold readN numV
  by_cases hb : bare l = []
  · rw [if_pos hb, if_pos (by rw [← hv, hb]; rfl)]
  rw [if_neg hb]
  have hh := bare_head hb
  have hbd := bare_digits hd
  have hp := head_pos hbd hh
  rw [hv] at hp
  rw [if_neg (show ¬ digVal l = 0 by omega)]
  rw [← hv]
  generalize bare l = b at *
  by_cases h9 : b.length ≤ 900
  · rw [if_pos h9, readB_head hbd hh (by omega)]
  rw [if_neg h9]
  obtain ⟨s1, s2⟩ := stick_val (e := e) (m := 900) hbd hh (Nat.le_refl _) (by omega)
  by_cases hz : ∀ c ∈ b.drop 900, c = 48
  · rw [if_pos ((trimB_nil _).2 hz), s1 hz]
    have h1 := head_take hh 900 (by decide) []
    rw [List.append_nil] at h1
    exact readB_head (digits_take hbd _) h1 (by rw [List.length_take]; omega)
  · rw [if_neg (fun h => hz ((trimB_nil _).1 h)), s2 hz]
    exact readB_head (digits_append (digits_take hbd _) (fun c hc => by rcases List.mem_singleton.1 hc with rfl; exact ⟨by decide, by decide⟩)) (head_take hh 900 (by decide) [49]) (by rw [List.length_append, List.length_take]; simp; omega)
/-- the document's way -/
def valR (l : List UInt8) (e : Int) : Nat :=
  if bare l = [] then 0 else
  let c : UInt8 := if (∀ c ∈ (bare l).drop 1000, c = 48) then 48 else 49
  let b := if (bare l).length ≤ 1000 then bare l else (bare l).take 1000 ++ [c]
  let x := if (bare l).length ≤ 1000 then e else e + (bare l).length - 1001
  if x + b.length < -400 then 0 else if 400 < x + b.length then 9218868437227405312 else readB b x
theorem valR_val {l : List UInt8} {e : Int} (hd : Digits l) (hl : l.length ≤ 3600) : valR l e = numV l e := by
  have hv := digVal_bare l
  have hbl := bare_length l
  unfold valR numV
  by_cases hb : bare l = []
  · rw [if_pos hb, if_pos (by rw [← hv, hb]; rfl)]
  rw [if_neg hb]
  have hh := bare_head hb
  have hbd := bare_digits hd
  have hp := head_pos hbd hh
  rw [hv] at hp
  rw [if_neg (show ¬ digVal l = 0 by omega)]
  rw [← hv]
  dsimp only
  generalize bare l = b at *
  have fin : ∀ (q : List UInt8) (x : Int), Digits q → (∃ c r, q = c :: r ∧ c ≠ 48) → q.length ≤ 3600 → (if x + q.length < -400 then 0 else if 400 < x + q.length then 9218868437227405312 else readB q x) = nearD (digVal q) x := by
    intro q x h1 h2 h3
    split
    · rw [nearD_low h1 h2 h3 (by omega)]
    · split
      · rw [nearD_high h1 h2 h3 (by omega)]
      · exact readB_head h1 h2 h3
  by_cases h9 : b.length ≤ 1000
  · rw [if_pos h9, if_pos h9]
    exact fin b e hbd hh (by omega)
  · rw [if_neg h9, if_neg h9]
    obtain ⟨s1, s2⟩ := stick_val (e := e) (m := 1000) hbd hh (by decide) (by omega)
    by_cases hz : ∀ c ∈ b.drop 1000, c = 48
    · rw [if_pos hz, s1 hz, fin _ _ (digits_append (digits_take hbd _) (fun c hc => by rcases List.mem_singleton.1 hc with rfl; exact ⟨by decide, by decide⟩)) (head_take hh 1000 (by decide) [48]) (by rw [List.length_append, List.length_take]; simp; omega)]
      rw [digVal_snoc, show (UInt8.toNat 48 - 48 : Nat) = 0 by decide, Nat.add_zero, Nat.mul_comm, show (10 : Nat) = 10 ^ 1 by decide, nearD_shift]
      congr 1; omega
    · rw [if_neg hz, s2 hz, fin _ _ (digits_append (digits_take hbd _) (fun c hc => by rcases List.mem_singleton.1 hc with rfl; exact ⟨by decide, by decide⟩)) (head_take hh 1000 (by decide) [49]) (by rw [List.length_append, List.length_take]; simp; omega)]
      congr 1; omega
end Go.Proofs.YtcmpdamfeoaapaaGreatDoor
