/- Package format: the reader: number. -/
import Derived.Test.YtcmpdamfeoaapaaGreatDoorP2
import Derived.Test.YtcmpdamfeoaapaaGreatDoorM2
import Derived.Test.YtcmpdamfeoaapaaGreatDoorShelf
import Derived.Shelf.Strconv.AtoiErr
namespace Go.Proofs.YtcmpdamfeoaapaaGreatDoor
open Go.RowKit
set_option linter.unusedVariables false

def isDig (c : UInt8) : Bool := decide (48 ≤ c.toNat) && decide (c.toNat ≤ 57)
/-- how many digits stand there -/
def digN (s : ByteArray) (i : Nat) : Nat := ((s.data.toList.drop i).takeWhile isDig).length
/-- a star, or up to five digits: the number, whether it is a star, whether it may be, how many bytes -/
def figV (s : ByteArray) (i : Nat) : Int × Bool × Bool × Nat :=
  if ch s i = 42 then (0, true, true, 1)
  else if 5 < digN s i then (0, false, false, digN s i)
  else ((digVal ((s.data.toList.drop i).take (digN s i)) : Nat), false, true, digN s i)

theorem digN_le (s : ByteArray) (i : Nat) : digN s i ≤ s.size - i := by
  unfold digN
  refine Nat.le_trans (List.takeWhile_sublist _).length_le ?_
  rw [List.length_drop, sz_list]
  exact Nat.le_refl _
theorem dig_at {s : ByteArray} {i k : Nat} (h : k < digN s i) : 48 ≤ ch s (i + k) ∧ ch s (i + k) ≤ 57 := by
  obtain ⟨x, h1, h2⟩ := takeWhile_at isDig _ k h
  rw [ch_get h1]
  unfold isDig at h2
  simpa using h2
theorem dig_stop (s : ByteArray) (i : Nat) : ch s (i + digN s i) < 48 ∨ 57 < ch s (i + digN s i) := by
  cases h : (s.data.toList.drop i)[digN s i]? with
  | none => rw [ch_none h]; exact .inl (by decide)
  | some x =>
    have := takeWhile_stop isDig _ x h
    rw [ch_get h]
    unfold isDig at this
    simp only [Bool.and_eq_false_iff, decide_eq_false_iff_not] at this
    omega
theorem take_digits (s : ByteArray) (i : Nat) : Digits ((s.data.toList.drop i).take (digN s i)) := by
  intro c hc
  obtain ⟨k, hk, rfl⟩ := List.mem_iff_getElem.1 hc
  rw [List.length_take] at hk
  obtain ⟨x, h1, h2⟩ := takeWhile_at isDig (s.data.toList.drop i) k (by unfold digN at hk; omega)
  rw [List.getElem_take]
  rw [List.getElem?_eq_some_iff] at h1
  obtain ⟨h3, rfl⟩ := h1
  unfold isDig at h2
  simpa using h2
theorem decFrom_digits : ∀ (l : List UInt8) (a : Nat), Digits l → Lib.decFrom a l = some (l.foldl (fun n c => 10 * n + (c.toNat - 48)) a)
  | [], a, _ => rfl
  | c :: l, a, h => by
    have hc := h c (List.mem_cons_self ..)
    have hd : Lib.digitVal c = some (c.toNat - 48) := by unfold Lib.digitVal; rw [if_pos hc]
    unfold Lib.decFrom
    rw [hd]
    show Lib.decFrom (a * 10 + (c.toNat - 48)) l = _
    rw [decFrom_digits l _ (fun x hx => h x (List.mem_cons_of_mem _ hx)), List.foldl_cons, Nat.mul_comm]
theorem atoi_digits {l : List UInt8} (h : Digits l) (h0 : l ≠ []) : Lib.atoi l = some ((digVal l : Nat) : Int) := by
  cases l with
  | nil => exact absurd rfl h0
  | cons c r =>
    have hc := h c (List.mem_cons_self ..)
    have h45 : (c == 45) = false := by
      rw [beq_eq_false_iff_ne]; rintro rfl; have := hc.1; revert this; decide
    have h43 : (c == 43) = false := by
      rw [beq_eq_false_iff_ne]; rintro rfl; have := hc.1; revert this; decide
    show (if (c == 45) = true then (Lib.decNat r).map (fun (m : Nat) => -(m : Int)) else if (c == 43) = true then (Lib.decNat r).map (fun (m : Nat) => (m : Int)) else (Lib.decNat (c :: r)).map fun (m : Nat) => (m : Int)) = _
    rw [h45, h43]
    simp only [Bool.false_eq_true, if_false]
    unfold Lib.decNat
    simp only [List.isEmpty_cons, Bool.false_eq_true, if_false]
    rw [decFrom_digits _ _ h]
    rfl
/-- the variable of the syntax error holds an error -/
def ErrOk (w : World) : Prop := ∃ ev, w.cell? ⟨6, 0, none⟩ = some ev ∧ (ev = .nilIface ∨ ∃ te pe, ev = .iface te pe)
theorem ErrOk.lt {w : World} (h : ErrOk w) : 6 < w.heap.size := by
  obtain ⟨ev, h1, _⟩ := h
  rcases Nat.lt_or_ge 6 w.heap.size with h' | h'
  · exact h'
  · exfalso
    unfold World.cell? at h1
    rw [Array.getElem?_eq_none h'] at h1
    cases h1
theorem ErrOk.below {w w' : World} (h : ErrOk w) (hb : Below w.heap.size w w') : ErrOk w' := by
  have hl := h.lt
  obtain ⟨ev, h1, h2⟩ := h
  exact ⟨ev, (hb.cell (p := ⟨6, 0, none⟩) hl).trans h1, h2⟩
theorem ErrOk.apart {w w' : World} {S : List Nat} (h : ErrOk w) (ha : Apart S w w') (hS : 6 ∉ S) : ErrOk w' := by
  have hl := h.lt
  obtain ⟨ev, h1, h2⟩ := h
  refine ⟨ev, ?_, h2⟩
  rw [← h1]
  unfold World.cell?
  rw [ha.block _ hl hS]
theorem Atoi_figs (s : ByteArray) (w : World) (hd : Digits s.data.toList) (hs : s.size ≤ 5) (hE : ErrOk w) :
    Calls Tryz.prog 182 #[.string s] w fun e w' => (∃ v, e = .returned (.tuple #[.int .i64 (digVal s.data.toList : Nat), v])) ∧ Below w.heap.size w w' := by
  by_cases h0 : s.data.toList = []
  · obtain ⟨ev, h1, h2⟩ := hE
    refine (Tryz.strconv_Atoi_err s (by omega) (by rw [h0]; rfl) ev w h1 h2).mono ?_
    rintro e w' ⟨N, rfl, _, _, hb⟩
    rw [h0]
    exact ⟨⟨_, rfl⟩, hb⟩
  · refine (Tryz.strconv_Atoi s _ (by omega) (atoi_digits hd h0) w).mono ?_
    rintro e w' ⟨rfl, t, rfl⟩
    exact ⟨⟨_, rfl⟩, Lib.bytesWorld_below _ _ _⟩

set_option maxHeartbeats 4000000 in
set_option maxRecDepth 100000 in
/-- a star, or up to five digits, from a place on -/
theorem number_any (s : ByteArray) (i r : Nat) (w : World) (hr : RdAt w r s i) (hi : i ≤ s.size) (hs : s.size ≤ 200000000000000) (hE : ErrOk w) (hre : 6 ≠ r) :
    Calls Tryz.prog 130 #[.pointer (some ⟨r, 0, none⟩)] w fun e w' => e = .returned (.tuple #[.int .i64 (figV s i).1, .bool (figV s i).2.1, .bool (figV s i).2.2.1]) ∧
      RdAt w' r s ((i + (figV s i).2.2.2 : Nat) : Int) ∧ Apart [r] w w' := by
  have HR := Lib.hid hr
  have HE := Lib.hid hE
  have HX := Lib.hid (next_any s i r w hr)
  rw [chr_nat] at HX
  have hdn := digN_le s i
  obtain ⟨n, hn⟩ : ∃ n, n = digN s i := ⟨_, rfl⟩
  obtain ⟨F, hF⟩ : ∃ F, F = figV s i := ⟨_, rfl⟩
  rw [← hF]
  have HF := Lib.hid hF
  have HN := Lib.hid hn
  unfold figV at HF
  rw [← hn] at hdn HF
  have hrl := hr.lt
  clear hr hE hF hn
  by_cases h42 : ch s i = 42
  · rw [h42] at HX HF
    rw [if_pos rfl] at HF
    go_enter Tryz.func130, Tryz.ntmps130
    go_wp2_with fail
    refine HX.out.mono ?_
    rintro e w1 ⟨rfl, hb⟩
    have HR2 := Lib.hid (HR.out.below hb)
    have HA2 := Lib.hid (Apart.of_below hb [r])
    have c1 := HR2.out.c1
    have f1 := HR2.out.f1
    clear hb
    go_wp2_with fail
    go_ret3
    rw [HF.out]
    refine ⟨rfl, ?_, HA2.out.setCell _ (by simp) _⟩
    exact HR2.out.step _
  · have h42' : ((ch s i : Int) == 42) = false := by simp; omega
    rw [if_neg h42] at HF
    have HX2 := HX
    generalize hc : ch s i = c at *
    have HC := Lib.hid hc
    clear hc h42
    go_enter Tryz.func130, Tryz.ntmps130
    go_wp2_with fail
    refine HX.out.mono ?_
    rintro e w1 ⟨rfl, hb⟩
    have HR2 := Lib.hid (HR.out.below hb)
    have HA2 := Lib.hid (Apart.of_below hb [r])
    have c1 := HR2.out.c1
    have HX3 := Lib.hid (next_any s i r w1 HR2.out)
    rw [chr_nat, HC.out] at HX3
    clear hb
    go_wp2_with fail
    refine HX3.out.mono ?_
    rintro e w2 ⟨rfl, hb⟩
    have HR3 := Lib.hid (HR2.out.below hb)
    have HA3 := Lib.hid (HA2.out.trans (Apart.of_below hb []) (by simp))
    clear hb
    go_wp2_with fail
    go_loopw [6] (fun cv wr => ∃ k : Nat, k ≤ n ∧ cv = .int .u8 (ch s (i + k) : Nat) ∧ Hid (RdAt wr r s ((i + k : Nat) : Int)) ∧ Hid (Apart [r] w wr))
      (fun _ wr => i + n - (match wr.cell? ⟨r, 1, none⟩ with | some v => (intOf v).toNat | none => 0))
    case atStart =>
      refine ⟨0, Nat.zero_le _, ?_, HR3, HA3⟩
      rw [Nat.add_zero, HC.out]
    case round =>
      obtain ⟨k, hk, rfl, HR4, HA4⟩ := hrel
      have c4 := HR4.out.c1
      have f4 := HR4.out.f1
      rcases Nat.lt_or_ge k n with hlt | hge
      · obtain ⟨d1, d2⟩ : 48 ≤ ch s (i + k) ∧ ch s (i + k) ≤ 57 := dig_at (by rw [← HN.out]; exact hlt)
        generalize hx : ch s (i + k) = x at *
        have D1 : (48 : Int) ≤ (x : Int) := by omega
        have D2 : (x : Int) ≤ 57 := by omega
        have H5 := HR4.out.step (((i : Int) + (k : Int)) + 1)
        have A5 : Apart [r] w (wr.setCell ⟨r, 1, none⟩ (.int .i64 (((i : Int) + (k : Int)) + 1))) := HA4.out.setCell _ (by simp) _
        rw [show ((i : Int) + (k : Int)) + 1 = ((i + (k + 1) : Nat) : Int) by omega] at H5 A5
        have HX5 := Lib.hid (next_any s ((i + (k + 1) : Nat) : Int) r _ H5)
        rw [chr_nat] at HX5
        have HR5 := Lib.hid H5
        have HA5 := Lib.hid A5
        clear hx H5 A5 d1 d2
        rw [show ((i + (k + 1) : Nat) : Int) = (i : Int) + (k : Int) + 1 by omega] at HX5
        go_wp2_with fail
        refine HX5.out.mono ?_
        rintro e w5 ⟨rfl, hb⟩
        have HR6 := Lib.hid (HR5.out.below (by rw [show ((i + (k + 1) : Nat) : Int) = (i : Int) + (k : Int) + 1 by omega]; exact hb))
        have HA6 := Lib.hid (HA5.out.trans (Apart.of_below (by rw [show ((i + (k + 1) : Nat) : Int) = (i : Int) + (k : Int) + 1 by omega]; exact hb) []) (by simp))
        clear hb
        go_wp2_with fail
        refine ⟨⟨k + 1, hlt, rfl, HR6, HA6⟩, ?_⟩
        rw [HR6.out.c1, HR4.out.c1]
        simp only [intOf]
        omega
      · obtain rfl : k = n := by omega
        have hst := dig_stop s i
        rw [← HN.out] at hst
        generalize hx : ch s (i + k) = x at *
        clear hx
        have HD := Lib.hid (take_digits s i)
        rw [← HN.out] at HD
        rcases hst with hst | hst
        · have D1 : (x : Int) < 48 := by omega
          clear hst
          rcases Nat.lt_or_ge 5 k with h5 | h5
          · have H5 : (5 : Int) < (k : Int) := by omega
            rw [if_pos h5] at HF
            go_wp2_with fail
            go_ret3
            rw [HF.out]
            exact ⟨rfl, HR4.out, HA4.out⟩
          · have H5 : (k : Int) ≤ 5 := by omega
            rw [if_neg (by omega)] at HF
            have c40 := HR4.out.c0
            have hb1 : (i : Int) ≤ (i : Int) + (k : Int) := by omega
            have hb2 : (i : Int) + (k : Int) ≤ (s.size : Int) := by omega
            have hext : (s.extract i (i + k)).data.toList = (s.data.toList.drop i).take k := by
              simp [ByteArray.data_extract, List.extract_eq_take_drop]
            have HAT := Lib.hid (Atoi_figs (s.extract i (i + k)) wr.drew (by rw [hext]; exact HD.out) (by rw [sz_list, hext, List.length_take]; omega) ((HE.out.apart HA4.out (by simp; exact hre)).below (Below.refl _ _).drew))
            rw [hext] at HAT
            have HNat : Hid (((i : Int) + (k : Int)).toNat = i + k) := by show _ = _; omega
            clear hext
            go_wp2_with fail
            go_region_held3 (fun w' => w'.cell? ⟨r, 0, none⟩ = some (.string s) ∧ w'.cell? ⟨r, 1, none⟩ = some (.int .i64 ((i + k : Nat) : Int))) (first | exact ⟨c40, c4⟩ | exact ⟨HR6.out.c0, HR6.out.c1⟩)
              (first | (go_at_call 182; rw [HNat.out]; refine HAT.out.mono ?_; rintro e w6 ⟨⟨v, rfl⟩, hb6⟩; have HR6 := Lib.hid (HR4.out.below ((Below.refl _ _).drew.trans hb6)); have HA6 := Lib.hid (HA4.out.trans (Apart.of_below ((Below.refl _ _).drew.trans hb6) []) (by simp))))
            go_wp2_with fail
            go_ret3
            rw [HF.out]
            exact ⟨rfl, HR6.out, HA6.out⟩
        · have D1 : (57 : Int) < (x : Int) := by omega
          have D2 : (48 : Int) ≤ (x : Int) := by omega
          clear hst
          rcases Nat.lt_or_ge 5 k with h5 | h5
          · have H5 : (5 : Int) < (k : Int) := by omega
            rw [if_pos h5] at HF
            go_wp2_with fail
            go_ret3
            rw [HF.out]
            exact ⟨rfl, HR4.out, HA4.out⟩
          · have H5 : (k : Int) ≤ 5 := by omega
            rw [if_neg (by omega)] at HF
            have c40 := HR4.out.c0
            have hb1 : (i : Int) ≤ (i : Int) + (k : Int) := by omega
            have hb2 : (i : Int) + (k : Int) ≤ (s.size : Int) := by omega
            have hext : (s.extract i (i + k)).data.toList = (s.data.toList.drop i).take k := by
              simp [ByteArray.data_extract, List.extract_eq_take_drop]
            have HAT := Lib.hid (Atoi_figs (s.extract i (i + k)) wr.drew (by rw [hext]; exact HD.out) (by rw [sz_list, hext, List.length_take]; omega) ((HE.out.apart HA4.out (by simp; exact hre)).below (Below.refl _ _).drew))
            rw [hext] at HAT
            have HNat : Hid (((i : Int) + (k : Int)).toNat = i + k) := by show _ = _; omega
            clear hext
            go_wp2_with fail
            go_region_held3 (fun w' => w'.cell? ⟨r, 0, none⟩ = some (.string s) ∧ w'.cell? ⟨r, 1, none⟩ = some (.int .i64 ((i + k : Nat) : Int))) (first | exact ⟨c40, c4⟩ | exact ⟨HR6.out.c0, HR6.out.c1⟩)
              (first | (go_at_call 182; rw [HNat.out]; refine HAT.out.mono ?_; rintro e w6 ⟨⟨v, rfl⟩, hb6⟩; have HR6 := Lib.hid (HR4.out.below ((Below.refl _ _).drew.trans hb6)); have HA6 := Lib.hid (HA4.out.trans (Apart.of_below ((Below.refl _ _).drew.trans hb6) []) (by simp))))
            go_wp2_with fail
            go_ret3
            rw [HF.out]
            exact ⟨rfl, HR6.out, HA6.out⟩
end Go.Proofs.YtcmpdamfeoaapaaGreatDoor
