/- Several texts in one (P2, P3, P4, R11, L5, R12, L10). -/
import Derived.Test.YtfdnhkjeoeffoaaGreatDoorM3
import Derived.Test.YtfdnhkjeoeffoaaGreatDoorM2
import Derived.Test.YtfdnhkjeoeffoaaGreatDoorShelf
import Derived.Shelf.Strconv.AtoiErr
section
/- Package format: the reader: flags. -/
namespace Go.Proofs.YtfdnhkjeoeffoaaGreatDoor
open Go.RowKit
set_option linter.unusedVariables false

theorem ne45_43 : ((45 : UInt8) == 43) = false := by decide
theorem ne45_32 : ((45 : UInt8) == 32) = false := by decide
theorem ne45_35 : ((45 : UInt8) == 35) = false := by decide
theorem ne45_48 : ((45 : UInt8) == 48) = false := by decide
theorem ne43_45 : ((43 : UInt8) == 45) = false := by decide
theorem ne43_32 : ((43 : UInt8) == 32) = false := by decide
theorem ne43_35 : ((43 : UInt8) == 35) = false := by decide
theorem ne43_48 : ((43 : UInt8) == 48) = false := by decide
theorem ne32_45 : ((32 : UInt8) == 45) = false := by decide
theorem ne32_43 : ((32 : UInt8) == 43) = false := by decide
theorem ne32_35 : ((32 : UInt8) == 35) = false := by decide
theorem ne32_48 : ((32 : UInt8) == 48) = false := by decide
theorem ne35_45 : ((35 : UInt8) == 45) = false := by decide
theorem ne35_43 : ((35 : UInt8) == 43) = false := by decide
theorem ne35_32 : ((35 : UInt8) == 32) = false := by decide
theorem ne35_48 : ((35 : UInt8) == 48) = false := by decide
theorem ne48_45 : ((48 : UInt8) == 45) = false := by decide
theorem ne48_43 : ((48 : UInt8) == 43) = false := by decide
theorem ne48_32 : ((48 : UInt8) == 32) = false := by decide
theorem ne48_35 : ((48 : UInt8) == 35) = false := by decide

set_option maxHeartbeats 4000000 in
set_option maxRecDepth 100000 in
/-- flags: from a place on, into a piece without flags -/
theorem flags_any (s : ByteArray) (i r p : Nat) (wd pr : Int) (vb : Int) (sw sp : Bool) (nx : Int) (w : World) (hr : RdAt w r s i) (hp : PcAt w p (pieceA false false false false false wd pr vb sw sp nx)) (hrp : r ≠ p) (hi : i + s.size ≤ 1000000000000000) :
    Calls Tryz.prog 122 #[.pointer (some ⟨r, 0, none⟩), .pointer (some ⟨p, 0, none⟩)] w fun e w' => e = .returned (.tuple #[]) ∧
      RdAt w' r s ((i + flagN s i : Nat) : Int) ∧ PcAt w' p (pieceA (hasF 45 s i (flagN s i)) (hasF 43 s i (flagN s i)) (hasF 32 s i (flagN s i)) (hasF 35 s i (flagN s i)) (hasF 48 s i (flagN s i)) wd pr vb sw sp nx) ∧ Apart [r, p] w w' := by
  have hpr : p ≠ r := fun e => hrp e.symm
  have HR := Lib.hid hr
  have HP := Lib.hid hp
  have hfl : flagN s i ≤ s.size := by
    unfold flagN
    refine Nat.le_trans (List.takeWhile_sublist _).length_le ?_
    rw [List.length_drop, sz_list]
    omega
  obtain ⟨n, hn⟩ : ∃ n, n = flagN s i := ⟨_, rfl⟩
  rw [← hn] at hfl ⊢
  have HN := Lib.hid hn
  have HS := Lib.hid hi
  have hi2 : i + n ≤ 1000000000000000 := by omega
  clear hr hp hn hi hfl
  go_enter Tryz.func122, Tryz.ntmps122
  go_wp2_with fail
  go_loopw [] (fun wr => ∃ k : Nat, k ≤ n ∧ RdAt wr r s ((i + k : Nat) : Int) ∧ PcAt wr p (pieceA (hasF 45 s i k) (hasF 43 s i k) (hasF 32 s i k) (hasF 35 s i k) (hasF 48 s i k) wd pr vb sw sp nx) ∧ Apart [r, p] w wr)
    (fun wr => i + n - (match wr.cell? ⟨r, 1, none⟩ with | some v => (intOf v).toNat | none => 0))
  case atStart =>
    refine ⟨0, Nat.zero_le _, HR.out, ?_, Apart.refl _ _⟩
    rw [hasF_zero, hasF_zero, hasF_zero, hasF_zero, hasF_zero]
    exact HP.out
  case round =>
    obtain ⟨k, hk, hr, hp, ha⟩ := hrel
    have HR1 := Lib.hid hr
    have HP1 := Lib.hid hp
    have HA1 := Lib.hid ha
    clear hr hp ha
    have HX := Lib.hid (next_any s ((i + k : Nat) : Int) r wr HR1.out)
    rw [chr_nat] at HX
    rcases Nat.lt_or_ge k n with hlt | hge
    · rw [HN.out] at hlt
      obtain ⟨x, hx, hcx, hx5⟩ := flag_at hlt
      rw [← HN.out] at hlt
      rw [hcx] at HX
      have HXX := Lib.hid hx
      clear hx hcx
      rcases hx5 with rfl | rfl | rfl | rfl | rfl
      all_goals
        go_wp2_with fail
        refine HX.out.mono ?_
        rintro e w1 ⟨rfl, hb⟩
        have HR2 := Lib.hid (HR1.out.below hb)
        have HP2 := Lib.hid (HP1.out.below hb)
        have HA2 := Lib.hid (HA1.out.trans (Apart.of_below hb []) (by simp))
        have c0 := HR2.out.c0
        have c1 := HR2.out.c1
        have f1 := HR2.out.f1
        have k0 : w1.cell? ⟨p, 0, none⟩ = some (.bool (hasF 45 s i k)) := HP2.out.cell 0
        have k1 : w1.cell? ⟨p, 1, none⟩ = some (.bool (hasF 43 s i k)) := HP2.out.cell 1
        have k2 : w1.cell? ⟨p, 2, none⟩ = some (.bool (hasF 32 s i k)) := HP2.out.cell 2
        have k3 : w1.cell? ⟨p, 3, none⟩ = some (.bool (hasF 35 s i k)) := HP2.out.cell 3
        have k4 : w1.cell? ⟨p, 4, none⟩ = some (.bool (hasF 48 s i k)) := HP2.out.cell 4
        have g0 := HP2.out.frozen 0
        have g1 := HP2.out.frozen 1
        have g2 := HP2.out.frozen 2
        have g3 := HP2.out.frozen 3
        have g4 := HP2.out.frozen 4
        have q1 : ∀ (j : Nat) (v : Value), (w1.setCell ⟨p, j, none⟩ v).cell? ⟨r, 1, none⟩ = some (.int .i64 ((i + k : Nat) : Int)) := fun j v => (HR2.out.other j v hrp).c1
        have q2 : ∀ (j : Nat) (v : Value), (w1.setCell ⟨p, j, none⟩ v).frozen? ⟨r, 1, none⟩ = false := fun j v => (HR2.out.other j v hrp).f1
        clear hb
        go_wp2_with fail
        refine ⟨⟨k + 1, hlt, ?_, ?_, ?_⟩, ?_⟩
        · rw [show ((i + (k + 1) : Nat) : Int) = (i : Int) + k + 1 from by omega]
          exact (HR2.out.other _ _ hrp).step _
        · simp (decide := true) only [hasF_step _ _ _ _ _ HXX.out, beq_self_eq_true, ne45_43, ne45_32, ne45_35, ne45_48, ne43_45, ne43_32, ne43_35, ne43_48, ne32_45, ne32_43, ne32_35, ne32_48, ne35_45, ne35_43, ne35_32, ne35_48, ne48_45, ne48_43, ne48_32, ne48_35, Bool.or_true, Bool.or_false]
          exact (HP2.out.set _ _).other _ _ hpr
        · exact (HA2.out.setCell _ (by simp) _).setCell _ (by simp) _
        · rw [((HR2.out.other _ _ hrp).step _).c1, HR1.out.c1]
          simp only [intOf]
          omega
    · obtain rfl : k = n := by omega
      rw [HN.out] at HX
      obtain ⟨h1, h2, h3, h4, h5⟩ := flag_stop s i
      rw [← HN.out] at h1 h2 h3 h4 h5 HX
      generalize ch s (i + k) = c at *
      have b1 : ((c : Int) == 45) = false := by simp; omega
      have b2 : ((c : Int) == 43) = false := by simp; omega
      have b3 : ((c : Int) == 32) = false := by simp; omega
      have b4 : ((c : Int) == 35) = false := by simp; omega
      have b5 : ((c : Int) == 48) = false := by simp; omega
      clear h1 h2 h3 h4 h5
      go_wp2_with fail
      refine HX.out.mono ?_
      rintro e w1 ⟨rfl, hb⟩
      have HR2 := Lib.hid (HR1.out.below hb)
      have HP2 := Lib.hid (HP1.out.below hb)
      have HA2 := Lib.hid (HA1.out.trans (Apart.of_below hb []) (by simp))
      clear hb
      go_wp2_with fail
      exact bodyPost_ret (v := .tuple #[]) (by simp [results, Tryz.results122, go_sem]) rfl ⟨rfl, HR2.out, HP2.out, HA2.out⟩
end Go.Proofs.YtfdnhkjeoeffoaaGreatDoor
end

section
/- Package format: the reader: number. -/
namespace Go.Proofs.YtfdnhkjeoeffoaaGreatDoor
open Go.RowKit
set_option linter.unusedVariables false

def isDig (c : UInt8) : Bool := decide (48 ≤ c.toNat) && decide (c.toNat ≤ 57)
/-- how many digits stand there -/
def digN (s : ByteArray) (i : Nat) : Nat := ((s.data.toList.drop i).takeWhile isDig).length
/-- a star, or up to five digits: the number, whether it is a star, whether it may be, how many bytes -/
def figV (s : ByteArray) (i : Nat) : Int × Bool × Bool × Nat :=
  if ch s i = 42 then (0, true, true, 1)
  else if 5 < digN s i then (0, false, false, digN s i)
  else ((digVal ((s.data.toList.drop i).take (digN s i)) : Nat), false, true, digN s i)

theorem digN_le (s : ByteArray) (i : Nat) : digN s i ≤ s.size - i := by
  unfold digN
  refine Nat.le_trans (List.takeWhile_sublist _).length_le ?_
  rw [List.length_drop, sz_list]
  exact Nat.le_refl _
theorem dig_at {s : ByteArray} {i k : Nat} (h : k < digN s i) : 48 ≤ ch s (i + k) ∧ ch s (i + k) ≤ 57 := by
  obtain ⟨x, h1, h2⟩ := takeWhile_at isDig _ k h
  rw [ch_get h1]
  unfold isDig at h2
  simpa using h2
theorem dig_stop (s : ByteArray) (i : Nat) : ch s (i + digN s i) < 48 ∨ 57 < ch s (i + digN s i) := by
  cases h : (s.data.toList.drop i)[digN s i]? with
  | none => rw [ch_none h]; exact .inl (by decide)
  | some x =>
    have := takeWhile_stop isDig _ x h
    rw [ch_get h]
    unfold isDig at this
    simp only [Bool.and_eq_false_iff, decide_eq_false_iff_not] at this
    omega
theorem take_digits (s : ByteArray) (i : Nat) : Digits ((s.data.toList.drop i).take (digN s i)) := by
  intro c hc
  obtain ⟨k, hk, rfl⟩ := List.mem_iff_getElem.1 hc
  rw [List.length_take] at hk
  obtain ⟨x, h1, h2⟩ := takeWhile_at isDig (s.data.toList.drop i) k (by unfold digN at hk; omega)
  rw [List.getElem_take]
  rw [List.getElem?_eq_some_iff] at h1
  obtain ⟨h3, rfl⟩ := h1
  unfold isDig at h2
  simpa using h2
theorem decFrom_digits : ∀ (l : List UInt8) (a : Nat), Digits l → Lib.decFrom a l = some (l.foldl (fun n c => 10 * n + (c.toNat - 48)) a)
  | [], a, _ => rfl
  | c :: l, a, h => by
    have hc := h c (List.mem_cons_self ..)
    have hd : Lib.digitVal c = some (c.toNat - 48) := by unfold Lib.digitVal; rw [if_pos hc]
    unfold Lib.decFrom
    rw [hd]
    show Lib.decFrom (a * 10 + (c.toNat - 48)) l = _
    rw [decFrom_digits l _ (fun x hx => h x (List.mem_cons_of_mem _ hx)), List.foldl_cons, Nat.mul_comm]
theorem atoi_digits {l : List UInt8} (h : Digits l) (h0 : l ≠ []) : Lib.atoi l = some ((digVal l : Nat) : Int) := by
  cases l with
  | nil => exact absurd rfl h0
  | cons c r =>
    have hc := h c (List.mem_cons_self ..)
    have h45 : (c == 45) = false := by
      rw [beq_eq_false_iff_ne]; rintro rfl; have := hc.1; revert this; decide
    have h43 : (c == 43) = false := by
      rw [beq_eq_false_iff_ne]; rintro rfl; have := hc.1; revert this; decide
    show (if (c == 45) = true then (Lib.decNat r).map (fun (m : Nat) => -(m : Int)) else if (c == 43) = true then (Lib.decNat r).map (fun (m : Nat) => (m : Int)) else (Lib.decNat (c :: r)).map fun (m : Nat) => (m : Int)) = _
    rw [h45, h43]
    simp only [Bool.false_eq_true, if_false]
    unfold Lib.decNat
    simp only [List.isEmpty_cons, Bool.false_eq_true, if_false]
    rw [decFrom_digits _ _ h]
    rfl
/-- the variable of the syntax error holds an error -/
def ErrOk (w : World) : Prop := ∃ ev, w.cell? ⟨6, 0, none⟩ = some ev ∧ (ev = .nilIface ∨ ∃ te pe, ev = .iface te pe)
theorem ErrOk.lt {w : World} (h : ErrOk w) : 6 < w.heap.size := by
  obtain ⟨ev, h1, _⟩ := h
  rcases Nat.lt_or_ge 6 w.heap.size with h' | h'
  · exact h'
  · exfalso
    unfold World.cell? at h1
    rw [Array.getElem?_eq_none h'] at h1
    cases h1
theorem ErrOk.below {w w' : World} (h : ErrOk w) (hb : Below w.heap.size w w') : ErrOk w' := by
  have hl := h.lt
  obtain ⟨ev, h1, h2⟩ := h
  exact ⟨ev, (hb.cell (p := ⟨6, 0, none⟩) hl).trans h1, h2⟩
theorem ErrOk.apart {w w' : World} {S : List Nat} (h : ErrOk w) (ha : Apart S w w') (hS : 6 ∉ S) : ErrOk w' := by
  have hl := h.lt
  obtain ⟨ev, h1, h2⟩ := h
  refine ⟨ev, ?_, h2⟩
  rw [← h1]
  unfold World.cell?
  rw [ha.block _ hl hS]
theorem Atoi_figs (s : ByteArray) (w : World) (hd : Digits s.data.toList) (hs : s.size ≤ 5) (hE : ErrOk w) :
    Calls Tryz.prog 188 #[.string s] w fun e w' => (∃ v, e = .returned (.tuple #[.int .i64 (digVal s.data.toList : Nat), v])) ∧ Below w.heap.size w w' := by
  by_cases h0 : s.data.toList = []
  · obtain ⟨ev, h1, h2⟩ := hE
    refine (Tryz.strconv_Atoi_err s (by omega) (by rw [h0]; rfl) ev w h1 h2).mono ?_
    rintro e w' ⟨N, rfl, _, _, hb⟩
    rw [h0]
    exact ⟨⟨_, rfl⟩, hb⟩
  · refine (Tryz.strconv_Atoi s _ (by omega) (atoi_digits hd h0) w).mono ?_
    rintro e w' ⟨rfl, t, rfl⟩
    exact ⟨⟨_, rfl⟩, Lib.bytesWorld_below _ _ _⟩

set_option maxHeartbeats 4000000 in
set_option maxRecDepth 100000 in
/-- a star, or up to five digits, from a place on -/
theorem number_any (s : ByteArray) (i r : Nat) (w : World) (hr : RdAt w r s i) (hi : i ≤ s.size) (hs : s.size ≤ 200000000000000) (hE : ErrOk w) (hre : 6 ≠ r) :
    Calls Tryz.prog 123 #[.pointer (some ⟨r, 0, none⟩)] w fun e w' => e = .returned (.tuple #[.int .i64 (figV s i).1, .bool (figV s i).2.1, .bool (figV s i).2.2.1]) ∧
      RdAt w' r s ((i + (figV s i).2.2.2 : Nat) : Int) ∧ Apart [r] w w' := by
  have HR := Lib.hid hr
  have HE := Lib.hid hE
  have HX := Lib.hid (next_any s i r w hr)
  rw [chr_nat] at HX
  have hdn := digN_le s i
  obtain ⟨n, hn⟩ : ∃ n, n = digN s i := ⟨_, rfl⟩
  obtain ⟨F, hF⟩ : ∃ F, F = figV s i := ⟨_, rfl⟩
  rw [← hF]
  have HF := Lib.hid hF
  have HN := Lib.hid hn
  unfold figV at HF
  rw [← hn] at hdn HF
  have hrl := hr.lt
  clear hr hE hF hn
  by_cases h42 : ch s i = 42
  · rw [h42] at HX HF
    rw [if_pos rfl] at HF
    go_enter Tryz.func123, Tryz.ntmps123
    go_wp2_with fail
    refine HX.out.mono ?_
    rintro e w1 ⟨rfl, hb⟩
    have HR2 := Lib.hid (HR.out.below hb)
    have HA2 := Lib.hid (Apart.of_below hb [r])
    have c1 := HR2.out.c1
    have f1 := HR2.out.f1
    clear hb
    go_wp2_with fail
    go_ret3
    rw [HF.out]
    refine ⟨rfl, ?_, HA2.out.setCell _ (by simp) _⟩
    exact HR2.out.step _
  · have h42' : ((ch s i : Int) == 42) = false := by simp; omega
    rw [if_neg h42] at HF
    have HX2 := HX
    generalize hc : ch s i = c at *
    have HC := Lib.hid hc
    clear hc h42
    go_enter Tryz.func123, Tryz.ntmps123
    go_wp2_with fail
    refine HX.out.mono ?_
    rintro e w1 ⟨rfl, hb⟩
    have HR2 := Lib.hid (HR.out.below hb)
    have HA2 := Lib.hid (Apart.of_below hb [r])
    have c1 := HR2.out.c1
    have HX3 := Lib.hid (next_any s i r w1 HR2.out)
    rw [chr_nat, HC.out] at HX3
    clear hb
    go_wp2_with fail
    refine HX3.out.mono ?_
    rintro e w2 ⟨rfl, hb⟩
    have HR3 := Lib.hid (HR2.out.below hb)
    have HA3 := Lib.hid (HA2.out.trans (Apart.of_below hb []) (by simp))
    clear hb
    go_wp2_with fail
    go_loopw [6] (fun cv wr => ∃ k : Nat, k ≤ n ∧ cv = .int .u8 (ch s (i + k) : Nat) ∧ Hid (RdAt wr r s ((i + k : Nat) : Int)) ∧ Hid (Apart [r] w wr))
      (fun _ wr => i + n - (match wr.cell? ⟨r, 1, none⟩ with | some v => (intOf v).toNat | none => 0))
    case atStart =>
      refine ⟨0, Nat.zero_le _, ?_, HR3, HA3⟩
      rw [Nat.add_zero, HC.out]
    case round =>
      obtain ⟨k, hk, rfl, HR4, HA4⟩ := hrel
      have c4 := HR4.out.c1
      have f4 := HR4.out.f1
      rcases Nat.lt_or_ge k n with hlt | hge
      · obtain ⟨d1, d2⟩ : 48 ≤ ch s (i + k) ∧ ch s (i + k) ≤ 57 := dig_at (by rw [← HN.out]; exact hlt)
        generalize hx : ch s (i + k) = x at *
        have D1 : (48 : Int) ≤ (x : Int) := by omega
        have D2 : (x : Int) ≤ 57 := by omega
        have H5 := HR4.out.step (((i : Int) + (k : Int)) + 1)
        have A5 : Apart [r] w (wr.setCell ⟨r, 1, none⟩ (.int .i64 (((i : Int) + (k : Int)) + 1))) := HA4.out.setCell _ (by simp) _
        rw [show ((i : Int) + (k : Int)) + 1 = ((i + (k + 1) : Nat) : Int) by omega] at H5 A5
        have HX5 := Lib.hid (next_any s ((i + (k + 1) : Nat) : Int) r _ H5)
        rw [chr_nat] at HX5
        have HR5 := Lib.hid H5
        have HA5 := Lib.hid A5
        clear hx H5 A5 d1 d2
        rw [show ((i + (k + 1) : Nat) : Int) = (i : Int) + (k : Int) + 1 by omega] at HX5
        go_wp2_with fail
        refine HX5.out.mono ?_
        rintro e w5 ⟨rfl, hb⟩
        have HR6 := Lib.hid (HR5.out.below (by rw [show ((i + (k + 1) : Nat) : Int) = (i : Int) + (k : Int) + 1 by omega]; exact hb))
        have HA6 := Lib.hid (HA5.out.trans (Apart.of_below (by rw [show ((i + (k + 1) : Nat) : Int) = (i : Int) + (k : Int) + 1 by omega]; exact hb) []) (by simp))
        clear hb
        go_wp2_with fail
        refine ⟨⟨k + 1, hlt, rfl, HR6, HA6⟩, ?_⟩
        rw [HR6.out.c1, HR4.out.c1]
        simp only [intOf]
        omega
      · obtain rfl : k = n := by omega
        have hst := dig_stop s i
        rw [← HN.out] at hst
        generalize hx : ch s (i + k) = x at *
        clear hx
        have HD := Lib.hid (take_digits s i)
        rw [← HN.out] at HD
        rcases hst with hst | hst
        · have D1 : (x : Int) < 48 := by omega
          clear hst
          rcases Nat.lt_or_ge 5 k with h5 | h5
          · have H5 : (5 : Int) < (k : Int) := by omega
            rw [if_pos h5] at HF
            go_wp2_with fail
            go_ret3
            rw [HF.out]
            exact ⟨rfl, HR4.out, HA4.out⟩
          · have H5 : (k : Int) ≤ 5 := by omega
            rw [if_neg (by omega)] at HF
            have c40 := HR4.out.c0
            have hb1 : (i : Int) ≤ (i : Int) + (k : Int) := by omega
            have hb2 : (i : Int) + (k : Int) ≤ (s.size : Int) := by omega
            have hext : (s.extract i (i + k)).data.toList = (s.data.toList.drop i).take k := by
              simp [ByteArray.data_extract, List.extract_eq_take_drop]
            have HAT := Lib.hid (Atoi_figs (s.extract i (i + k)) wr.drew (by rw [hext]; exact HD.out) (by rw [sz_list, hext, List.length_take]; omega) ((HE.out.apart HA4.out (by simp; exact hre)).below (Below.refl _ _).drew))
            rw [hext] at HAT
            have HNat : Hid (((i : Int) + (k : Int)).toNat = i + k) := by show _ = _; omega
            clear hext
            go_wp2_with fail
            go_region_held3 (fun w' => w'.cell? ⟨r, 0, none⟩ = some (.string s) ∧ w'.cell? ⟨r, 1, none⟩ = some (.int .i64 ((i + k : Nat) : Int))) (first | exact ⟨c40, c4⟩ | exact ⟨HR6.out.c0, HR6.out.c1⟩)
              (first | (go_at_call 188; rw [HNat.out]; refine HAT.out.mono ?_; rintro e w6 ⟨⟨v, rfl⟩, hb6⟩; have HR6 := Lib.hid (HR4.out.below ((Below.refl _ _).drew.trans hb6)); have HA6 := Lib.hid (HA4.out.trans (Apart.of_below ((Below.refl _ _).drew.trans hb6) []) (by simp))))
            go_wp2_with fail
            go_ret3
            rw [HF.out]
            exact ⟨rfl, HR6.out, HA6.out⟩
        · have D1 : (57 : Int) < (x : Int) := by omega
          have D2 : (48 : Int) ≤ (x : Int) := by omega
          clear hst
          rcases Nat.lt_or_ge 5 k with h5 | h5
          · have H5 : (5 : Int) < (k : Int) := by omega
            rw [if_pos h5] at HF
            go_wp2_with fail
            go_ret3
            rw [HF.out]
            exact ⟨rfl, HR4.out, HA4.out⟩
          · have H5 : (k : Int) ≤ 5 := by omega
            rw [if_neg (by omega)] at HF
            have c40 := HR4.out.c0
            have hb1 : (i : Int) ≤ (i : Int) + (k : Int) := by omega
            have hb2 : (i : Int) + (k : Int) ≤ (s.size : Int) := by omega
            have hext : (s.extract i (i + k)).data.toList = (s.data.toList.drop i).take k := by
              simp [ByteArray.data_extract, List.extract_eq_take_drop]
            have HAT := Lib.hid (Atoi_figs (s.extract i (i + k)) wr.drew (by rw [hext]; exact HD.out) (by rw [sz_list, hext, List.length_take]; omega) ((HE.out.apart HA4.out (by simp; exact hre)).below (Below.refl _ _).drew))
            rw [hext] at HAT
            have HNat : Hid (((i : Int) + (k : Int)).toNat = i + k) := by show _ = _; omega
            clear hext
            go_wp2_with fail
            go_region_held3 (fun w' => w'.cell? ⟨r, 0, none⟩ = some (.string s) ∧ w'.cell? ⟨r, 1, none⟩ = some (.int .i64 ((i + k : Nat) : Int))) (first | exact ⟨c40, c4⟩ | exact ⟨HR6.out.c0, HR6.out.c1⟩)
              (first | (go_at_call 188; rw [HNat.out]; refine HAT.out.mono ?_; rintro e w6 ⟨⟨v, rfl⟩, hb6⟩; have HR6 := Lib.hid (HR4.out.below ((Below.refl _ _).drew.trans hb6)); have HA6 := Lib.hid (HA4.out.trans (Apart.of_below ((Below.refl _ _).drew.trans hb6) []) (by simp))))
            go_wp2_with fail
            go_ret3
            rw [HF.out]
            exact ⟨rfl, HR6.out, HA6.out⟩
end Go.Proofs.YtfdnhkjeoeffoaaGreatDoor
end

section
/- Package format: Parse. -/
namespace Go.Proofs.YtfdnhkjeoeffoaaGreatDoor
open Go.RowKit
set_option linter.unusedVariables false

/-- the letters of verbs: of all, of numbers -/
def verbsB : ByteArray := ⟨#[100, 105, 111, 120, 88, 117, 101, 69, 102, 70, 103, 71, 99, 115, 37]⟩
def numsB : ByteArray := ⟨#[100, 105, 111, 120, 88, 117, 101, 69, 102, 70, 103, 71]⟩
def ixB (t : ByteArray) (c : Nat) : Int := Lib.indexByte t.data.toList c.toUInt8
def zeroA : Array Value := pieceA false false false false false 0 0 0 false false 0
def pw (s : ByteArray) (k : Nat) : Nat := k + 1 + flagN s (k + 1)
def fw (s : ByteArray) (k : Nat) : Int × Bool × Bool × Nat := figV s (pw s k)
def pd (s : ByteArray) (k : Nat) : Nat := pw s k + (fw s k).2.2.2
def dotP (s : ByteArray) (k : Nat) : Bool := ch s (pd s k) == 46 && (fw s k).2.2.1
def fp (s : ByteArray) (k : Nat) : Int × Bool × Bool × Nat := if dotP s k then figV s (pd s k + 1) else (-1, false, (fw s k).2.2.1, 0)
def pv (s : ByteArray) (k : Nat) : Nat := if dotP s k then pd s k + 1 + (fp s k).2.2.2 else pd s k
def okP (s : ByteArray) (k : Nat) : Bool := (fp s k).2.2.1 && (ch s (pv s k) != 0) && decide (0 ≤ ixB verbsB (ch s (pv s k)))
def pieceP (s : ByteArray) (k : Nat) : Array Value :=
  pieceA (hasF 45 s (k + 1) (flagN s (k + 1))) (hasF 43 s (k + 1) (flagN s (k + 1))) (hasF 32 s (k + 1) (flagN s (k + 1))) (hasF 35 s (k + 1) (flagN s (k + 1))) (hasF 48 s (k + 1) (flagN s (k + 1)))
    (fw s k).1 (fp s k).1 ((ch s (pv s k) : Nat) : Int) (fw s k).2.1 (fp s k).2.1 ((pv s k + 1 : Nat) : Int)
/-- what Parse answers -/
def parseA (s : ByteArray) (i : Int) : Array Value := if chr s i = 37 ∧ okP s i.toNat = true then pieceP s i.toNat else zeroA
def parseE (s : ByteArray) (i : Int) : Int := if chr s i = 37 ∧ okP s i.toNat = true then 0 else 50

theorem figV_le (s : ByteArray) (i : Nat) : (figV s i).2.2.2 ≤ s.size + 1 := by
  have h := digN_le s i
  unfold figV
  split
  · show 1 ≤ _
    omega
  · split
    · show digN s i ≤ _
      omega
    · show digN s i ≤ _
      omega
theorem chr_in {s : ByteArray} {i : Int} (h : chr s i ≠ 0) : ∃ k : Nat, i = (k : Int) ∧ k < s.size := by
  unfold chr at h
  rcases Int.lt_or_le i 0 with hi | hi
  · rw [if_pos hi] at h; exact absurd rfl h
  · rw [if_neg (by omega)] at h
    refine ⟨i.toNat, by omega, ?_⟩
    rcases Nat.lt_or_ge i.toNat s.size with hk | hk
    · exact hk
    · exact absurd (ch_out hk) h

/-- a piece stored whole -/
theorem PcAt.all {w : World} {r : Nat} {u0 u1 u2 u3 u4 u5 u6 u7 u8 u9 u10 : Value} (h : PcAt w r #[u0, u1, u2, u3, u4, u5, u6, u7, u8, u9, u10]) (v0 v1 v2 v3 v4 v5 v6 v7 v8 v9 v10 : Value) :
    PcAt (((((((((((w.setCell ⟨r, 0, none⟩ v0).setCell ⟨r, 1, none⟩ v1).setCell ⟨r, 2, none⟩ v2).setCell ⟨r, 3, none⟩ v3).setCell ⟨r, 4, none⟩ v4).setCell ⟨r, 5, none⟩ v5).setCell ⟨r, 6, none⟩ v6).setCell ⟨r, 7, none⟩ v7).setCell ⟨r, 8, none⟩ v8).setCell ⟨r, 9, none⟩ v9).setCell ⟨r, 10, none⟩ v10) r #[v0, v1, v2, v3, v4, v5, v6, v7, v8, v9, v10] := by
  have h0 : PcAt _ r #[v0, u1, u2, u3, u4, u5, u6, u7, u8, u9, u10] := h.set 0 v0
  have h1 : PcAt _ r #[v0, v1, u2, u3, u4, u5, u6, u7, u8, u9, u10] := h0.set 1 v1
  have h2 : PcAt _ r #[v0, v1, v2, u3, u4, u5, u6, u7, u8, u9, u10] := h1.set 2 v2
  have h3 : PcAt _ r #[v0, v1, v2, v3, u4, u5, u6, u7, u8, u9, u10] := h2.set 3 v3
  have h4 : PcAt _ r #[v0, v1, v2, v3, v4, u5, u6, u7, u8, u9, u10] := h3.set 4 v4
  have h5 : PcAt _ r #[v0, v1, v2, v3, v4, v5, u6, u7, u8, u9, u10] := h4.set 5 v5
  have h6 : PcAt _ r #[v0, v1, v2, v3, v4, v5, v6, u7, u8, u9, u10] := h5.set 6 v6
  have h7 : PcAt _ r #[v0, v1, v2, v3, v4, v5, v6, v7, u8, u9, u10] := h6.set 7 v7
  have h8 : PcAt _ r #[v0, v1, v2, v3, v4, v5, v6, v7, v8, u9, u10] := h7.set 8 v8
  have h9 : PcAt _ r #[v0, v1, v2, v3, v4, v5, v6, v7, v8, v9, u10] := h8.set 9 v9
  have h10 : PcAt _ r #[v0, v1, v2, v3, v4, v5, v6, v7, v8, v9, v10] := h9.set 10 v10
  exact h10
theorem below_all {n : Nat} {a w : World} {r : Nat} (h : Below n a w) (hr : n ≤ r) (v0 v1 v2 v3 v4 v5 v6 v7 v8 v9 v10 : Value) :
    Below n a (((((((((((w.setCell ⟨r, 0, none⟩ v0).setCell ⟨r, 1, none⟩ v1).setCell ⟨r, 2, none⟩ v2).setCell ⟨r, 3, none⟩ v3).setCell ⟨r, 4, none⟩ v4).setCell ⟨r, 5, none⟩ v5).setCell ⟨r, 6, none⟩ v6).setCell ⟨r, 7, none⟩ v7).setCell ⟨r, 8, none⟩ v8).setCell ⟨r, 9, none⟩ v9).setCell ⟨r, 10, none⟩ v10) := (((((((((((h.setCell (p := ⟨r, 0, none⟩) hr v0).setCell (p := ⟨r, 1, none⟩) hr v1).setCell (p := ⟨r, 2, none⟩) hr v2).setCell (p := ⟨r, 3, none⟩) hr v3).setCell (p := ⟨r, 4, none⟩) hr v4).setCell (p := ⟨r, 5, none⟩) hr v5).setCell (p := ⟨r, 6, none⟩) hr v6).setCell (p := ⟨r, 7, none⟩) hr v7).setCell (p := ⟨r, 8, none⟩) hr v8).setCell (p := ⟨r, 9, none⟩) hr v9).setCell (p := ⟨r, 10, none⟩) hr v10)

set_option maxHeartbeats 8000000 in
set_option maxRecDepth 1000000 in
theorem FParse_any (s : ByteArray) (i : Int) (w : World) (hs : s.size ≤ 200000000000000) (hE : ErrOk w) :
    Calls Tryz.prog 65 #[.string s, .int .i64 i] w fun e w' => e = .returned (.tuple #[.agg (parseA s i), .int .i64 (parseE s i)]) ∧ Below w.heap.size w w' := by
  have HE := Lib.hid hE
  have hel := hE.lt
  have HQA : Hid (parseA s i = if chr s i = 37 ∧ okP s i.toNat = true then pieceP s i.toNat else zeroA) := rfl
  have HQE : Hid (parseE s i = if chr s i = 37 ∧ okP s i.toNat = true then 0 else 50) := rfl
  generalize parseA s i = QA at *
  generalize parseE s i = QE at *
  have HX := Lib.hid (fun r W h => next_any s i r W h)
  have HX0 := HX
  clear hE
  by_cases h37 : chr s i = 37
  · obtain ⟨k, rfl, hk⟩ := chr_in (s := s) (i := i) (by rw [h37]; decide)
    rw [Int.toNat_natCast, h37] at HQA HQE
    rw [h37] at HX0
    have HQA1 : Hid (QA = if okP s k = true then pieceP s k else zeroA) := by show _ = _; simpa using HQA.out
    have HQE1 : Hid (QE = if okP s k = true then 0 else 50) := by show _ = _; simpa using HQE.out
    clear HQA HQE h37
    unfold pieceP at HQA1
    have HF := Lib.hid (fun r p W h1 h2 h3 h4 => flags_any s (k + 1) r p 0 (-1) 0 false false 0 W h1 h2 h3 h4)
    have hfn : flagN s (k + 1) ≤ s.size - (k + 1) := by
      unfold flagN
      refine Nat.le_trans (List.takeWhile_sublist _).length_le ?_
      rw [List.length_drop, sz_list]
      exact Nat.le_refl _
    have hpw : pw s k = k + 1 + flagN s (k + 1) := rfl
    have HPW1 := Lib.hid hpw
    rw [← HPW1.out] at HF
    have hp1 : pw s k ≤ s.size := by omega
    have HN1 := Lib.hid (fun r W h1 h2 h3 => number_any s (pw s k) r W h1 hp1 hs h2 h3)
    clear hpw hfn
    rw [show figV s (pw s k) = fw s k from rfl] at HN1
    have hpd : pd s k = pw s k + (fw s k).2.2.2 := rfl
    rw [← hpd] at HN1
    clear hpd
    generalize hasF 45 s (k + 1) (flagN s (k + 1)) = fm at *
    generalize hasF 43 s (k + 1) (flagN s (k + 1)) = fp1 at *
    generalize hasF 32 s (k + 1) (flagN s (k + 1)) = fb at *
    generalize hasF 35 s (k + 1) (flagN s (k + 1)) = fa at *
    generalize hasF 48 s (k + 1) (flagN s (k + 1)) = fz at *
    have HND := Lib.hid (fun r W h => next_any s (pd s k : Int) r W h)
    rw [show chr s (pd s k : Int) = ch s (pd s k) from chr_nat _ _] at HND
    go_enter Tryz.func65, Tryz.ntmps65
    go_wp2_with fail
    have hr0 : RdAt ((w.alloc (.cells #[.bool false, .bool false, .bool false, .bool false, .bool false, .int .i64 0, .int .i64 0, .int .u8 0, .bool false, .bool false, .int .i64 0] 101)).alloc (.cells #[.string s, .int .i64 (k : Int)] 172)) (w.heap.size + 1) s k := by
      have h := heap_alloc_at (w.alloc (.cells #[.bool false, .bool false, .bool false, .bool false, .bool false, .int .i64 0, .int .i64 0, .int .u8 0, .bool false, .bool false, .int .i64 0] 101)) (.cells #[.string s, .int .i64 (k : Int)] 172)
      rw [World.size_alloc] at h
      exact h
    have hp0 : PcAt ((w.alloc (.cells #[.bool false, .bool false, .bool false, .bool false, .bool false, .int .i64 0, .int .i64 0, .int .u8 0, .bool false, .bool false, .int .i64 0] 101)).alloc (.cells #[.string s, .int .i64 (k : Int)] 172)) w.heap.size zeroA :=
      (heap_alloc_lt _ _ _ (by simp)).trans (heap_alloc_at w _)
    have hB0 : Below w.heap.size w ((w.alloc (.cells #[.bool false, .bool false, .bool false, .bool false, .bool false, .int .i64 0, .int .i64 0, .int .u8 0, .bool false, .bool false, .int .i64 0] 101)).alloc (.cells #[.string s, .int .i64 (k : Int)] 172)) := ((Below.refl _ _).alloc (Nat.le_refl _) _).alloc (by simp) _
    refine (HX0.out (w.heap.size + 1) _ hr0).mono ?_
    rintro e w1 ⟨rfl, hb⟩
    have HP1 := Lib.hid (hp0.below hb)
    have HR1 := Lib.hid (hr0.below hb)
    have HB1 := Lib.hid (hB0.trans (hb.mono hB0.size))
    have c1 := HR1.out.c1
    have f1 := HR1.out.f1
    have hz1 := hb.size
    rw [World.size_alloc, World.size_alloc] at hz1
    have hk1 : (k : Int) + 1 ≤ 200000000000000 := by omega
    clear hr0 hp0 hB0 hb HX0
    go_wp2_with fail
    -- MAIN
    have HDP : Hid (dotP s k = (ch s (pd s k) == 46 && (fw s k).2.2.1)) := rfl
    have HFP : Hid (fp s k = if dotP s k then figV s (pd s k + 1) else (-1, false, (fw s k).2.2.1, 0)) := rfl
    have HPV : Hid (pv s k = if dotP s k then pd s k + 1 + (fp s k).2.2.2 else pd s k) := rfl
    have HOK : Hid (okP s k = ((fp s k).2.2.1 && (ch s (pv s k) != 0) && decide (0 ≤ ixB verbsB (ch s (pv s k))))) := rfl
    have HDL := Lib.hid (fun h : ch s (pd s k) = 46 => show pd s k + 1 ≤ s.size from by
      rcases Nat.lt_or_ge (pd s k) s.size with h' | h'
      · exact h'
      · rw [ch_out h'] at h; cases h)
    have HIX : Hid (∀ (c : Nat) (Z : Int) (W : World), (c : Int) = Z → Calls Tryz.prog 69 #[.string ⟨#[100, 105, 111, 120, 88, 117, 101, 69, 102, 70, 103, 71, 99, 115, 37]⟩, .int .u8 Z] W fun e w' => e = .returned (.int .i64 (ixB verbsB c)) ∧ w' = W) :=
      fun c Z W h => h ▸ Tryz.strings_IndexByte verbsB (c : Int) W
    have hDle : pd s k ≤ 700000000000000 := by
      have h1 := figV_le s (pw s k)
      have h2 : pd s k = pw s k + (figV s (pw s k)).2.2.2 := rfl
      omega
    generalize hW2 : World.alloc _ _ = W2
    have z2 : W2.heap.size = w1.heap.size + 1 := by rw [← hW2]; simp [World.setCell]
    have HR2 := Lib.hid (show RdAt W2 (w.heap.size + 1) s ((k + 1 : Nat) : Int) from by
      rw [← hW2]; exact (heap_alloc_lt _ _ _ (by simp [World.setCell]; omega)).trans (HR1.out.step _))
    have HP2 := Lib.hid (show PcAt W2 w1.heap.size (pieceA false false false false false 0 (-1) 0 false false 0) from by
      rw [← hW2, show w1.heap.size = (w1.setCell ⟨w.heap.size + 1, 1, none⟩ (.int .i64 ((k : Int) + 1))).heap.size from by simp [World.setCell]]
      exact heap_alloc_at _ _)
    have HQ2 := Lib.hid (show PcAt W2 w.heap.size zeroA from by
      rw [← hW2]; exact (heap_alloc_lt _ _ _ (by simp [World.setCell]; omega)).trans (HP1.out.other 1 _ (by omega)))
    have HB2 := Lib.hid (show Below w.heap.size w W2 from by
      rw [← hW2]; exact (HB1.out.setCell (p := ⟨w.heap.size + 1, 1, none⟩) (by simp) _).alloc (by simp [World.setCell]; omega) _)
    clear hW2 c1 f1 HR1 HP1 HB1
    refine (HF.out (w.heap.size + 1) w1.heap.size W2 HR2.out HP2.out (by omega) (by omega)).mono ?_
    rintro e w3 ⟨rfl, hr3, hp3, ha3⟩
    have hz3 := ha3.size
    have HR3 := Lib.hid hr3
    have HP3 := Lib.hid hp3
    have HQ3 := Lib.hid (HQ2.out.keep ha3 (by simp; omega))
    have HB3 := Lib.hid (HB2.out.trans (ha3.below (B := w.heap.size) (by omega) (by simp; omega)))
    clear hr3 hp3 ha3 HR2 HP2 HQ2 HB2 HF
    go_wp2_with fail
    refine (HN1.out (w.heap.size + 1) w3 HR3.out (HE.out.below HB3.out) (by omega)).mono ?_
    rintro e w4 ⟨rfl, hr4, ha4⟩
    have hz4 := ha4.size
    have HR4 := Lib.hid hr4
    have HP4 := Lib.hid (HP3.out.keep ha4 (by simp; omega))
    have HQ4 := Lib.hid (HQ3.out.keep ha4 (by simp))
    have HB4 := Lib.hid (HB3.out.trans (ha4.below (B := w.heap.size) (by omega) (by simp)))
    have k5 : w4.cell? ⟨w1.heap.size, 5, none⟩ = some (.int .i64 0) := HP4.out.cell 5
    have k8 : w4.cell? ⟨w1.heap.size, 8, none⟩ = some (.bool false) := HP4.out.cell 8
    have kf : ∀ j, w4.frozen? ⟨w1.heap.size, j, none⟩ = false := HP4.out.frozen
    generalize (fw s k).1 = n1 at *
    generalize (fw s k).2.1 = st1 at *
    generalize (fw s k).2.2.1 = ok1 at *
    clear hr4 ha4 HR3 HP3 HQ3 HB3 HN1
    go_wp2_with fail
    refine (HND.out (w.heap.size + 1) _ ((HR4.out.other 5 _ (by omega)).other 8 _ (by omega))).mono ?_
    rintro e w5 ⟨rfl, hb⟩
    have hz5 := hb.size
    simp only [World.size_setCell] at hz5
    have HR5 := Lib.hid (((HR4.out.other 5 (.int .i64 n1) (show w.heap.size + 1 ≠ w1.heap.size by omega)).other 8 (.bool st1) (by omega)).below hb)
    have HP5 := Lib.hid (show PcAt w5 w1.heap.size (pieceA fm fp1 fb fa fz n1 (-1) 0 st1 false 0) from (((HP4.out.set 5 _).set 8 _).below hb))
    have HQ5 := Lib.hid (((HQ4.out.other 5 (.int .i64 n1) (show w.heap.size ≠ w1.heap.size by omega)).other 8 (.bool st1) (by omega)).below hb)
    have HB5 := Lib.hid (((HB4.out.setCell (p := ⟨w1.heap.size, 5, none⟩) (by simp; omega) (.int .i64 n1)).setCell (p := ⟨w1.heap.size, 8, none⟩) (by simp; omega) (.bool st1)).trans (hb.mono (by simp only [World.size_setCell]; omega)))
    generalize ch s (pd s k) = C at *
    generalize pd s k = D at *
    clear hb k5 k8 kf HR4 HP4 HQ4 HB4 HND
    by_cases hC : C = 46
    · subst hC
      have hDL := HDL.out rfl
      clear HDL
      cases ok1
      · have HF1 : Hid (fp s k = (-1, false, false, 0)) := by show _ = _; rw [HFP.out, HDP.out]; rfl
        have HV1 : Hid (pv s k = D) := by show _ = _; rw [HPV.out, HDP.out]; rfl
        clear HFP HPV HDP
        go_wp2_with fail
        rw [← HV1.out] at HR5
        have HRt := HR5
        have HPt := HP5
        have HQt := HQ5
        have HBt := HB5
        have HNt := Lib.hid (next_any s (pv s k : Nat) (w.heap.size + 1) w5 HRt.out)
        rw [chr_nat] at HNt
        refine HNt.out.mono ?_
        rintro e wa ⟨rfl, hb⟩
        have hza := hb.size
        try simp only [World.size_setCell] at hza
        have HRa := Lib.hid (HRt.out.below hb)
        have HPa := Lib.hid (HPt.out.below hb)
        have HQa := Lib.hid (HQt.out.below hb)
        have HBa := Lib.hid (HBt.out.trans (hb.mono (by first | omega | (simp only [World.size_setCell]; omega))))
        have hV := ch_lt s (pv s k)
        have hX : pv s k ≤ 700000000000000 := by rw [HV1.out]; exact hDle
        generalize ch s (pv s k) = V at *
        generalize pv s k = X at *
        rw [show ((X + 1 : Nat) : Int) = (X : Int) + 1 from by omega] at HQA1
        generalize hZ : ((V : Nat) : Int) = Z at *
        have HZ := Lib.hid hZ
        clear hZ
        clear hb HNt HRt HPt HQt HBt
        have k7 : wa.cell? ⟨w1.heap.size, 7, none⟩ = some (.int .u8 0) := HPa.out.cell 7
        have kfa : ∀ j, wa.frozen? ⟨w1.heap.size, j, none⟩ = false := HPa.out.frozen
        have q1 : (wa.setCell ⟨w1.heap.size, 7, none⟩ (.int .u8 Z)).cell? ⟨w.heap.size + 1, 1, none⟩ = some (.int .i64 (X : Nat)) := (HRa.out.other 7 _ (by omega)).c1
        have q2 : (wa.setCell ⟨w1.heap.size, 7, none⟩ (.int .u8 Z)).cell? ⟨w1.heap.size, 10, none⟩ = some (.int .i64 0) := (HPa.out.set 7 _).cell 10
        have HPc := Lib.hid (show PcAt ((wa.setCell ⟨w1.heap.size, 7, none⟩ (.int .u8 Z)).setCell ⟨w1.heap.size, 10, none⟩ (.int .i64 ((X : Int) + 1))) w1.heap.size (pieceA fm fp1 fb fa fz n1 (-1) Z st1 false ((X : Int) + 1)) from (HPa.out.set 7 _).set 10 _)
        have HQc := Lib.hid (show PcAt ((wa.setCell ⟨w1.heap.size, 7, none⟩ (.int .u8 Z)).setCell ⟨w1.heap.size, 10, none⟩ (.int .i64 ((X : Int) + 1))) w.heap.size zeroA from (HQa.out.other 7 _ (by omega)).other 10 _ (by omega))
        have HBc := Lib.hid (show Below w.heap.size w ((wa.setCell ⟨w1.heap.size, 7, none⟩ (.int .u8 Z)).setCell ⟨w1.heap.size, 10, none⟩ (.int .i64 ((X : Int) + 1))) from (HBa.out.setCell (p := ⟨w1.heap.size, 7, none⟩) (by simp; omega) _).setCell (p := ⟨w1.heap.size, 10, none⟩) (by simp; omega) _)
        have y0 : ((wa.setCell ⟨w1.heap.size, 7, none⟩ (.int .u8 Z)).setCell ⟨w1.heap.size, 10, none⟩ (.int .i64 ((X : Int) + 1))).cell? ⟨w1.heap.size, 0, none⟩ = some (.bool fm) := HPc.out.cell 0
        have y1 : ((wa.setCell ⟨w1.heap.size, 7, none⟩ (.int .u8 Z)).setCell ⟨w1.heap.size, 10, none⟩ (.int .i64 ((X : Int) + 1))).cell? ⟨w1.heap.size, 1, none⟩ = some (.bool fp1) := HPc.out.cell 1
        have y2 : ((wa.setCell ⟨w1.heap.size, 7, none⟩ (.int .u8 Z)).setCell ⟨w1.heap.size, 10, none⟩ (.int .i64 ((X : Int) + 1))).cell? ⟨w1.heap.size, 2, none⟩ = some (.bool fb) := HPc.out.cell 2
        have y3 : ((wa.setCell ⟨w1.heap.size, 7, none⟩ (.int .u8 Z)).setCell ⟨w1.heap.size, 10, none⟩ (.int .i64 ((X : Int) + 1))).cell? ⟨w1.heap.size, 3, none⟩ = some (.bool fa) := HPc.out.cell 3
        have y4 : ((wa.setCell ⟨w1.heap.size, 7, none⟩ (.int .u8 Z)).setCell ⟨w1.heap.size, 10, none⟩ (.int .i64 ((X : Int) + 1))).cell? ⟨w1.heap.size, 4, none⟩ = some (.bool fz) := HPc.out.cell 4
        have y5 : ((wa.setCell ⟨w1.heap.size, 7, none⟩ (.int .u8 Z)).setCell ⟨w1.heap.size, 10, none⟩ (.int .i64 ((X : Int) + 1))).cell? ⟨w1.heap.size, 5, none⟩ = some (.int .i64 n1) := HPc.out.cell 5
        have y6 : ((wa.setCell ⟨w1.heap.size, 7, none⟩ (.int .u8 Z)).setCell ⟨w1.heap.size, 10, none⟩ (.int .i64 ((X : Int) + 1))).cell? ⟨w1.heap.size, 6, none⟩ = some (.int .i64 (-1)) := HPc.out.cell 6
        have y7 : ((wa.setCell ⟨w1.heap.size, 7, none⟩ (.int .u8 Z)).setCell ⟨w1.heap.size, 10, none⟩ (.int .i64 ((X : Int) + 1))).cell? ⟨w1.heap.size, 7, none⟩ = some (.int .u8 Z) := HPc.out.cell 7
        have y8 : ((wa.setCell ⟨w1.heap.size, 7, none⟩ (.int .u8 Z)).setCell ⟨w1.heap.size, 10, none⟩ (.int .i64 ((X : Int) + 1))).cell? ⟨w1.heap.size, 8, none⟩ = some (.bool st1) := HPc.out.cell 8
        have y9 : ((wa.setCell ⟨w1.heap.size, 7, none⟩ (.int .u8 Z)).setCell ⟨w1.heap.size, 10, none⟩ (.int .i64 ((X : Int) + 1))).cell? ⟨w1.heap.size, 9, none⟩ = some (.bool false) := HPc.out.cell 9
        have y10 : ((wa.setCell ⟨w1.heap.size, 7, none⟩ (.int .u8 Z)).setCell ⟨w1.heap.size, 10, none⟩ (.int .i64 ((X : Int) + 1))).cell? ⟨w1.heap.size, 10, none⟩ = some (.int .i64 ((X : Int) + 1)) := HPc.out.cell 10
        have z0 : ((wa.setCell ⟨w1.heap.size, 7, none⟩ (.int .u8 Z)).setCell ⟨w1.heap.size, 10, none⟩ (.int .i64 ((X : Int) + 1))).cell? ⟨w.heap.size, 0, none⟩ = some (.bool false) := HQc.out.cell 0
        have z1 : ((wa.setCell ⟨w1.heap.size, 7, none⟩ (.int .u8 Z)).setCell ⟨w1.heap.size, 10, none⟩ (.int .i64 ((X : Int) + 1))).cell? ⟨w.heap.size, 1, none⟩ = some (.bool false) := HQc.out.cell 1
        have z2 : ((wa.setCell ⟨w1.heap.size, 7, none⟩ (.int .u8 Z)).setCell ⟨w1.heap.size, 10, none⟩ (.int .i64 ((X : Int) + 1))).cell? ⟨w.heap.size, 2, none⟩ = some (.bool false) := HQc.out.cell 2
        have z3 : ((wa.setCell ⟨w1.heap.size, 7, none⟩ (.int .u8 Z)).setCell ⟨w1.heap.size, 10, none⟩ (.int .i64 ((X : Int) + 1))).cell? ⟨w.heap.size, 3, none⟩ = some (.bool false) := HQc.out.cell 3
        have z4 : ((wa.setCell ⟨w1.heap.size, 7, none⟩ (.int .u8 Z)).setCell ⟨w1.heap.size, 10, none⟩ (.int .i64 ((X : Int) + 1))).cell? ⟨w.heap.size, 4, none⟩ = some (.bool false) := HQc.out.cell 4
        have z5 : ((wa.setCell ⟨w1.heap.size, 7, none⟩ (.int .u8 Z)).setCell ⟨w1.heap.size, 10, none⟩ (.int .i64 ((X : Int) + 1))).cell? ⟨w.heap.size, 5, none⟩ = some (.int .i64 0) := HQc.out.cell 5
        have z6 : ((wa.setCell ⟨w1.heap.size, 7, none⟩ (.int .u8 Z)).setCell ⟨w1.heap.size, 10, none⟩ (.int .i64 ((X : Int) + 1))).cell? ⟨w.heap.size, 6, none⟩ = some (.int .i64 0) := HQc.out.cell 6
        have z7 : ((wa.setCell ⟨w1.heap.size, 7, none⟩ (.int .u8 Z)).setCell ⟨w1.heap.size, 10, none⟩ (.int .i64 ((X : Int) + 1))).cell? ⟨w.heap.size, 7, none⟩ = some (.int .u8 0) := HQc.out.cell 7
        have z8 : ((wa.setCell ⟨w1.heap.size, 7, none⟩ (.int .u8 Z)).setCell ⟨w1.heap.size, 10, none⟩ (.int .i64 ((X : Int) + 1))).cell? ⟨w.heap.size, 8, none⟩ = some (.bool false) := HQc.out.cell 8
        have z9 : ((wa.setCell ⟨w1.heap.size, 7, none⟩ (.int .u8 Z)).setCell ⟨w1.heap.size, 10, none⟩ (.int .i64 ((X : Int) + 1))).cell? ⟨w.heap.size, 9, none⟩ = some (.bool false) := HQc.out.cell 9
        have z10 : ((wa.setCell ⟨w1.heap.size, 7, none⟩ (.int .u8 Z)).setCell ⟨w1.heap.size, 10, none⟩ (.int .i64 ((X : Int) + 1))).cell? ⟨w.heap.size, 10, none⟩ = some (.int .i64 0) := HQc.out.cell 10
        have zf : ∀ j, ((wa.setCell ⟨w1.heap.size, 7, none⟩ (.int .u8 Z)).setCell ⟨w1.heap.size, 10, none⟩ (.int .i64 ((X : Int) + 1))).frozen? ⟨w.heap.size, j, none⟩ = false := HQc.out.frozen
        go_wp2_with fail
        generalize hW : World.setCell _ _ _ = W
        have hp : PcAt W w.heap.size #[.bool false, .bool false, .bool false, .bool false, .bool false, .int .i64 0, .int .i64 0, .int .u8 0, .bool false, .bool false, .int .i64 0] := by rw [← hW]; exact PcAt.all (show PcAt _ w.heap.size _ from HQc.out) _ _ _ _ _ _ _ _ _ _ _
        have hb : Below w.heap.size w W := by rw [← hW]; exact below_all HBc.out (Nat.le_refl _) _ _ _ _ _ _ _ _ _ _ _
        have hok : okP s k = false := by rw [HOK.out, HF1.out]; rfl
        rw [HQA1.out, HQE1.out, hok]
        clear hW z0 z1 z2 z3 z4 z5 z6 z7 z8 z9 z10 y0 y1 y2 y3 y4 y5 y6 y7 y8 y9 y10
        have k0 : W.cell? ⟨w.heap.size, 0, none⟩ = some (.bool false) := hp.cell 0
        have k1 : W.cell? ⟨w.heap.size, 1, none⟩ = some (.bool false) := hp.cell 1
        have k2 : W.cell? ⟨w.heap.size, 2, none⟩ = some (.bool false) := hp.cell 2
        have k3 : W.cell? ⟨w.heap.size, 3, none⟩ = some (.bool false) := hp.cell 3
        have k4 : W.cell? ⟨w.heap.size, 4, none⟩ = some (.bool false) := hp.cell 4
        have k5 : W.cell? ⟨w.heap.size, 5, none⟩ = some (.int .i64 0) := hp.cell 5
        have k6 : W.cell? ⟨w.heap.size, 6, none⟩ = some (.int .i64 0) := hp.cell 6
        have k7 : W.cell? ⟨w.heap.size, 7, none⟩ = some (.int .u8 0) := hp.cell 7
        have k8 : W.cell? ⟨w.heap.size, 8, none⟩ = some (.bool false) := hp.cell 8
        have k9 : W.cell? ⟨w.heap.size, 9, none⟩ = some (.bool false) := hp.cell 9
        have k10 : W.cell? ⟨w.heap.size, 10, none⟩ = some (.int .i64 0) := hp.cell 10
        clear hp
        exact bodyPost_ret (v := .tuple #[.agg #[.bool false, .bool false, .bool false, .bool false, .bool false, .int .i64 0, .int .i64 0, .int .u8 0, .bool false, .bool false, .int .i64 0], .int .i64 50]) (by simp [results, Tryz.results65, go_sem, *]) rfl ⟨rfl, hb⟩
      · have HF1 : Hid (fp s k = figV s (D + 1)) := by show _ = _; rw [HFP.out, HDP.out]; rfl
        have HV1 : Hid (pv s k = D + 1 + (fp s k).2.2.2) := by show _ = _; rw [HPV.out, HDP.out]; rfl
        clear HFP HPV HDP
        have c1 := HR5.out.c1
        have f1 := HR5.out.f1
        have hD1 : (D : Int) + 1 ≤ 200000000000000 := by omega
        go_wp2_with fail
        have hE5 : ErrOk (w5.setCell ⟨w.heap.size + 1, 1, none⟩ (.int .i64 ((D : Int) + 1))) := HE.out.below (HB5.out.setCell (p := ⟨w.heap.size + 1, 1, none⟩) (by simp) _)
        refine (number_any s (D + 1) (w.heap.size + 1) _ (by rw [show ((D + 1 : Nat) : Int) = (D : Int) + 1 from by omega]; exact HR5.out.step _) hDL hs hE5 (by omega)).mono ?_
        rintro e w6 ⟨rfl, hr6, ha6⟩
        have hz6 := ha6.size
        simp only [World.size_setCell] at hz6
        have HR6 := Lib.hid hr6
        have HP6 := Lib.hid ((HP5.out.other 1 (.int .i64 ((D : Int) + 1)) (show w1.heap.size ≠ w.heap.size + 1 by omega)).keep ha6 (by simp; omega))
        have HQ6 := Lib.hid ((HQ5.out.other 1 (.int .i64 ((D : Int) + 1)) (show w.heap.size ≠ w.heap.size + 1 by omega)).keep ha6 (by simp))
        have HB6 := Lib.hid ((HB5.out.setCell (p := ⟨w.heap.size + 1, 1, none⟩) (by simp) (.int .i64 ((D : Int) + 1))).trans (ha6.below (B := w.heap.size) (by simp only [World.size_setCell]; omega) (by simp)))
        have k6 : w6.cell? ⟨w1.heap.size, 6, none⟩ = some (.int .i64 (-1)) := HP6.out.cell 6
        have k9 : w6.cell? ⟨w1.heap.size, 9, none⟩ = some (.bool false) := HP6.out.cell 9
        have kf : ∀ j, w6.frozen? ⟨w1.heap.size, j, none⟩ = false := HP6.out.frozen
        rw [← HF1.out, ← HV1.out] at HR6
        rw [← HF1.out]
        have hfl := figV_le s (D + 1)
        rw [← HF1.out] at hfl
        clear hr6 ha6 c1 f1 hE5 HR5 HP5 HQ5 HB5
        generalize (fp s k).1 = n2 at *
        generalize (fp s k).2.1 = st2 at *
        generalize (fp s k).2.2.1 = ok2 at *
        go_wp2_with fail
        have HRt := Lib.hid ((HR6.out.other 6 (.int .i64 n2) (show w.heap.size + 1 ≠ w1.heap.size by omega)).other 9 (.bool st2) (show w.heap.size + 1 ≠ w1.heap.size by omega))
        have HPt := Lib.hid (show PcAt _ w1.heap.size (pieceA fm fp1 fb fa fz n1 n2 0 st1 st2 0) from (HP6.out.set 6 (.int .i64 n2)).set 9 (.bool st2))
        have HQt := Lib.hid ((HQ6.out.other 6 (.int .i64 n2) (show w.heap.size ≠ w1.heap.size by omega)).other 9 (.bool st2) (show w.heap.size ≠ w1.heap.size by omega))
        have HBt := Lib.hid ((HB6.out.setCell (p := ⟨w1.heap.size, 6, none⟩) (show w.heap.size ≤ w1.heap.size by omega) (.int .i64 n2)).setCell (p := ⟨w1.heap.size, 9, none⟩) (show w.heap.size ≤ w1.heap.size by omega) (.bool st2))
        have HNt := Lib.hid (next_any s (pv s k : Nat) (w.heap.size + 1) _ HRt.out)
        rw [chr_nat] at HNt
        refine HNt.out.mono ?_
        rintro e wa ⟨rfl, hb⟩
        have hza := hb.size
        try simp only [World.size_setCell] at hza
        have HRa := Lib.hid (HRt.out.below hb)
        have HPa := Lib.hid (HPt.out.below hb)
        have HQa := Lib.hid (HQt.out.below hb)
        have HBa := Lib.hid (HBt.out.trans (hb.mono (by first | omega | (simp only [World.size_setCell]; omega))))
        have hV := ch_lt s (pv s k)
        have hX : pv s k ≤ 1900000000000000 := by rw [HV1.out]; omega
        generalize ch s (pv s k) = V at *
        generalize pv s k = X at *
        rw [show ((X + 1 : Nat) : Int) = (X : Int) + 1 from by omega] at HQA1
        generalize hZ : ((V : Nat) : Int) = Z at *
        have HZ := Lib.hid hZ
        clear hZ
        clear hb HNt HRt HPt HQt HBt
        have k7 : wa.cell? ⟨w1.heap.size, 7, none⟩ = some (.int .u8 0) := HPa.out.cell 7
        have kfa : ∀ j, wa.frozen? ⟨w1.heap.size, j, none⟩ = false := HPa.out.frozen
        have q1 : (wa.setCell ⟨w1.heap.size, 7, none⟩ (.int .u8 Z)).cell? ⟨w.heap.size + 1, 1, none⟩ = some (.int .i64 (X : Nat)) := (HRa.out.other 7 _ (by omega)).c1
        have q2 : (wa.setCell ⟨w1.heap.size, 7, none⟩ (.int .u8 Z)).cell? ⟨w1.heap.size, 10, none⟩ = some (.int .i64 0) := (HPa.out.set 7 _).cell 10
        have HPc := Lib.hid (show PcAt ((wa.setCell ⟨w1.heap.size, 7, none⟩ (.int .u8 Z)).setCell ⟨w1.heap.size, 10, none⟩ (.int .i64 ((X : Int) + 1))) w1.heap.size (pieceA fm fp1 fb fa fz n1 n2 Z st1 st2 ((X : Int) + 1)) from (HPa.out.set 7 _).set 10 _)
        have HQc := Lib.hid (show PcAt ((wa.setCell ⟨w1.heap.size, 7, none⟩ (.int .u8 Z)).setCell ⟨w1.heap.size, 10, none⟩ (.int .i64 ((X : Int) + 1))) w.heap.size zeroA from (HQa.out.other 7 _ (by omega)).other 10 _ (by omega))
        have HBc := Lib.hid (show Below w.heap.size w ((wa.setCell ⟨w1.heap.size, 7, none⟩ (.int .u8 Z)).setCell ⟨w1.heap.size, 10, none⟩ (.int .i64 ((X : Int) + 1))) from (HBa.out.setCell (p := ⟨w1.heap.size, 7, none⟩) (by simp; omega) _).setCell (p := ⟨w1.heap.size, 10, none⟩) (by simp; omega) _)
        have y0 : ((wa.setCell ⟨w1.heap.size, 7, none⟩ (.int .u8 Z)).setCell ⟨w1.heap.size, 10, none⟩ (.int .i64 ((X : Int) + 1))).cell? ⟨w1.heap.size, 0, none⟩ = some (.bool fm) := HPc.out.cell 0
        have y1 : ((wa.setCell ⟨w1.heap.size, 7, none⟩ (.int .u8 Z)).setCell ⟨w1.heap.size, 10, none⟩ (.int .i64 ((X : Int) + 1))).cell? ⟨w1.heap.size, 1, none⟩ = some (.bool fp1) := HPc.out.cell 1
        have y2 : ((wa.setCell ⟨w1.heap.size, 7, none⟩ (.int .u8 Z)).setCell ⟨w1.heap.size, 10, none⟩ (.int .i64 ((X : Int) + 1))).cell? ⟨w1.heap.size, 2, none⟩ = some (.bool fb) := HPc.out.cell 2
        have y3 : ((wa.setCell ⟨w1.heap.size, 7, none⟩ (.int .u8 Z)).setCell ⟨w1.heap.size, 10, none⟩ (.int .i64 ((X : Int) + 1))).cell? ⟨w1.heap.size, 3, none⟩ = some (.bool fa) := HPc.out.cell 3
        have y4 : ((wa.setCell ⟨w1.heap.size, 7, none⟩ (.int .u8 Z)).setCell ⟨w1.heap.size, 10, none⟩ (.int .i64 ((X : Int) + 1))).cell? ⟨w1.heap.size, 4, none⟩ = some (.bool fz) := HPc.out.cell 4
        have y5 : ((wa.setCell ⟨w1.heap.size, 7, none⟩ (.int .u8 Z)).setCell ⟨w1.heap.size, 10, none⟩ (.int .i64 ((X : Int) + 1))).cell? ⟨w1.heap.size, 5, none⟩ = some (.int .i64 n1) := HPc.out.cell 5
        have y6 : ((wa.setCell ⟨w1.heap.size, 7, none⟩ (.int .u8 Z)).setCell ⟨w1.heap.size, 10, none⟩ (.int .i64 ((X : Int) + 1))).cell? ⟨w1.heap.size, 6, none⟩ = some (.int .i64 n2) := HPc.out.cell 6
        have y7 : ((wa.setCell ⟨w1.heap.size, 7, none⟩ (.int .u8 Z)).setCell ⟨w1.heap.size, 10, none⟩ (.int .i64 ((X : Int) + 1))).cell? ⟨w1.heap.size, 7, none⟩ = some (.int .u8 Z) := HPc.out.cell 7
        have y8 : ((wa.setCell ⟨w1.heap.size, 7, none⟩ (.int .u8 Z)).setCell ⟨w1.heap.size, 10, none⟩ (.int .i64 ((X : Int) + 1))).cell? ⟨w1.heap.size, 8, none⟩ = some (.bool st1) := HPc.out.cell 8
        have y9 : ((wa.setCell ⟨w1.heap.size, 7, none⟩ (.int .u8 Z)).setCell ⟨w1.heap.size, 10, none⟩ (.int .i64 ((X : Int) + 1))).cell? ⟨w1.heap.size, 9, none⟩ = some (.bool st2) := HPc.out.cell 9
        have y10 : ((wa.setCell ⟨w1.heap.size, 7, none⟩ (.int .u8 Z)).setCell ⟨w1.heap.size, 10, none⟩ (.int .i64 ((X : Int) + 1))).cell? ⟨w1.heap.size, 10, none⟩ = some (.int .i64 ((X : Int) + 1)) := HPc.out.cell 10
        have z0 : ((wa.setCell ⟨w1.heap.size, 7, none⟩ (.int .u8 Z)).setCell ⟨w1.heap.size, 10, none⟩ (.int .i64 ((X : Int) + 1))).cell? ⟨w.heap.size, 0, none⟩ = some (.bool false) := HQc.out.cell 0
        have z1 : ((wa.setCell ⟨w1.heap.size, 7, none⟩ (.int .u8 Z)).setCell ⟨w1.heap.size, 10, none⟩ (.int .i64 ((X : Int) + 1))).cell? ⟨w.heap.size, 1, none⟩ = some (.bool false) := HQc.out.cell 1
        have z2 : ((wa.setCell ⟨w1.heap.size, 7, none⟩ (.int .u8 Z)).setCell ⟨w1.heap.size, 10, none⟩ (.int .i64 ((X : Int) + 1))).cell? ⟨w.heap.size, 2, none⟩ = some (.bool false) := HQc.out.cell 2
        have z3 : ((wa.setCell ⟨w1.heap.size, 7, none⟩ (.int .u8 Z)).setCell ⟨w1.heap.size, 10, none⟩ (.int .i64 ((X : Int) + 1))).cell? ⟨w.heap.size, 3, none⟩ = some (.bool false) := HQc.out.cell 3
        have z4 : ((wa.setCell ⟨w1.heap.size, 7, none⟩ (.int .u8 Z)).setCell ⟨w1.heap.size, 10, none⟩ (.int .i64 ((X : Int) + 1))).cell? ⟨w.heap.size, 4, none⟩ = some (.bool false) := HQc.out.cell 4
        have z5 : ((wa.setCell ⟨w1.heap.size, 7, none⟩ (.int .u8 Z)).setCell ⟨w1.heap.size, 10, none⟩ (.int .i64 ((X : Int) + 1))).cell? ⟨w.heap.size, 5, none⟩ = some (.int .i64 0) := HQc.out.cell 5
        have z6 : ((wa.setCell ⟨w1.heap.size, 7, none⟩ (.int .u8 Z)).setCell ⟨w1.heap.size, 10, none⟩ (.int .i64 ((X : Int) + 1))).cell? ⟨w.heap.size, 6, none⟩ = some (.int .i64 0) := HQc.out.cell 6
        have z7 : ((wa.setCell ⟨w1.heap.size, 7, none⟩ (.int .u8 Z)).setCell ⟨w1.heap.size, 10, none⟩ (.int .i64 ((X : Int) + 1))).cell? ⟨w.heap.size, 7, none⟩ = some (.int .u8 0) := HQc.out.cell 7
        have z8 : ((wa.setCell ⟨w1.heap.size, 7, none⟩ (.int .u8 Z)).setCell ⟨w1.heap.size, 10, none⟩ (.int .i64 ((X : Int) + 1))).cell? ⟨w.heap.size, 8, none⟩ = some (.bool false) := HQc.out.cell 8
        have z9 : ((wa.setCell ⟨w1.heap.size, 7, none⟩ (.int .u8 Z)).setCell ⟨w1.heap.size, 10, none⟩ (.int .i64 ((X : Int) + 1))).cell? ⟨w.heap.size, 9, none⟩ = some (.bool false) := HQc.out.cell 9
        have z10 : ((wa.setCell ⟨w1.heap.size, 7, none⟩ (.int .u8 Z)).setCell ⟨w1.heap.size, 10, none⟩ (.int .i64 ((X : Int) + 1))).cell? ⟨w.heap.size, 10, none⟩ = some (.int .i64 0) := HQc.out.cell 10
        have zf : ∀ j, ((wa.setCell ⟨w1.heap.size, 7, none⟩ (.int .u8 Z)).setCell ⟨w1.heap.size, 10, none⟩ (.int .i64 ((X : Int) + 1))).frozen? ⟨w.heap.size, j, none⟩ = false := HQc.out.frozen
        cases ok2
        · go_wp2_with fail
          generalize hW : World.setCell _ _ _ = W
          have hp : PcAt W w.heap.size #[.bool false, .bool false, .bool false, .bool false, .bool false, .int .i64 0, .int .i64 0, .int .u8 0, .bool false, .bool false, .int .i64 0] := by rw [← hW]; exact PcAt.all (show PcAt _ w.heap.size _ from HQc.out) _ _ _ _ _ _ _ _ _ _ _
          have hb : Below w.heap.size w W := by rw [← hW]; exact below_all HBc.out (Nat.le_refl _) _ _ _ _ _ _ _ _ _ _ _
          have hok : okP s k = false := by rw [HOK.out, ]; rfl
          rw [HQA1.out, HQE1.out, hok]
          clear hW z0 z1 z2 z3 z4 z5 z6 z7 z8 z9 z10 y0 y1 y2 y3 y4 y5 y6 y7 y8 y9 y10
          have k0 : W.cell? ⟨w.heap.size, 0, none⟩ = some (.bool false) := hp.cell 0
          have k1 : W.cell? ⟨w.heap.size, 1, none⟩ = some (.bool false) := hp.cell 1
          have k2 : W.cell? ⟨w.heap.size, 2, none⟩ = some (.bool false) := hp.cell 2
          have k3 : W.cell? ⟨w.heap.size, 3, none⟩ = some (.bool false) := hp.cell 3
          have k4 : W.cell? ⟨w.heap.size, 4, none⟩ = some (.bool false) := hp.cell 4
          have k5 : W.cell? ⟨w.heap.size, 5, none⟩ = some (.int .i64 0) := hp.cell 5
          have k6 : W.cell? ⟨w.heap.size, 6, none⟩ = some (.int .i64 0) := hp.cell 6
          have k7 : W.cell? ⟨w.heap.size, 7, none⟩ = some (.int .u8 0) := hp.cell 7
          have k8 : W.cell? ⟨w.heap.size, 8, none⟩ = some (.bool false) := hp.cell 8
          have k9 : W.cell? ⟨w.heap.size, 9, none⟩ = some (.bool false) := hp.cell 9
          have k10 : W.cell? ⟨w.heap.size, 10, none⟩ = some (.int .i64 0) := hp.cell 10
          clear hp
          exact bodyPost_ret (v := .tuple #[.agg #[.bool false, .bool false, .bool false, .bool false, .bool false, .int .i64 0, .int .i64 0, .int .u8 0, .bool false, .bool false, .int .i64 0], .int .i64 50]) (by simp [results, Tryz.results65, go_sem, *]) rfl ⟨rfl, hb⟩
        · rcases Nat.eq_zero_or_pos V with hV0 | hV0
          · obtain rfl : Z = 0 := by have := HZ.out; omega
            clear hV
            go_wp2_with fail
            generalize hW : World.setCell _ _ _ = W
            have hp : PcAt W w.heap.size #[.bool false, .bool false, .bool false, .bool false, .bool false, .int .i64 0, .int .i64 0, .int .u8 0, .bool false, .bool false, .int .i64 0] := by rw [← hW]; exact PcAt.all (show PcAt _ w.heap.size _ from HQc.out) _ _ _ _ _ _ _ _ _ _ _
            have hb : Below w.heap.size w W := by rw [← hW]; exact below_all HBc.out (Nat.le_refl _) _ _ _ _ _ _ _ _ _ _ _
            have hok : okP s k = false := by rw [HOK.out, hV0]; rfl
            rw [HQA1.out, HQE1.out, hok]
            clear hW z0 z1 z2 z3 z4 z5 z6 z7 z8 z9 z10 y0 y1 y2 y3 y4 y5 y6 y7 y8 y9 y10
            have k0 : W.cell? ⟨w.heap.size, 0, none⟩ = some (.bool false) := hp.cell 0
            have k1 : W.cell? ⟨w.heap.size, 1, none⟩ = some (.bool false) := hp.cell 1
            have k2 : W.cell? ⟨w.heap.size, 2, none⟩ = some (.bool false) := hp.cell 2
            have k3 : W.cell? ⟨w.heap.size, 3, none⟩ = some (.bool false) := hp.cell 3
            have k4 : W.cell? ⟨w.heap.size, 4, none⟩ = some (.bool false) := hp.cell 4
            have k5 : W.cell? ⟨w.heap.size, 5, none⟩ = some (.int .i64 0) := hp.cell 5
            have k6 : W.cell? ⟨w.heap.size, 6, none⟩ = some (.int .i64 0) := hp.cell 6
            have k7 : W.cell? ⟨w.heap.size, 7, none⟩ = some (.int .u8 0) := hp.cell 7
            have k8 : W.cell? ⟨w.heap.size, 8, none⟩ = some (.bool false) := hp.cell 8
            have k9 : W.cell? ⟨w.heap.size, 9, none⟩ = some (.bool false) := hp.cell 9
            have k10 : W.cell? ⟨w.heap.size, 10, none⟩ = some (.int .i64 0) := hp.cell 10
            clear hp
            exact bodyPost_ret (v := .tuple #[.agg #[.bool false, .bool false, .bool false, .bool false, .bool false, .int .i64 0, .int .i64 0, .int .u8 0, .bool false, .bool false, .int .i64 0], .int .i64 50]) (by simp [results, Tryz.results65, go_sem, *]) rfl ⟨rfl, hb⟩
          · have hVn : (Z == 0) = false := by have := HZ.out; simp; omega
            have hVb := Lib.hid (show (V != 0) = true from by simp; omega)
            clear hV0 hV
            go_wp2_with fail
            refine (HIX.out V Z _ HZ.out).mono ?_
            rintro e _ ⟨rfl, rfl⟩
            generalize ((wa.setCell ⟨w1.heap.size, 7, none⟩ (.int .u8 Z)).setCell ⟨w1.heap.size, 10, none⟩ (.int .i64 ((X : Int) + 1))) = Wc at *
            generalize ixB verbsB V = J at *
            rcases Int.lt_or_le J 0 with hJ | hJ
            · have hJb := Lib.hid (show decide (0 ≤ J) = false from by simp; omega)
              go_wp2_with fail
              generalize hW : World.setCell _ _ _ = W
              have hp : PcAt W w.heap.size #[.bool false, .bool false, .bool false, .bool false, .bool false, .int .i64 0, .int .i64 0, .int .u8 0, .bool false, .bool false, .int .i64 0] := by rw [← hW]; exact PcAt.all (show PcAt _ w.heap.size _ from HQc.out) _ _ _ _ _ _ _ _ _ _ _
              have hb : Below w.heap.size w W := by rw [← hW]; exact below_all HBc.out (Nat.le_refl _) _ _ _ _ _ _ _ _ _ _ _
              have hok : okP s k = false := by rw [HOK.out, hVb.out, hJb.out]; rfl
              rw [HQA1.out, HQE1.out, hok]
              clear hW z0 z1 z2 z3 z4 z5 z6 z7 z8 z9 z10 y0 y1 y2 y3 y4 y5 y6 y7 y8 y9 y10
              have k0 : W.cell? ⟨w.heap.size, 0, none⟩ = some (.bool false) := hp.cell 0
              have k1 : W.cell? ⟨w.heap.size, 1, none⟩ = some (.bool false) := hp.cell 1
              have k2 : W.cell? ⟨w.heap.size, 2, none⟩ = some (.bool false) := hp.cell 2
              have k3 : W.cell? ⟨w.heap.size, 3, none⟩ = some (.bool false) := hp.cell 3
              have k4 : W.cell? ⟨w.heap.size, 4, none⟩ = some (.bool false) := hp.cell 4
              have k5 : W.cell? ⟨w.heap.size, 5, none⟩ = some (.int .i64 0) := hp.cell 5
              have k6 : W.cell? ⟨w.heap.size, 6, none⟩ = some (.int .i64 0) := hp.cell 6
              have k7 : W.cell? ⟨w.heap.size, 7, none⟩ = some (.int .u8 0) := hp.cell 7
              have k8 : W.cell? ⟨w.heap.size, 8, none⟩ = some (.bool false) := hp.cell 8
              have k9 : W.cell? ⟨w.heap.size, 9, none⟩ = some (.bool false) := hp.cell 9
              have k10 : W.cell? ⟨w.heap.size, 10, none⟩ = some (.int .i64 0) := hp.cell 10
              clear hp
              exact bodyPost_ret (v := .tuple #[.agg #[.bool false, .bool false, .bool false, .bool false, .bool false, .int .i64 0, .int .i64 0, .int .u8 0, .bool false, .bool false, .int .i64 0], .int .i64 50]) (by simp [results, Tryz.results65, go_sem, *]) rfl ⟨rfl, hb⟩
            · have hJb := Lib.hid (show decide (0 ≤ J) = true from by simp; omega)
              have hJn : decide (J < 0) = false := by simp; omega
              clear hJ
              go_wp2_with fail
              generalize hW : World.setCell _ _ _ = W
              have hp : PcAt W w.heap.size #[.bool fm, .bool fp1, .bool fb, .bool fa, .bool fz, .int .i64 n1, .int .i64 n2, .int .u8 Z, .bool st1, .bool st2, .int .i64 ((X : Int) + 1)] := by rw [← hW]; exact PcAt.all (show PcAt _ w.heap.size _ from HQc.out) _ _ _ _ _ _ _ _ _ _ _
              have hb : Below w.heap.size w W := by rw [← hW]; exact below_all HBc.out (Nat.le_refl _) _ _ _ _ _ _ _ _ _ _ _
              have hok : okP s k = true := by rw [HOK.out, hVb.out, hJb.out]; rfl
              rw [HQA1.out, HQE1.out, hok]
              clear hW z0 z1 z2 z3 z4 z5 z6 z7 z8 z9 z10 y0 y1 y2 y3 y4 y5 y6 y7 y8 y9 y10
              have k0 : W.cell? ⟨w.heap.size, 0, none⟩ = some (.bool fm) := hp.cell 0
              have k1 : W.cell? ⟨w.heap.size, 1, none⟩ = some (.bool fp1) := hp.cell 1
              have k2 : W.cell? ⟨w.heap.size, 2, none⟩ = some (.bool fb) := hp.cell 2
              have k3 : W.cell? ⟨w.heap.size, 3, none⟩ = some (.bool fa) := hp.cell 3
              have k4 : W.cell? ⟨w.heap.size, 4, none⟩ = some (.bool fz) := hp.cell 4
              have k5 : W.cell? ⟨w.heap.size, 5, none⟩ = some (.int .i64 n1) := hp.cell 5
              have k6 : W.cell? ⟨w.heap.size, 6, none⟩ = some (.int .i64 n2) := hp.cell 6
              have k7 : W.cell? ⟨w.heap.size, 7, none⟩ = some (.int .u8 Z) := hp.cell 7
              have k8 : W.cell? ⟨w.heap.size, 8, none⟩ = some (.bool st1) := hp.cell 8
              have k9 : W.cell? ⟨w.heap.size, 9, none⟩ = some (.bool st2) := hp.cell 9
              have k10 : W.cell? ⟨w.heap.size, 10, none⟩ = some (.int .i64 ((X : Int) + 1)) := hp.cell 10
              clear hp
              exact bodyPost_ret (v := .tuple #[.agg #[.bool fm, .bool fp1, .bool fb, .bool fa, .bool fz, .int .i64 n1, .int .i64 n2, .int .u8 Z, .bool st1, .bool st2, .int .i64 ((X : Int) + 1)], .int .i64 0]) (by simp [results, Tryz.results65, go_sem, *]) rfl ⟨rfl, hb⟩
    · have hCn : ((C : Int) == 46) = false := by simp; omega
      have hCb : (C == 46) = false := by simp; omega
      have HF1 : Hid (fp s k = (-1, false, ok1, 0)) := by show _ = _; rw [HFP.out, HDP.out, hCb]; rfl
      have HV1 : Hid (pv s k = D) := by show _ = _; rw [HPV.out, HDP.out, hCb]; rfl
      clear HFP HPV HDP HDL hC hCb
      go_wp2_with fail
      rw [← HV1.out] at HR5
      have HRt := HR5
      have HPt := HP5
      have HQt := HQ5
      have HBt := HB5
      have HNt := Lib.hid (next_any s (pv s k : Nat) (w.heap.size + 1) w5 HRt.out)
      rw [chr_nat] at HNt
      refine HNt.out.mono ?_
      rintro e wa ⟨rfl, hb⟩
      have hza := hb.size
      try simp only [World.size_setCell] at hza
      have HRa := Lib.hid (HRt.out.below hb)
      have HPa := Lib.hid (HPt.out.below hb)
      have HQa := Lib.hid (HQt.out.below hb)
      have HBa := Lib.hid (HBt.out.trans (hb.mono (by first | omega | (simp only [World.size_setCell]; omega))))
      have hV := ch_lt s (pv s k)
      have hX : pv s k ≤ 700000000000000 := by rw [HV1.out]; exact hDle
      generalize ch s (pv s k) = V at *
      generalize pv s k = X at *
      rw [show ((X + 1 : Nat) : Int) = (X : Int) + 1 from by omega] at HQA1
      generalize hZ : ((V : Nat) : Int) = Z at *
      have HZ := Lib.hid hZ
      clear hZ
      clear hb HNt HRt HPt HQt HBt
      have k7 : wa.cell? ⟨w1.heap.size, 7, none⟩ = some (.int .u8 0) := HPa.out.cell 7
      have kfa : ∀ j, wa.frozen? ⟨w1.heap.size, j, none⟩ = false := HPa.out.frozen
      have q1 : (wa.setCell ⟨w1.heap.size, 7, none⟩ (.int .u8 Z)).cell? ⟨w.heap.size + 1, 1, none⟩ = some (.int .i64 (X : Nat)) := (HRa.out.other 7 _ (by omega)).c1
      have q2 : (wa.setCell ⟨w1.heap.size, 7, none⟩ (.int .u8 Z)).cell? ⟨w1.heap.size, 10, none⟩ = some (.int .i64 0) := (HPa.out.set 7 _).cell 10
      have HPc := Lib.hid (show PcAt ((wa.setCell ⟨w1.heap.size, 7, none⟩ (.int .u8 Z)).setCell ⟨w1.heap.size, 10, none⟩ (.int .i64 ((X : Int) + 1))) w1.heap.size (pieceA fm fp1 fb fa fz n1 (-1) Z st1 false ((X : Int) + 1)) from (HPa.out.set 7 _).set 10 _)
      have HQc := Lib.hid (show PcAt ((wa.setCell ⟨w1.heap.size, 7, none⟩ (.int .u8 Z)).setCell ⟨w1.heap.size, 10, none⟩ (.int .i64 ((X : Int) + 1))) w.heap.size zeroA from (HQa.out.other 7 _ (by omega)).other 10 _ (by omega))
      have HBc := Lib.hid (show Below w.heap.size w ((wa.setCell ⟨w1.heap.size, 7, none⟩ (.int .u8 Z)).setCell ⟨w1.heap.size, 10, none⟩ (.int .i64 ((X : Int) + 1))) from (HBa.out.setCell (p := ⟨w1.heap.size, 7, none⟩) (by simp; omega) _).setCell (p := ⟨w1.heap.size, 10, none⟩) (by simp; omega) _)
      have y0 : ((wa.setCell ⟨w1.heap.size, 7, none⟩ (.int .u8 Z)).setCell ⟨w1.heap.size, 10, none⟩ (.int .i64 ((X : Int) + 1))).cell? ⟨w1.heap.size, 0, none⟩ = some (.bool fm) := HPc.out.cell 0
      have y1 : ((wa.setCell ⟨w1.heap.size, 7, none⟩ (.int .u8 Z)).setCell ⟨w1.heap.size, 10, none⟩ (.int .i64 ((X : Int) + 1))).cell? ⟨w1.heap.size, 1, none⟩ = some (.bool fp1) := HPc.out.cell 1
      have y2 : ((wa.setCell ⟨w1.heap.size, 7, none⟩ (.int .u8 Z)).setCell ⟨w1.heap.size, 10, none⟩ (.int .i64 ((X : Int) + 1))).cell? ⟨w1.heap.size, 2, none⟩ = some (.bool fb) := HPc.out.cell 2
      have y3 : ((wa.setCell ⟨w1.heap.size, 7, none⟩ (.int .u8 Z)).setCell ⟨w1.heap.size, 10, none⟩ (.int .i64 ((X : Int) + 1))).cell? ⟨w1.heap.size, 3, none⟩ = some (.bool fa) := HPc.out.cell 3
      have y4 : ((wa.setCell ⟨w1.heap.size, 7, none⟩ (.int .u8 Z)).setCell ⟨w1.heap.size, 10, none⟩ (.int .i64 ((X : Int) + 1))).cell? ⟨w1.heap.size, 4, none⟩ = some (.bool fz) := HPc.out.cell 4
      have y5 : ((wa.setCell ⟨w1.heap.size, 7, none⟩ (.int .u8 Z)).setCell ⟨w1.heap.size, 10, none⟩ (.int .i64 ((X : Int) + 1))).cell? ⟨w1.heap.size, 5, none⟩ = some (.int .i64 n1) := HPc.out.cell 5
      have y6 : ((wa.setCell ⟨w1.heap.size, 7, none⟩ (.int .u8 Z)).setCell ⟨w1.heap.size, 10, none⟩ (.int .i64 ((X : Int) + 1))).cell? ⟨w1.heap.size, 6, none⟩ = some (.int .i64 (-1)) := HPc.out.cell 6
      have y7 : ((wa.setCell ⟨w1.heap.size, 7, none⟩ (.int .u8 Z)).setCell ⟨w1.heap.size, 10, none⟩ (.int .i64 ((X : Int) + 1))).cell? ⟨w1.heap.size, 7, none⟩ = some (.int .u8 Z) := HPc.out.cell 7
      have y8 : ((wa.setCell ⟨w1.heap.size, 7, none⟩ (.int .u8 Z)).setCell ⟨w1.heap.size, 10, none⟩ (.int .i64 ((X : Int) + 1))).cell? ⟨w1.heap.size, 8, none⟩ = some (.bool st1) := HPc.out.cell 8
      have y9 : ((wa.setCell ⟨w1.heap.size, 7, none⟩ (.int .u8 Z)).setCell ⟨w1.heap.size, 10, none⟩ (.int .i64 ((X : Int) + 1))).cell? ⟨w1.heap.size, 9, none⟩ = some (.bool false) := HPc.out.cell 9
      have y10 : ((wa.setCell ⟨w1.heap.size, 7, none⟩ (.int .u8 Z)).setCell ⟨w1.heap.size, 10, none⟩ (.int .i64 ((X : Int) + 1))).cell? ⟨w1.heap.size, 10, none⟩ = some (.int .i64 ((X : Int) + 1)) := HPc.out.cell 10
      have z0 : ((wa.setCell ⟨w1.heap.size, 7, none⟩ (.int .u8 Z)).setCell ⟨w1.heap.size, 10, none⟩ (.int .i64 ((X : Int) + 1))).cell? ⟨w.heap.size, 0, none⟩ = some (.bool false) := HQc.out.cell 0
      have z1 : ((wa.setCell ⟨w1.heap.size, 7, none⟩ (.int .u8 Z)).setCell ⟨w1.heap.size, 10, none⟩ (.int .i64 ((X : Int) + 1))).cell? ⟨w.heap.size, 1, none⟩ = some (.bool false) := HQc.out.cell 1
      have z2 : ((wa.setCell ⟨w1.heap.size, 7, none⟩ (.int .u8 Z)).setCell ⟨w1.heap.size, 10, none⟩ (.int .i64 ((X : Int) + 1))).cell? ⟨w.heap.size, 2, none⟩ = some (.bool false) := HQc.out.cell 2
      have z3 : ((wa.setCell ⟨w1.heap.size, 7, none⟩ (.int .u8 Z)).setCell ⟨w1.heap.size, 10, none⟩ (.int .i64 ((X : Int) + 1))).cell? ⟨w.heap.size, 3, none⟩ = some (.bool false) := HQc.out.cell 3
      have z4 : ((wa.setCell ⟨w1.heap.size, 7, none⟩ (.int .u8 Z)).setCell ⟨w1.heap.size, 10, none⟩ (.int .i64 ((X : Int) + 1))).cell? ⟨w.heap.size, 4, none⟩ = some (.bool false) := HQc.out.cell 4
      have z5 : ((wa.setCell ⟨w1.heap.size, 7, none⟩ (.int .u8 Z)).setCell ⟨w1.heap.size, 10, none⟩ (.int .i64 ((X : Int) + 1))).cell? ⟨w.heap.size, 5, none⟩ = some (.int .i64 0) := HQc.out.cell 5
      have z6 : ((wa.setCell ⟨w1.heap.size, 7, none⟩ (.int .u8 Z)).setCell ⟨w1.heap.size, 10, none⟩ (.int .i64 ((X : Int) + 1))).cell? ⟨w.heap.size, 6, none⟩ = some (.int .i64 0) := HQc.out.cell 6
      have z7 : ((wa.setCell ⟨w1.heap.size, 7, none⟩ (.int .u8 Z)).setCell ⟨w1.heap.size, 10, none⟩ (.int .i64 ((X : Int) + 1))).cell? ⟨w.heap.size, 7, none⟩ = some (.int .u8 0) := HQc.out.cell 7
      have z8 : ((wa.setCell ⟨w1.heap.size, 7, none⟩ (.int .u8 Z)).setCell ⟨w1.heap.size, 10, none⟩ (.int .i64 ((X : Int) + 1))).cell? ⟨w.heap.size, 8, none⟩ = some (.bool false) := HQc.out.cell 8
      have z9 : ((wa.setCell ⟨w1.heap.size, 7, none⟩ (.int .u8 Z)).setCell ⟨w1.heap.size, 10, none⟩ (.int .i64 ((X : Int) + 1))).cell? ⟨w.heap.size, 9, none⟩ = some (.bool false) := HQc.out.cell 9
      have z10 : ((wa.setCell ⟨w1.heap.size, 7, none⟩ (.int .u8 Z)).setCell ⟨w1.heap.size, 10, none⟩ (.int .i64 ((X : Int) + 1))).cell? ⟨w.heap.size, 10, none⟩ = some (.int .i64 0) := HQc.out.cell 10
      have zf : ∀ j, ((wa.setCell ⟨w1.heap.size, 7, none⟩ (.int .u8 Z)).setCell ⟨w1.heap.size, 10, none⟩ (.int .i64 ((X : Int) + 1))).frozen? ⟨w.heap.size, j, none⟩ = false := HQc.out.frozen
      cases ok1
      · go_wp2_with fail
        generalize hW : World.setCell _ _ _ = W
        have hp : PcAt W w.heap.size #[.bool false, .bool false, .bool false, .bool false, .bool false, .int .i64 0, .int .i64 0, .int .u8 0, .bool false, .bool false, .int .i64 0] := by rw [← hW]; exact PcAt.all (show PcAt _ w.heap.size _ from HQc.out) _ _ _ _ _ _ _ _ _ _ _
        have hb : Below w.heap.size w W := by rw [← hW]; exact below_all HBc.out (Nat.le_refl _) _ _ _ _ _ _ _ _ _ _ _
        have hok : okP s k = false := by rw [HOK.out, HF1.out]; rfl
        (rw [HQA1.out, HQE1.out, hok]; try rw [HF1.out])
        clear hW z0 z1 z2 z3 z4 z5 z6 z7 z8 z9 z10 y0 y1 y2 y3 y4 y5 y6 y7 y8 y9 y10
        have k0 : W.cell? ⟨w.heap.size, 0, none⟩ = some (.bool false) := hp.cell 0
        have k1 : W.cell? ⟨w.heap.size, 1, none⟩ = some (.bool false) := hp.cell 1
        have k2 : W.cell? ⟨w.heap.size, 2, none⟩ = some (.bool false) := hp.cell 2
        have k3 : W.cell? ⟨w.heap.size, 3, none⟩ = some (.bool false) := hp.cell 3
        have k4 : W.cell? ⟨w.heap.size, 4, none⟩ = some (.bool false) := hp.cell 4
        have k5 : W.cell? ⟨w.heap.size, 5, none⟩ = some (.int .i64 0) := hp.cell 5
        have k6 : W.cell? ⟨w.heap.size, 6, none⟩ = some (.int .i64 0) := hp.cell 6
        have k7 : W.cell? ⟨w.heap.size, 7, none⟩ = some (.int .u8 0) := hp.cell 7
        have k8 : W.cell? ⟨w.heap.size, 8, none⟩ = some (.bool false) := hp.cell 8
        have k9 : W.cell? ⟨w.heap.size, 9, none⟩ = some (.bool false) := hp.cell 9
        have k10 : W.cell? ⟨w.heap.size, 10, none⟩ = some (.int .i64 0) := hp.cell 10
        clear hp
        exact bodyPost_ret (v := .tuple #[.agg #[.bool false, .bool false, .bool false, .bool false, .bool false, .int .i64 0, .int .i64 0, .int .u8 0, .bool false, .bool false, .int .i64 0], .int .i64 50]) (by simp [results, Tryz.results65, go_sem, *]) rfl ⟨rfl, hb⟩
      · rcases Nat.eq_zero_or_pos V with hV0 | hV0
        · obtain rfl : Z = 0 := by have := HZ.out; omega
          clear hV
          go_wp2_with fail
          generalize hW : World.setCell _ _ _ = W
          have hp : PcAt W w.heap.size #[.bool false, .bool false, .bool false, .bool false, .bool false, .int .i64 0, .int .i64 0, .int .u8 0, .bool false, .bool false, .int .i64 0] := by rw [← hW]; exact PcAt.all (show PcAt _ w.heap.size _ from HQc.out) _ _ _ _ _ _ _ _ _ _ _
          have hb : Below w.heap.size w W := by rw [← hW]; exact below_all HBc.out (Nat.le_refl _) _ _ _ _ _ _ _ _ _ _ _
          have hok : okP s k = false := by rw [HOK.out, HF1.out, hV0]; rfl
          (rw [HQA1.out, HQE1.out, hok]; try rw [HF1.out])
          clear hW z0 z1 z2 z3 z4 z5 z6 z7 z8 z9 z10 y0 y1 y2 y3 y4 y5 y6 y7 y8 y9 y10
          have k0 : W.cell? ⟨w.heap.size, 0, none⟩ = some (.bool false) := hp.cell 0
          have k1 : W.cell? ⟨w.heap.size, 1, none⟩ = some (.bool false) := hp.cell 1
          have k2 : W.cell? ⟨w.heap.size, 2, none⟩ = some (.bool false) := hp.cell 2
          have k3 : W.cell? ⟨w.heap.size, 3, none⟩ = some (.bool false) := hp.cell 3
          have k4 : W.cell? ⟨w.heap.size, 4, none⟩ = some (.bool false) := hp.cell 4
          have k5 : W.cell? ⟨w.heap.size, 5, none⟩ = some (.int .i64 0) := hp.cell 5
          have k6 : W.cell? ⟨w.heap.size, 6, none⟩ = some (.int .i64 0) := hp.cell 6
          have k7 : W.cell? ⟨w.heap.size, 7, none⟩ = some (.int .u8 0) := hp.cell 7
          have k8 : W.cell? ⟨w.heap.size, 8, none⟩ = some (.bool false) := hp.cell 8
          have k9 : W.cell? ⟨w.heap.size, 9, none⟩ = some (.bool false) := hp.cell 9
          have k10 : W.cell? ⟨w.heap.size, 10, none⟩ = some (.int .i64 0) := hp.cell 10
          clear hp
          exact bodyPost_ret (v := .tuple #[.agg #[.bool false, .bool false, .bool false, .bool false, .bool false, .int .i64 0, .int .i64 0, .int .u8 0, .bool false, .bool false, .int .i64 0], .int .i64 50]) (by simp [results, Tryz.results65, go_sem, *]) rfl ⟨rfl, hb⟩
        · have hVn : (Z == 0) = false := by have := HZ.out; simp; omega
          have hVb := Lib.hid (show (V != 0) = true from by simp; omega)
          clear hV0 hV
          go_wp2_with fail
          refine (HIX.out V Z _ HZ.out).mono ?_
          rintro e _ ⟨rfl, rfl⟩
          generalize ((wa.setCell ⟨w1.heap.size, 7, none⟩ (.int .u8 Z)).setCell ⟨w1.heap.size, 10, none⟩ (.int .i64 ((X : Int) + 1))) = Wc at *
          generalize ixB verbsB V = J at *
          rcases Int.lt_or_le J 0 with hJ | hJ
          · have hJb := Lib.hid (show decide (0 ≤ J) = false from by simp; omega)
            go_wp2_with fail
            generalize hW : World.setCell _ _ _ = W
            have hp : PcAt W w.heap.size #[.bool false, .bool false, .bool false, .bool false, .bool false, .int .i64 0, .int .i64 0, .int .u8 0, .bool false, .bool false, .int .i64 0] := by rw [← hW]; exact PcAt.all (show PcAt _ w.heap.size _ from HQc.out) _ _ _ _ _ _ _ _ _ _ _
            have hb : Below w.heap.size w W := by rw [← hW]; exact below_all HBc.out (Nat.le_refl _) _ _ _ _ _ _ _ _ _ _ _
            have hok : okP s k = false := by rw [HOK.out, HF1.out, hVb.out, hJb.out]; rfl
            (rw [HQA1.out, HQE1.out, hok]; try rw [HF1.out])
            clear hW z0 z1 z2 z3 z4 z5 z6 z7 z8 z9 z10 y0 y1 y2 y3 y4 y5 y6 y7 y8 y9 y10
            have k0 : W.cell? ⟨w.heap.size, 0, none⟩ = some (.bool false) := hp.cell 0
            have k1 : W.cell? ⟨w.heap.size, 1, none⟩ = some (.bool false) := hp.cell 1
            have k2 : W.cell? ⟨w.heap.size, 2, none⟩ = some (.bool false) := hp.cell 2
            have k3 : W.cell? ⟨w.heap.size, 3, none⟩ = some (.bool false) := hp.cell 3
            have k4 : W.cell? ⟨w.heap.size, 4, none⟩ = some (.bool false) := hp.cell 4
            have k5 : W.cell? ⟨w.heap.size, 5, none⟩ = some (.int .i64 0) := hp.cell 5
            have k6 : W.cell? ⟨w.heap.size, 6, none⟩ = some (.int .i64 0) := hp.cell 6
            have k7 : W.cell? ⟨w.heap.size, 7, none⟩ = some (.int .u8 0) := hp.cell 7
            have k8 : W.cell? ⟨w.heap.size, 8, none⟩ = some (.bool false) := hp.cell 8
            have k9 : W.cell? ⟨w.heap.size, 9, none⟩ = some (.bool false) := hp.cell 9
            have k10 : W.cell? ⟨w.heap.size, 10, none⟩ = some (.int .i64 0) := hp.cell 10
            clear hp
            exact bodyPost_ret (v := .tuple #[.agg #[.bool false, .bool false, .bool false, .bool false, .bool false, .int .i64 0, .int .i64 0, .int .u8 0, .bool false, .bool false, .int .i64 0], .int .i64 50]) (by simp [results, Tryz.results65, go_sem, *]) rfl ⟨rfl, hb⟩
          · have hJb := Lib.hid (show decide (0 ≤ J) = true from by simp; omega)
            have hJn : decide (J < 0) = false := by simp; omega
            clear hJ
            go_wp2_with fail
            generalize hW : World.setCell _ _ _ = W
            have hp : PcAt W w.heap.size #[.bool fm, .bool fp1, .bool fb, .bool fa, .bool fz, .int .i64 n1, .int .i64 (-1), .int .u8 Z, .bool st1, .bool false, .int .i64 ((X : Int) + 1)] := by rw [← hW]; exact PcAt.all (show PcAt _ w.heap.size _ from HQc.out) _ _ _ _ _ _ _ _ _ _ _
            have hb : Below w.heap.size w W := by rw [← hW]; exact below_all HBc.out (Nat.le_refl _) _ _ _ _ _ _ _ _ _ _ _
            have hok : okP s k = true := by rw [HOK.out, HF1.out, hVb.out, hJb.out]; rfl
            (rw [HQA1.out, HQE1.out, hok]; try rw [HF1.out])
            clear hW z0 z1 z2 z3 z4 z5 z6 z7 z8 z9 z10 y0 y1 y2 y3 y4 y5 y6 y7 y8 y9 y10
            have k0 : W.cell? ⟨w.heap.size, 0, none⟩ = some (.bool fm) := hp.cell 0
            have k1 : W.cell? ⟨w.heap.size, 1, none⟩ = some (.bool fp1) := hp.cell 1
            have k2 : W.cell? ⟨w.heap.size, 2, none⟩ = some (.bool fb) := hp.cell 2
            have k3 : W.cell? ⟨w.heap.size, 3, none⟩ = some (.bool fa) := hp.cell 3
            have k4 : W.cell? ⟨w.heap.size, 4, none⟩ = some (.bool fz) := hp.cell 4
            have k5 : W.cell? ⟨w.heap.size, 5, none⟩ = some (.int .i64 n1) := hp.cell 5
            have k6 : W.cell? ⟨w.heap.size, 6, none⟩ = some (.int .i64 (-1)) := hp.cell 6
            have k7 : W.cell? ⟨w.heap.size, 7, none⟩ = some (.int .u8 Z) := hp.cell 7
            have k8 : W.cell? ⟨w.heap.size, 8, none⟩ = some (.bool st1) := hp.cell 8
            have k9 : W.cell? ⟨w.heap.size, 9, none⟩ = some (.bool false) := hp.cell 9
            have k10 : W.cell? ⟨w.heap.size, 10, none⟩ = some (.int .i64 ((X : Int) + 1)) := hp.cell 10
            clear hp
            exact bodyPost_ret (v := .tuple #[.agg #[.bool fm, .bool fp1, .bool fb, .bool fa, .bool fz, .int .i64 n1, .int .i64 (-1), .int .u8 Z, .bool st1, .bool false, .int .i64 ((X : Int) + 1)], .int .i64 0]) (by simp [results, Tryz.results65, go_sem, *]) rfl ⟨rfl, hb⟩
  · rw [if_neg (fun h => h37 h.1)] at HQA HQE
    have hb37 : ((chr s i : Int) == 37) = false := by simp; omega
    generalize chr s i = c at *
    clear h37
    go_enter Tryz.func65, Tryz.ntmps65
    go_wp2_with fail
    have hr0 : RdAt ((w.alloc (.cells #[.bool false, .bool false, .bool false, .bool false, .bool false, .int .i64 0, .int .i64 0, .int .u8 0, .bool false, .bool false, .int .i64 0] 101)).alloc (.cells #[.string s, .int .i64 i] 172)) (w.heap.size + 1) s i := by
      have h := heap_alloc_at (w.alloc (.cells #[.bool false, .bool false, .bool false, .bool false, .bool false, .int .i64 0, .int .i64 0, .int .u8 0, .bool false, .bool false, .int .i64 0] 101)) (.cells #[.string s, .int .i64 i] 172)
      rw [World.size_alloc] at h
      exact h
    have hp0 : PcAt ((w.alloc (.cells #[.bool false, .bool false, .bool false, .bool false, .bool false, .int .i64 0, .int .i64 0, .int .u8 0, .bool false, .bool false, .int .i64 0] 101)).alloc (.cells #[.string s, .int .i64 i] 172)) w.heap.size zeroA :=
      (heap_alloc_lt _ _ _ (by simp)).trans (heap_alloc_at w _)
    have hB0 : Below w.heap.size w ((w.alloc (.cells #[.bool false, .bool false, .bool false, .bool false, .bool false, .int .i64 0, .int .i64 0, .int .u8 0, .bool false, .bool false, .int .i64 0] 101)).alloc (.cells #[.string s, .int .i64 i] 172)) := ((Below.refl _ _).alloc (Nat.le_refl _) _).alloc (by simp) _
    refine (HX.out (w.heap.size + 1) _ hr0).mono ?_
    rintro e w1 ⟨rfl, hb⟩
    have HP1 := Lib.hid (hp0.below hb)
    have HB1 := Lib.hid (hB0.trans (hb.mono hB0.size))
    have k0 : w1.cell? ⟨w.heap.size, 0, none⟩ = some (.bool false) := HP1.out.cell 0
    have k1 : w1.cell? ⟨w.heap.size, 1, none⟩ = some (.bool false) := HP1.out.cell 1
    have k2 : w1.cell? ⟨w.heap.size, 2, none⟩ = some (.bool false) := HP1.out.cell 2
    have k3 : w1.cell? ⟨w.heap.size, 3, none⟩ = some (.bool false) := HP1.out.cell 3
    have k4 : w1.cell? ⟨w.heap.size, 4, none⟩ = some (.bool false) := HP1.out.cell 4
    have k5 : w1.cell? ⟨w.heap.size, 5, none⟩ = some (.int .i64 0) := HP1.out.cell 5
    have k6 : w1.cell? ⟨w.heap.size, 6, none⟩ = some (.int .i64 0) := HP1.out.cell 6
    have k7 : w1.cell? ⟨w.heap.size, 7, none⟩ = some (.int .u8 0) := HP1.out.cell 7
    have k8 : w1.cell? ⟨w.heap.size, 8, none⟩ = some (.bool false) := HP1.out.cell 8
    have k9 : w1.cell? ⟨w.heap.size, 9, none⟩ = some (.bool false) := HP1.out.cell 9
    have k10 : w1.cell? ⟨w.heap.size, 10, none⟩ = some (.int .i64 0) := HP1.out.cell 10
    have kf : ∀ j, w1.frozen? ⟨w.heap.size, j, none⟩ = false := fun j => HP1.out.frozen j
    clear hr0 hp0 hB0 hb
    go_wp2_with fail
    generalize hW : World.setCell _ _ _ = W
    have hp : PcAt W w.heap.size zeroA := by rw [← hW]; exact PcAt.all (show PcAt w1 w.heap.size _ from HP1.out) _ _ _ _ _ _ _ _ _ _ _
    have hb : Below w.heap.size w W := by rw [← hW]; exact below_all HB1.out (Nat.le_refl _) _ _ _ _ _ _ _ _ _ _ _
    clear hW k0 k1 k2 k3 k4 k5 k6 k7 k8 k9 k10 kf
    have k0 : W.cell? ⟨w.heap.size, 0, none⟩ = some (.bool false) := hp.cell 0
    have k1 : W.cell? ⟨w.heap.size, 1, none⟩ = some (.bool false) := hp.cell 1
    have k2 : W.cell? ⟨w.heap.size, 2, none⟩ = some (.bool false) := hp.cell 2
    have k3 : W.cell? ⟨w.heap.size, 3, none⟩ = some (.bool false) := hp.cell 3
    have k4 : W.cell? ⟨w.heap.size, 4, none⟩ = some (.bool false) := hp.cell 4
    have k5 : W.cell? ⟨w.heap.size, 5, none⟩ = some (.int .i64 0) := hp.cell 5
    have k6 : W.cell? ⟨w.heap.size, 6, none⟩ = some (.int .i64 0) := hp.cell 6
    have k7 : W.cell? ⟨w.heap.size, 7, none⟩ = some (.int .u8 0) := hp.cell 7
    have k8 : W.cell? ⟨w.heap.size, 8, none⟩ = some (.bool false) := hp.cell 8
    have k9 : W.cell? ⟨w.heap.size, 9, none⟩ = some (.bool false) := hp.cell 9
    have k10 : W.cell? ⟨w.heap.size, 10, none⟩ = some (.int .i64 0) := hp.cell 10
    clear hp
    rw [HQA.out, HQE.out]
    exact bodyPost_ret (v := .tuple #[.agg #[.bool false, .bool false, .bool false, .bool false, .bool false, .int .i64 0, .int .i64 0, .int .u8 0, .bool false, .bool false, .int .i64 0], .int .i64 50]) (by simp [results, Tryz.results65, go_sem, *]) rfl ⟨rfl, hb⟩
end Go.Proofs.YtfdnhkjeoeffoaaGreatDoor
end

section
/- Plain: half a digit below and above what is written. -/
namespace Go.Proofs.YtfdnhkjeoeffoaaGreatDoor
open Go

end Go.Proofs.YtfdnhkjeoeffoaaGreatDoor
end

section
/- thresherlaw03: DecBack; math.IsNaN, math.IsInf. -/
namespace Go.Proofs.YtfdnhkjeoeffoaaGreatDoor
open Go.RowKit
set_option linter.unusedVariables false

theorem read_nan {b : Nat} (h : 9218868437227405312 < b) (h2 : b < 9223372036854775808) : ∃ f, FloatKind.f64.format.read b = .nan false f := by
  have e1 : FloatKind.f64.format.signWeight = 9223372036854775808 := by decide
  have e2 : FloatKind.f64.format.binade = 4503599627370496 := by decide
  have e3 : FloatKind.f64.format.infRung = 9218868437227405312 := by decide
  have e5 : (b / 9223372036854775808 % 2 == 1) = false := by rw [Nat.div_eq_of_lt (by omega)]; rfl
  have e6 : b % 9223372036854775808 = b := Nat.mod_eq_of_lt (by omega)
  unfold Ieee.Format.read
  simp only [e1, e2, e3, e5, e6]
  rw [if_neg (by omega), if_neg (by omega), if_neg (by omega)]
  exact ⟨_, rfl⟩
theorem order_nan {b : Nat} (c : Nat) (h : 9218868437227405312 < b) (h2 : b < 9223372036854775808) : FloatKind.f64.format.order b c = none := by
  obtain ⟨f, hf⟩ := read_nan h h2
  unfold Ieee.Format.order
  rw [hf]
  cases FloatKind.f64.format.read c <;> rfl

end Go.Proofs.YtfdnhkjeoeffoaaGreatDoor
end

section
/- Plain: whole numbers below 2^53 as floats. -/
namespace Go.Proofs.YtfdnhkjeoeffoaaGreatDoor
open Go

theorem kk_pos : 0 < kk := by unfold kk; exact pow2_pos _
theorem places {k : Nat} (h : k ≤ 52) : 52 - k + (k + 1022) = bias := by
  obtain ⟨d, hd⟩ : ∃ d, d = 52 - k := ⟨_, rfl⟩
  rw [← hd]
  have h2 : d + k = 52 := by omega
  rw [← Nat.add_assoc, h2]
  rfl
theorem whole_bits {n : Nat} (h : n < 9007199254740992) : FloatKind.f64.nearest (n : Int) < 9218868437227405312 ∧ mof (FloatKind.f64.nearest (n : Int)) * 2 ^ jof (FloatKind.f64.nearest (n : Int)) = n * kk := by
  have e2 : FloatKind.f64.format.binade = 4503599627370496 := by decide
  have e3 : FloatKind.f64.format.infRung = 9218868437227405312 := by decide
  have e4 : FloatKind.f64.format.leastPlace = -1074 := by decide
  have e5 : FloatKind.f64.format.fractionBits = 52 := by decide
  have e6 : FloatKind.f64.nearest (n : Int) = FloatKind.f64.format.nearest false n 0 := by
    unfold FloatKind.nearest FloatKind.encode Ieee.Format.write
    simp
    rw [decide_eq_false (by omega)]
  rw [e6]
  unfold Ieee.Format.nearest
  by_cases h0 : n = 0
  · subst h0
    rw [if_pos rfl]
    have e7 : FloatKind.f64.format.word false 0 = 0 := by decide
    rw [e7]
    refine ⟨by decide, ?_⟩
    rw [show mof 0 = 0 by decide, Nat.zero_mul, Nat.zero_mul]
  · rw [if_neg h0]
    have hlog := Nat.log2_lt h0 (k := 53)
    have hl1 : n.log2 < 53 := hlog.2 h
    have hl2 : 2 ^ n.log2 ≤ n := Nat.log2_self_le h0
    have hl3 : n < 2 ^ (n.log2 + 1) := Nat.lt_log2_self
    generalize n.log2 = k at *
    simp only [e2, e3, e4, e5]
    have e8 : max ((0 : Int) + (k : Int) - (52 : Nat)) (-1074) = (k : Int) - 52 := by omega
    rw [e8]
    have e9 : ((0 : Int) - ((k : Int) - 52)).toNat = 52 - k := by omega
    have e10 : ((k : Int) - 52 - 0).toNat = 0 := by omega
    have e11 : ((k : Int) - 52 - -1074).toNat = k + 1022 := by omega
    rw [e9, e10, e11]
    obtain ⟨m, hm⟩ : ∃ m, m = n * 2 ^ (52 - k) := ⟨_, rfl⟩
    have ecut : Ieee.Toward.even.cut false (n <<< (52 - k)) 0 = m := by
      rw [Nat.shiftLeft_eq, ← hm]
      unfold Ieee.Toward.cut
      simp [Nat.mod_one]
    rw [ecut]
    have hm1 : 2 ^ 52 ≤ m := by
      have h1 : 2 ^ k * 2 ^ (52 - k) ≤ n * 2 ^ (52 - k) := Nat.mul_le_mul_right _ hl2
      rw [← Nat.pow_add, show k + (52 - k) = 52 by omega] at h1
      omega
    have hm2 : m < 2 ^ 53 := by
      have h1 : n * 2 ^ (52 - k) < 2 ^ (k + 1) * 2 ^ (52 - k) := Nat.mul_lt_mul_of_pos_right hl3 (pow2_pos _)
      rw [← Nat.pow_add, show k + 1 + (52 - k) = 53 by omega] at h1
      omega
    have e7 : (2 : Nat) ^ 52 = 4503599627370496 := by decide
    have e7b : (2 : Nat) ^ 53 = 9007199254740992 := by decide
    rw [e7] at hm1
    rw [e7b] at hm2
    have hlt : (k + 1022) * 4503599627370496 + m < 9218868437227405312 := by omega
    have ew : FloatKind.f64.format.word false (min ((k + 1022) * 4503599627370496 + m) 9218868437227405312) = (k + 1022) * 4503599627370496 + m := by
      unfold Ieee.Format.word
      rw [Nat.min_eq_left (Nat.le_of_lt hlt)]
      rfl
    rw [ew]
    refine ⟨hlt, ?_⟩
    have hj : jof ((k + 1022) * 4503599627370496 + m) = k + 1022 := by unfold jof; rw [e7]; omega
    have hmm : mof ((k + 1022) * 4503599627370496 + m) = m := by unfold mof; rw [e7, if_neg (by omega)]; omega
    rw [hj, hmm, hm, Nat.mul_assoc, ← Nat.pow_add]
    have eb := places (show k ≤ 52 by omega)
    exact congrArg (fun z => n * 2 ^ z) eb
theorem scaledN_whole {B n : Nat} (k : Nat) (hB : B < 9218868437227405312) (hv : mof B * 2 ^ jof B = n * kk) : scaledN B (k : Int) = n * 10 ^ k := by
  have h1 := value_P hB (k : Int)
  have e1 : ((k : Int)).toNat = k := rfl
  have hQ : denQ B (k : Int) = 2 ^ (-(expo B)).toNat := by
    unfold denQ
    rw [show (-(k : Int)).toNat = 0 by omega, Nat.pow_zero, Nat.one_mul]
  have hk : 0 < kk := kk_pos
  have h2 : numP B (k : Int) = n * 10 ^ k * denQ B (k : Int) := by
    rw [← Nat.mul_assoc, hv, e1] at h1
    rw [hQ]
    refine Nat.eq_of_mul_eq_mul_right hk ?_
    rw [← h1]
    generalize kk = K
    ac_rfl
  have h3 : scaledN B (k : Int) = rnd (numP B (k : Int)) (denQ B (k : Int)) := rfl
  rw [h3, h2]
  have hQ0 := denQ_pos B (k : Int)
  exact rnd_close (by omega) (by omega)
theorem fixedL_zero {l : List UInt8} (h : l ≠ []) : fixedL l 0 = l := by
  have h1 : ¬ l.length ≤ 0 := by have := List.length_pos_iff.2 h; omega
  simp [fixedL, h1]
end Go.Proofs.YtfdnhkjeoeffoaaGreatDoor
end

section
/- thresherlaw03: DecWhole. -/
namespace Go.Proofs.YtfdnhkjeoeffoaaGreatDoor
open Go.RowKit
set_option linter.unusedVariables false

theorem bytes_ext {s t : ByteArray} (h : s.data.toList = t.data.toList) : s = t := by
  cases s; cases t
  simp only at h
  rw [Array.toList_inj.1 h]

/-- so many noughts -/
def zb (j : Nat) : ByteArray := ⟨(List.replicate j 48).toArray⟩
end Go.Proofs.YtfdnhkjeoeffoaaGreatDoor
end
