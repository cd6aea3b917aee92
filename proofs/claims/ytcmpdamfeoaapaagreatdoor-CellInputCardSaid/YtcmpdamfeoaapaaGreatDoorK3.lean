/- Package num: Prefix, Looks. -/
import Derived.Test.YtcmpdamfeoaapaaGreatDoorK2
namespace Go.Proofs.YtcmpdamfeoaapaaGreatDoor
open Go.RowKit
set_option linter.unusedVariables false

theorem lead_app_digits {l r : List UInt8} : Digits (lead l ++ lead r) := by
  intro c hc
  rcases List.mem_append.1 hc with h | h
  · exact lead_digits l c h
  · exact lead_digits r c h
theorem mantL_facts (l : List UInt8) : Digits (mantL l).1 ∧ -(l.length : Int) ≤ (mantL l).2.1 ∧ (mantL l).2.1 ≤ 0 ∧ (mantL l).2.2 ≤ l.length := by
  have hl := lead_le l
  by_cases h : ∃ r, l.drop (lead l).length = 46 :: r
  · obtain ⟨r, hr⟩ := h
    have h2 := lead_le r
    have h3 := congrArg List.length hr
    rw [List.length_drop, List.length_cons] at h3
    rw [mantL_dot hr]
    split
    · exact ⟨lead_app_digits, by simp only []; omega, by simp only []; omega, by simp only []; omega⟩
    · exact ⟨lead_digits l, by simp only []; omega, by simp only []; omega, hl⟩
  · rw [mantL_plain fun r hr => h ⟨r, hr⟩]
    exact ⟨lead_digits l, by simp only []; omega, by simp only []; omega, hl⟩
theorem expL_facts (q : List UInt8) : -100000 ≤ (expL q).1 ∧ (expL q).1 ≤ 100000 ∧ (expL q).2 ≤ q.length := by
  cases q with
  | nil => simp [expL]
  | cons c r =>
    unfold expL
    simp only []
    split
    · split
      · have h1 := powN_le (lead ((c :: r).drop (signK (c :: r)).1))
        have h2 := lead_le ((c :: r).drop (signK (c :: r)).1)
        rw [List.length_drop] at h2
        refine ⟨?_, ?_, ?_⟩
        · simp only []; unfold powL; split <;> omega
        · simp only []; unfold powL; split <;> omega
        · simp only []; omega
      · simp
    · simp
theorem numeralL_facts (l : List UInt8) : Digits (numeralL l).1 ∧ -(l.length : Int) - 100000 ≤ (numeralL l).2.1 ∧ (numeralL l).2.1 ≤ 100000 ∧ (numeralL l).2.2 ≤ l.length := by
  obtain ⟨h1, h2, h3, h4⟩ := mantL_facts l
  obtain ⟨e1, e2, e3⟩ := expL_facts (l.drop (mantL l).2.2)
  rw [List.length_drop] at e3
  unfold numeralL
  split
  · exact ⟨by intro c hc; simp at hc, by simp only []; omega, by simp only []; omega, by simp only []; omega⟩
  · exact ⟨h1, by simp only []; omega, by simp only []; omega, by simp only []; omega⟩

/-- blanks -/
def wsL : List UInt8 := [32, 9, 10]
def unblank (l : List UInt8) : List UInt8 := l.dropWhile (wsL.contains ·)
/-- how many bytes a sign takes, and whether it is a minus -/
def signB : List UInt8 → Nat × Bool
  | 45 :: _ => (1, true)
  | 43 :: _ => (1, false)
  | _ => (0, false)
@[go_sem] theorem run_neg64 (R : Nat) (w : World) : (Op.unary UnOp.neg (Value.float FloatKind.f64 R)).run Tryz.prog w = .ok (.float .f64 (Op.negFloat .f64 R)) w := rfl
theorem negF {R : Nat} (h : R < 9223372036854775808) : Op.negFloat .f64 R = R + 9223372036854775808 := by
  have e : Op.negFloat .f64 R = R ^^^ 2 ^ 63 := rfl
  rw [e, show (9223372036854775808 : Nat) = 2 ^ 63 by decide, Nat.add_comm]
  have h63 : R < 2 ^ 63 := h
  refine Nat.eq_of_testBit_eq fun i => ?_
  rw [Nat.testBit_xor, Nat.testBit_two_pow]
  rcases Nat.lt_trichotomy i 63 with hi | hi | hi
  · rw [Nat.testBit_two_pow_add_gt hi, decide_eq_false (by omega), Bool.xor_false]
  · subst hi
    rw [Nat.testBit_two_pow_add_eq, decide_eq_true rfl, Bool.xor_true]
  · rw [Nat.testBit_lt_two_pow (Nat.lt_of_lt_of_le h63 (p2_le (a := 63) (b := i) (by omega))), decide_eq_false (by omega), Nat.testBit_lt_two_pow (x := 2 ^ 63 + R) (i := i)]
    · rfl
    · have h2 := p2_le (a := 64) (b := i) (by omega)
      have h3 : (2 : Nat) ^ 64 = 2 ^ 63 + 2 ^ 63 := by decide
      omega
theorem readN_le (l : List UInt8) (e : Int) : readN l e < 9223372036854775808 := by
  have h : readN l e ≤ 9218868437227405312 := by
    unfold readN
    split
    · omega
    · split
      · exact readB_le _ _
      · split
        · exact readB_le _ _
        · exact readB_le _ _
  omega
theorem retF {x x' : Nat} {y y' : Int} (hx : x = x') (hy : y = y') : Ending.returned (.tuple #[.float .f64 x, .int .i64 y]) = Ending.returned (.tuple #[.float .f64 x', .int .i64 y']) := by
  subst hx; subst hy; rfl
theorem signB_other (c : UInt8) (r : List UInt8) (h1 : c ≠ 45) (h2 : c ≠ 43) : signB (c :: r) = (0, false) := by
  unfold signB
  split
  · rename_i h; injection h with h _; exact absurd h h1
  · rename_i h; injection h with h _; exact absurd h h2
  · rfl
theorem mantL_len (l : List UInt8) : (mantL l).1.length ≤ l.length := by
  have hl := lead_le l
  by_cases h : ∃ r, l.drop (lead l).length = 46 :: r
  · obtain ⟨r, hr⟩ := h
    have h2 := lead_le r
    have h3 := congrArg List.length hr
    rw [List.length_drop, List.length_cons] at h3
    rw [mantL_dot hr]
    split
    · simp only [List.length_append]; omega
    · exact hl
  · rw [mantL_plain fun r hr => h ⟨r, hr⟩]
    exact hl
theorem numeralL_len (l : List UInt8) : (numeralL l).1.length ≤ l.length := by
  unfold numeralL
  split
  · simp
  · exact mantL_len l
/-- what is read behind blanks and a sign -/
def coreL (l : List UInt8) : List UInt8 × Int × Nat := numeralL ((unblank l).drop (signB (unblank l)).1)
/-- how many bytes Prefix takes -/
def prefN (l : List UInt8) : Nat := if (coreL l).2.2 = 0 then 0 else l.length - (unblank l).length + (signB (unblank l)).1 + (coreL l).2.2
/-- the float of what is read, without its sign -/
def prefV (l : List UInt8) : Nat := if (coreL l).2.2 = 0 then 0 else readN (coreL l).1 (coreL l).2.1
/-- is it below nought -/
def prefM (l : List UInt8) : Bool := if (coreL l).2.2 = 0 then false else (signB (unblank l)).2

/-- the bits of what Prefix reads -/
def prefB (l : List UInt8) : Nat := if prefM l then prefV l + 9223372036854775808 else prefV l
theorem TrimLeft_ws (s : ByteArray) (w : World) :
    Calls Tryz.prog 46 #[.string s, .string ⟨#[32, 9, 10]⟩] w fun e w' => e = .returned (.string ⟨(unblank s.data.toList).toArray⟩) ∧ Below w.heap.size w w' :=
  Any.strings_TrimLeft_laid Tryz.lays161 (by kernel_rfl) s ⟨#[32, 9, 10]⟩ w (by decide) (ascii_of_all (by decide))
theorem Trim_ws (s : ByteArray) (w : World) (hs : s.size ≤ 9223372036854775807) :
    Calls Tryz.prog 54 #[.string s, .string ⟨#[32, 9, 10]⟩] w fun e w' => e = .returned (.string ⟨(Lib.trimS s.data.toList wsL).toArray⟩) ∧ Below w.heap.size w w' :=
  Any.strings_Trim_laid Tryz.lays160 (by kernel_rfl) s ⟨#[32, 9, 10]⟩ w hs (by decide) (ascii_of_all (by decide))

set_option maxRecDepth 100000 in
set_option maxHeartbeats 4000000 in
theorem Prefix_any (s : ByteArray) (w : World) (hs : s.size ≤ 140737488355328) :
    Calls Tryz.prog 10 #[.string s] w fun e w' => e = .returned (.tuple #[.float .f64 (prefB s.data.toList), .int .i64 (prefN s.data.toList : Nat)]) ∧ Below w.heap.size w w' := by
  obtain ⟨t, ht⟩ : ∃ t : ByteArray, t = ⟨(unblank s.data.toList).toArray⟩ := ⟨_, rfl⟩
  have HT := Lib.hid (TrimLeft_ws s w)
  rw [← ht] at HT
  have htl : unblank s.data.toList = t.data.toList := by rw [ht]
  obtain ⟨tz, htz⟩ : ∃ z, z = t.size := ⟨_, rfl⟩
  obtain ⟨sz, hsz⟩ : ∃ z, z = s.size := ⟨_, rfl⟩
  have hts : t.size = tz := htz.symm
  have hss : s.size = sz := hsz.symm
  have hsl : s.data.toList.length = sz := by rw [hsz]; exact (size_list s).symm
  have htl2 : t.data.toList.length = tz := by rw [htz]; exact (size_list t).symm
  have hle : tz ≤ sz := by
    rw [← hsl, ← htl2, ← htl]
    exact (List.dropWhile_sublist _).length_le
  have hszb : sz ≤ 140737488355328 := by omega
  obtain ⟨sg, mi, hsm⟩ : ∃ sg mi, signB t.data.toList = (sg, mi) := ⟨_, _, rfl⟩
  obtain ⟨A, X, Y, hco⟩ : ∃ A X Y, coreL s.data.toList = (A, X, Y) := ⟨_, _, _, rfl⟩
  have hco2 : numeralL (t.data.toList.drop sg) = (A, X, Y) := by
    rw [← hco]; unfold coreL; rw [htl, hsm]
  obtain ⟨f1, f2, f3, f4⟩ := numeralL_facts (t.data.toList.drop sg)
  rw [hco2] at f1 f2 f3 f4
  rw [List.length_drop, htl2] at f2 f4
  simp only at f1 f2 f3 f4
  have hV : prefV s.data.toList = if Y = 0 then 0 else readN A X := by unfold prefV; rw [hco]
  have hN : prefN s.data.toList = if Y = 0 then 0 else sz - tz + sg + Y := by unfold prefN; rw [hco, hsl, htl, htl2, hsm]
  have hM : prefM s.data.toList = if Y = 0 then false else mi := by unfold prefM; rw [hco, htl, hsm]
  have hB : prefB s.data.toList = if Y = 0 then 0 else if mi then readN A X + 9223372036854775808 else readN A X := by
    unfold prefB
    rw [hV, hM]
    by_cases h : Y = 0
    · rw [if_pos h, if_pos h, if_pos h]
      exact if_neg (by decide)
    · rw [if_neg h, if_neg h, if_neg h]
  have HV := Lib.hid hB
  have HN := Lib.hid hN
  generalize prefB s.data.toList = V at *
  generalize prefN s.data.toList = N at *
  have hP1 := Lib.hid (fun W => Tryz.strings_HasPrefix t ⟨#[45]⟩ W)
  have hP2 := Lib.hid (fun W => Tryz.strings_HasPrefix t ⟨#[43]⟩ W)
  have hcase : (sg = 1 ∧ mi = true ∧ Lib.hasPrefix t.data.toList [45] = true) ∨ (sg = 1 ∧ mi = false ∧ Lib.hasPrefix t.data.toList [45] = false ∧ Lib.hasPrefix t.data.toList [43] = true) ∨ (sg = 0 ∧ mi = false ∧ Lib.hasPrefix t.data.toList [45] = false ∧ Lib.hasPrefix t.data.toList [43] = false) := by
    rw [hasPrefix_one, hasPrefix_one]
    cases hl : t.data.toList with
    | nil =>
      rw [hl] at hsm
      obtain ⟨h1, h2⟩ := Prod.mk.inj (hsm.symm.trans (rfl : signB [] = (0, false)))
      exact .inr (.inr ⟨h1, h2, rfl, rfl⟩)
    | cons c r =>
      rw [hl] at hsm
      by_cases h45 : c = 45
      · subst h45
        obtain ⟨h1, h2⟩ := Prod.mk.inj (hsm.symm.trans (rfl : signB (45 :: r) = (1, true)))
        exact .inl ⟨h1, h2, rfl⟩
      · by_cases h43 : c = 43
        · subst h43
          obtain ⟨h1, h2⟩ := Prod.mk.inj (hsm.symm.trans (rfl : signB (43 :: r) = (1, false)))
          exact .inr (.inl ⟨h1, h2, rfl, rfl⟩)
        · obtain ⟨h1, h2⟩ := Prod.mk.inj (hsm.symm.trans (signB_other c r h45 h43))
          exact .inr (.inr ⟨h1, h2, beq_eq_false_iff_ne.2 h45, beq_eq_false_iff_ne.2 h43⟩)
  have HTL2 := Lib.hid htl2
  have HF1 := Lib.hid f1
  have HNU : Hid (∀ (u : ByteArray) (W : World), u.size ≤ 140737488355328 → u.data.toList = t.data.toList.drop sg → Calls Tryz.prog 48 #[.string u] W fun e w' => ∃ a : ByteArray, e = .returned (.tuple #[.string a, .int .i64 X, .int .i64 (Y : Nat)]) ∧ a.data.toList = A ∧ a.size ≤ 140737488355328 ∧ Below W.heap.size W w') := by
    intro u W hu hul
    refine (numeral_any u W hu).mono ?_
    rintro e w' ⟨a, rfl, ha, hb⟩
    rw [hul, hco2] at ha ⊢
    refine ⟨a, rfl, ha, ?_, hb⟩
    have h := numeralL_len (t.data.toList.drop sg)
    rw [hco2, List.length_drop, htl2] at h
    rw [size_list, ha]
    have h2 : A.length ≤ tz - sg := h
    show A.length ≤ _
    omega
  have HRD : Hid (∀ (a : ByteArray) (W : World), a.data.toList = A → a.size ≤ 140737488355328 → Calls Tryz.prog 49 #[.string a, .int .i64 X] W fun e w' => e = .returned (.float .f64 (readN A X)) ∧ Below W.heap.size W w') := by
    intro a W ha hu
    have h := read_any a X W (by rw [ha]; exact f1) hu (by omega) (by omega)
    rw [ha] at h
    exact h
  have HEX : Hid (∀ i, i ≤ tz → (t.extract i tz).data.toList = t.data.toList.drop i ∧ (t.extract i tz).size ≤ 140737488355328) := by
    intro i hi
    have h1 : (t.extract i tz).data.toList = t.data.toList.drop i := by
      rw [ext_list]
      exact List.take_of_length_le (by rw [List.length_drop, htl2]; omega)
    refine ⟨h1, ?_⟩
    rw [size_list, h1, List.length_drop, htl2]; omega
  have HLP : Hid (∀ c, Lib.hasPrefix t.data.toList [c] = true → 1 ≤ tz) := by
    intro c h
    rw [hasPrefix_one] at h
    rcases Nat.eq_zero_or_pos tz with h0 | h0
    · have : t.data.toList = [] := List.eq_nil_of_length_eq_zero (by omega)
      rw [this] at h; cases h
    · exact h0
  have HRB : Hid (readN A X < 9223372036854775808) := readN_le A X
  generalize readN A X = R at *
  clear ht htl htz hsz hsl htl2 hs hco hco2 f1 hV hN hM hB hsm
  have hd0 : (sz : Int) - tz = ((sz - tz : Nat) : Int) := by omega
  obtain ⟨bl, hbl⟩ : ∃ b, b = sz - tz := ⟨_, rfl⟩
  rw [← hbl] at hd0 HN
  have hblb : bl ≤ sz := by omega
  clear hbl
  go_enter Tryz.func10, Tryz.ntmps10
  go_wp2_with fail
  refine (HT.out).mono ?_
  rintro e w1 ⟨rfl, hb1⟩
  have HB1 := Lib.hid hb1
  have hs1 := hb1.size
  clear hb1 HT
  go_wp2_with fail
  refine (hP1.out w1).mono ?_
  rintro e w2 ⟨rfl, rfl⟩
  clear hP1
  rcases hcase with ⟨rfl, rfl, h45⟩ | ⟨rfl, rfl, h45, h43⟩ | ⟨rfl, rfl, h45, h43⟩
  · have htz1 := HLP.out 45 h45
    rw [h45]
    clear HLP h45
    have hu := HEX.out 1 (by omega)
    have hu1 := Lib.hid hu.1
    have hu2 := Lib.hid hu.2
    clear hu
    go_wp2_with fail
    refine (HNU.out _ _ hu2.out hu1.out).mono ?_
    rintro e w3 ⟨a, rfl, ha, hza, hb3⟩
    have HA := Lib.hid ha
    have HZA := Lib.hid hza
    have HB3 := Lib.hid (HB1.out.trans (hb3.mono hs1))
    have hs3 := hb3.size
    clear hb3 HB1 HNU ha hza hu1 hu2
    by_cases hY : Y = 0
    · have hN := HN.out
      have hV := HV.out
      rw [if_pos hY] at hN hV
      subst hY
      have HN2 := Lib.hid hN
      have HV2 := Lib.hid hV
      clear hN hV HN HV
      go_wp2_with fail
      go_ret2
      exact ⟨retF (by rw [HV2.out]) (by rw [HN2.out]; rfl), HB3.out⟩
    · have hN := HN.out
      have hV := HV.out
      rw [if_neg hY] at hN hV
      have HN2 := Lib.hid hN
      have HV2 := Lib.hid hV
      have hY' : (Y : Int) ≠ 0 := by omega
      clear hN hV HN HV hY
      go_wp2_with fail
      refine (HRD.out a w3 HA.out HZA.out).mono ?_
      rintro e w4 ⟨rfl, hb4⟩
      have HB4 := Lib.hid (HB3.out.trans (hb4.mono (by omega)))
      clear hb4 HB3 HRD
      go_wp2_with fail
      go_ret2
      exact ⟨retF (by rw [HV2.out, if_pos trivial, negF HRB.out]) (by rw [HN2.out]; omega), HB4.out⟩
  · have htz1 := HLP.out 43 h43
    rw [h45]
    go_wp2_with fail
    refine (hP2.out _).mono ?_
    rintro e w2 ⟨rfl, rfl⟩
    rw [h43]
    clear HLP h45 h43 hP2
    have hu := HEX.out 1 (by omega)
    have hu1 := Lib.hid hu.1
    have hu2 := Lib.hid hu.2
    clear hu
    go_wp2_with fail
    refine (HNU.out _ _ hu2.out hu1.out).mono ?_
    rintro e w3 ⟨a, rfl, ha, hza, hb3⟩
    have HA := Lib.hid ha
    have HZA := Lib.hid hza
    have HB3 := Lib.hid (HB1.out.trans (hb3.mono hs1))
    have hs3 := hb3.size
    clear hb3 HB1 HNU ha hza hu1 hu2
    by_cases hY : Y = 0
    · have hN := HN.out
      have hV := HV.out
      rw [if_pos hY] at hN hV
      subst hY
      have HN2 := Lib.hid hN
      have HV2 := Lib.hid hV
      clear hN hV HN HV
      go_wp2_with fail
      go_ret2
      exact ⟨retF (by rw [HV2.out]) (by rw [HN2.out]; rfl), HB3.out⟩
    · have hN := HN.out
      have hV := HV.out
      rw [if_neg hY] at hN hV
      have HN2 := Lib.hid hN
      have HV2 := Lib.hid hV
      have hY' : (Y : Int) ≠ 0 := by omega
      clear hN hV HN HV hY
      go_wp2_with fail
      refine (HRD.out a w3 HA.out HZA.out).mono ?_
      rintro e w4 ⟨rfl, hb4⟩
      have HB4 := Lib.hid (HB3.out.trans (hb4.mono (by omega)))
      clear hb4 HB3 HRD
      go_wp2_with fail
      go_ret2
      exact ⟨retF (by rw [HV2.out, if_neg Bool.false_ne_true]) (by rw [HN2.out]; omega), HB4.out⟩
  · rw [h45]
    go_wp2_with fail
    refine (hP2.out _).mono ?_
    rintro e w2 ⟨rfl, rfl⟩
    rw [h43]
    clear HLP h45 h43 hP2
    have hu := HEX.out 0 (by omega)
    have hu1 := Lib.hid hu.1
    have hu2 := Lib.hid hu.2
    clear hu
    go_wp2_with fail
    refine (HNU.out _ _ hu2.out hu1.out).mono ?_
    rintro e w3 ⟨a, rfl, ha, hza, hb3⟩
    have HA := Lib.hid ha
    have HZA := Lib.hid hza
    have HB3 := Lib.hid (HB1.out.trans (hb3.mono hs1))
    have hs3 := hb3.size
    clear hb3 HB1 HNU ha hza hu1 hu2
    by_cases hY : Y = 0
    · have hN := HN.out
      have hV := HV.out
      rw [if_pos hY] at hN hV
      subst hY
      have HN2 := Lib.hid hN
      have HV2 := Lib.hid hV
      clear hN hV HN HV
      go_wp2_with fail
      go_ret2
      exact ⟨retF (by rw [HV2.out]) (by rw [HN2.out]; rfl), HB3.out⟩
    · have hN := HN.out
      have hV := HV.out
      rw [if_neg hY] at hN hV
      have HN2 := Lib.hid hN
      have HV2 := Lib.hid hV
      have hY' : (Y : Int) ≠ 0 := by omega
      clear hN hV HN HV hY
      go_wp2_with fail
      refine (HRD.out a w3 HA.out HZA.out).mono ?_
      rintro e w4 ⟨rfl, hb4⟩
      have HB4 := Lib.hid (HB3.out.trans (hb4.mono (by omega)))
      clear hb4 HB3 HRD
      go_wp2_with fail
      go_ret2
      exact ⟨retF (by rw [HV2.out, if_neg Bool.false_ne_true]) (by rw [HN2.out]; omega), HB4.out⟩

/-- does the whole text look like a number -/
def looksL (l : List UInt8) : Bool := decide (0 < prefN l) && (Lib.trimS (l.drop (prefN l)) wsL).isEmpty
theorem unblank_le (l : List UInt8) : (unblank l).length ≤ l.length := (List.dropWhile_sublist _).length_le
theorem signB_le : ∀ t : List UInt8, (signB t).1 ≤ t.length
  | [] => Nat.le_refl _
  | c :: r => by
    unfold signB
    split <;> simp
theorem prefN_le (l : List UInt8) : prefN l ≤ l.length := by
  unfold prefN
  split
  · exact Nat.zero_le _
  · have h1 := (numeralL_facts ((unblank l).drop (signB (unblank l)).1)).2.2.2
    have h2 := unblank_le l
    have h3 := signB_le (unblank l)
    rw [List.length_drop] at h1
    unfold coreL
    omega

set_option maxRecDepth 100000 in
set_option maxHeartbeats 4000000 in
theorem Looks_any (s : ByteArray) (w : World) (hs : s.size ≤ 140737488355328) :
    Calls Tryz.prog 15 #[.string s] w fun e w' => e = .returned (.bool (looksL s.data.toList)) ∧ Below w.heap.size w w' := by
  have HP := Lib.hid (Prefix_any s w hs)
  obtain ⟨sz, hsz⟩ : ∃ z, z = s.size := ⟨_, rfl⟩
  have hss : s.size = sz := hsz.symm
  have hsl : s.data.toList.length = sz := by rw [hsz]; exact (size_list s).symm
  have hle := prefN_le s.data.toList
  rw [hsl] at hle
  have HL : Hid (looksL s.data.toList = (decide (0 < prefN s.data.toList) && (Lib.trimS (s.data.toList.drop (prefN s.data.toList)) wsL).isEmpty)) := rfl
  generalize looksL s.data.toList = R at *
  generalize prefB s.data.toList = B at *
  generalize prefN s.data.toList = n at *
  have hE : (s.extract n sz).data.toList = s.data.toList.drop n := by
    rw [ext_list]
    exact List.take_of_length_le (by rw [List.length_drop, hsl]; omega)
  have HTR := Lib.hid (fun W => Trim_ws (s.extract n sz) W (by rw [size_list, hE, List.length_drop, hsl]; omega))
  rw [hE] at HTR
  obtain ⟨T, hT⟩ : ∃ T : ByteArray, T = ⟨(Lib.trimS (s.data.toList.drop n) wsL).toArray⟩ := ⟨_, rfl⟩
  rw [← hT] at HTR
  have hTe : Hid (T.toList.isEmpty = (Lib.trimS (s.data.toList.drop n) wsL).isEmpty) := by show _ = _; rw [ByteArray.toList_eq, hT]
  have hszb : sz ≤ 140737488355328 := by omega
  clear hE hsl hsz hT hs
  go_enter Tryz.func15, Tryz.ntmps15
  go_wp2_with fail
  refine HP.out.mono ?_
  rintro e w1 ⟨rfl, hb1⟩
  have HB1 := Lib.hid hb1
  have hs1 := hb1.size
  clear hb1 HP
  rcases Nat.eq_zero_or_pos n with h0 | h0
  · subst h0
    have HR : Hid (R = false) := by show _ = _; rw [HL.out]; rfl
    clear HL hTe HTR
    go_wp2_with fail
    go_ret
    exact ⟨by rw [HR.out]; rfl, HB1.out⟩
  · have h0' : 0 < (n : Int) := by omega
    have HR : Hid (R = T.toList.isEmpty) := by show _ = _; rw [HL.out, hTe.out, decide_eq_true h0]; rfl
    clear HL hTe h0
    go_wp2_with fail
    refine (HTR.out w1).mono ?_
    rintro e w2 ⟨rfl, hb2⟩
    have HB2 := Lib.hid (HB1.out.trans (hb2.mono hs1))
    clear hb2 HB1 HTR
    go_wp2_with fail
    go_ret
    exact ⟨by rw [HR.out]; rfl, HB2.out⟩
end Go.Proofs.YtcmpdamfeoaapaaGreatDoor
