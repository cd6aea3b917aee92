/- Several texts in one (K11, K2, K3, K13). -/
import Derived.Test.YtkpikkeblogdcaaDoorM6
import Derived.Laws.FloatArith
section
/- Package num: Pow, of valid operations. -/
namespace Go.Proofs.YtkpikkeblogdcaaDoor
open Go.RowKit
set_option linter.unusedVariables false

/-- the power by squares; none: an operation is not valid -/
def powO : Nat → Nat → Nat → Nat → Option Nat
  | 0, _, _, _ => none
  | f + 1, k, out, x => if k = 0 then some out else
    (FloatKind.f64.format.mul x x).bind fun z =>
      (if k % 2 = 1 then FloatKind.f64.format.mul out x else some out).bind fun o => powO f (k / 2) o z

/-- the power's last step -/
def powR (y r : Nat) : Option Nat := if FloatKind.f64.format.order y 0 = some .lt then FloatKind.f64.format.div 4607182418800017408 r else some r
/-- a whole power's loop's count -/
def powK (y : Nat) : Option Int := floatToIntVal .f64 (y % 9223372036854775808) .u64
/-- is it a power? -/
def powOk (y : Nat) : Bool := (FloatKind.f64.format.order (y % 9223372036854775808) 4845873199050653696 == some .lt) && (FloatKind.f64.format.order (truncB y) y == some .eq)

set_option maxRecDepth 100000 in
set_option maxHeartbeats 4000000 in
theorem Pow_no (x y : Nat) (w : World) (hy : y < 18446744073709551616) (h : powOk y = false) :
    Calls Tryd.prog 34 #[.float .f64 x, .float .f64 y] w fun e w' => e = .returned (.tuple #[.float .f64 0, .bool false]) ∧ w = w' := by
  have HA := Lib.hid (Abs_any y w hy)
  have HT := Lib.hid (Trunc_any y w hy)
  unfold powOk at h
  generalize truncB y = T at *
  generalize y % 9223372036854775808 = a at *
  clear hy
  rcases hc : (FloatKind.f64.format.order a 4845873199050653696 == some .lt) with _ | _
  · clear h HT
    go_enter Tryd.func34, Tryd.ntmps34
    go_wp2_with fail
    refine HA.out.mono ?_
    rintro e w1 ⟨rfl, rfl⟩
    go_wp2_with fail
    go_ret2
    exact ⟨rfl, rfl⟩
  · rw [hc] at h
    have h2 : (FloatKind.f64.format.order T y == some .eq) = false := by simpa using h
    have h3 : (FloatKind.f64.format.order T y != some .eq) = true := by unfold bne; rw [h2]; rfl
    have hc2 : FloatKind.f64.format.order a 4845873199050653696 = some .lt := by simpa using hc
    clear h hc h2
    go_enter Tryd.func34, Tryd.ntmps34
    go_wp2_with fail
    refine HA.out.mono ?_
    rintro e w1 ⟨rfl, rfl⟩
    go_wp2_with fail
    refine HT.out.mono ?_
    rintro e w1 ⟨rfl, rfl⟩
    go_wp2_with fail
    go_ret2
    exact ⟨rfl, rfl⟩

set_option maxRecDepth 100000 in
set_option maxHeartbeats 4000000 in
theorem Pow_ok (x y k o r : Nat) (w : World) (hy : y < 18446744073709551616) (h : powOk y = true) (hk : powK y = some (k : Int)) (ho : powO 64 k 4607182418800017408 x = some o) (hr : powR y o = some r) :
    Calls Tryd.prog 34 #[.float .f64 x, .float .f64 y] w fun e w' => e = .returned (.tuple #[.float .f64 r, .bool true]) ∧ w = w' := by
  have HA := Lib.hid (Abs_any y w hy)
  have HT := Lib.hid (Trunc_any y w hy)
  unfold powOk at h
  unfold powK at hk
  rw [Bool.and_eq_true] at h
  obtain ⟨h1, h2⟩ := h
  have hc : ∀ w, (convert 23 31 (.float .f64 (y % 9223372036854775808))).run Tryd.prog w = .ok (.int .u64 k) w := fun w => run_convert_float_int w 23 31 .f64 .u64 _ k (by rw [Tryd.underlying23]; rfl) Tryd.underlying31 hk
  have hc1 : FloatKind.f64.format.order (y % 9223372036854775808) 4845873199050653696 = some .lt := by simpa using h1
  have hc2 : FloatKind.f64.format.order (truncB y) y = some .eq := by simpa using h2
  have hkl : k < 18446744073709551616 := by
    have h9 := floatToIntVal_wf hk
    have e1 : IntKind.u64.max = 18446744073709551615 := by decide
    simp only [Lit.wf, e1, Bool.and_eq_true, decide_eq_true_eq] at h9
    omega
  generalize truncB y = T at *
  generalize y % 9223372036854775808 = a at *
  clear hy h1 h2 hk
  have HO := Lib.hid ho
  have HR := Lib.hid hr
  clear ho hr
  go_enter Tryd.func34, Tryd.ntmps34
  go_wp2_with fail
  refine HA.out.mono ?_
  rintro e w1 ⟨rfl, rfl⟩
  go_wp2_with fail
  refine HT.out.mono ?_
  rintro e w1 ⟨rfl, rfl⟩
  clear HA HT
  go_wp2_with fail
  go_loop [7, 8, 0] (fun ov kv xv => ∃ (f k' o' x' : Nat), ov = .float .f64 o' ∧ kv = .int .u64 k' ∧ xv = .float .f64 x' ∧ k' < 18446744073709551616 ∧ powO f k' o' x' = some o) (fun _ kv _ => (intOf kv).toNat)
  case atStart => exact ⟨64, k, _, x, rfl, rfl, rfl, hkl, HO.out⟩
  case round =>
    clear hkl
    obtain ⟨f, k', o', x', rfl, rfl, rfl, h1, h2⟩ := hrel
    cases f with
    | zero => exact absurd h2 (by simp [powO])
    | succ f =>
      rcases Nat.eq_zero_or_pos k' with h0 | h0
      · subst h0
        have h3 : o' = o := by simpa [powO] using h2
        subst h3
        clear h2
        have h9 := HR.out
        unfold powR at h9
        by_cases hlt : FloatKind.f64.format.order y 0 = some .lt
        · rw [if_pos hlt] at h9
          have m1 : ∀ t w, (binOp .quo t (.float .f64 4607182418800017408) (.float .f64 o')).run Tryd.prog w = .ok (.float .f64 r) w := fun t w => run_float_arith w .quo t .f64 _ o' r h9
          clear h9
          go_wp2_with (simp only [m1])
          go_ret2
          exact ⟨rfl, rfl⟩
        · rw [if_neg hlt] at h9
          have hlt2 : (FloatKind.f64.format.order y 0 == some .lt) = false := by simpa using hlt
          have h8 := Lib.hid (Option.some.inj h9)
          clear h9 hlt
          go_wp2_with fail
          go_ret2
          exact ⟨by rw [h8.out]; rfl, rfl⟩
      · have h3 : (FloatKind.f64.format.mul x' x').bind (fun z => (if k' % 2 = 1 then FloatKind.f64.format.mul o' x' else some o').bind fun o2 => powO f (k' / 2) o2 z) = some o := by
          rw [powO, if_neg (by omega)] at h2; exact h2
        rw [Option.bind_eq_some_iff] at h3
        obtain ⟨z, h4, h5⟩ := h3
        rw [Option.bind_eq_some_iff] at h5
        obtain ⟨o2, h6, h7⟩ := h5
        have H7 := Lib.hid h7
        clear h2 h7
        have m1 : ∀ t w, (binOp .mul t (.float .f64 x') (.float .f64 x')).run Tryd.prog w = .ok (.float .f64 z) w := fun t w => run_float_arith w .mul t .f64 x' x' z h4
        have b1 : bits .and .u64 (k' : Int) 1 = ((k' % 2 : Nat) : Int) := by
          have h := u64_and_nat k' 1 h1 (by decide)
          rw [nat_mask1] at h
          exact h
        have b2 : (k' : Int) / 2 = ((k' / 2 : Nat) : Int) := by omega
        obtain ⟨d, hd⟩ : ∃ d, d = k' / 2 := ⟨_, rfl⟩
        have H0 : 0 < (k' : Int) := by omega
        have hdk : d < k' := by omega
        rw [← hd] at b2 H7
        obtain ⟨Ki, hKi⟩ : ∃ Ki : Int, Ki = (k' : Int) := ⟨_, rfl⟩
        rw [← hKi] at b1 b2 H0 ⊢
        have hK2 : Ki < 18446744073709551616 := by omega
        have HK := Lib.hid hKi
        have HD := Lib.hid hdk
        rcases Nat.mod_two_eq_zero_or_one k' with h8 | h8
        · rw [h8] at b1
          rw [if_neg (by omega)] at h6
          have b3 : bits .and .u64 Ki 1 = 0 := by rw [b1]; rfl
          have h9 := Lib.hid (Option.some.inj h6)
          clear h4 h6 h8 h1 hKi hd hdk
          go_wp2_with (simp only [m1])
          go_round
          case rel => exact ⟨f, d, o', z, rfl, rfl, rfl, by have := HD.out; have := HK.out; omega, by rw [h9.out]; exact H7.out⟩
          case measure => have := HD.out; have := HK.out; simp only [intOf]; omega
        · rw [h8] at b1
          rw [if_pos h8] at h6
          have b3 : bits .and .u64 Ki 1 = 1 := by rw [b1]; rfl
          have m2 : ∀ t w, (binOp .mul t (.float .f64 o') (.float .f64 x')).run Tryd.prog w = .ok (.float .f64 o2) w := fun t w => run_float_arith w .mul t .f64 o' x' o2 h6
          clear h4 h6 h8 h1 hKi hd hdk
          go_wp2_with (first | simp only [m2] | simp only [m1])
          go_round
          case rel => exact ⟨f, d, o2, z, rfl, rfl, rfl, by have := HD.out; have := HK.out; omega, H7.out⟩
          case measure => have := HD.out; have := HK.out; simp only [intOf]; omega
end Go.Proofs.YtkpikkeblogdcaaDoor
end

section
/- Package num: numeral. -/
namespace Go.Proofs.YtkpikkeblogdcaaDoor
open Go.RowKit
set_option linter.unusedVariables false

/-- the digits, the power and the bytes of what stands ahead of the exponent -/
def mantL (l : List UInt8) : List UInt8 × Int × Nat :=
  match l.drop (lead l).length with
  | 46 :: r => if 0 < (lead l).length + (lead r).length then (lead l ++ lead r, -((lead r).length : Int), (lead l).length + 1 + (lead r).length) else (lead l, 0, (lead l).length)
  | _ => (lead l, 0, (lead l).length)
/-- how many bytes the letter and its sign take, and whether the sign is a minus -/
def signK : List UInt8 → Nat × Bool
  | _ :: 43 :: _ => (2, false)
  | _ :: 45 :: _ => (2, true)
  | _ => (1, false)
/-- the exponent and its bytes -/
def expL (q : List UInt8) : Int × Nat :=
  match q with
  | c :: _ => if c = 101 ∨ c = 69 then (if 0 < (lead (q.drop (signK q).1)).length then (powL (lead (q.drop (signK q).1)) (signK q).2, (signK q).1 + (lead (q.drop (signK q).1)).length) else (0, 0)) else (0, 0)
  | [] => (0, 0)
def numeralL (l : List UInt8) : List UInt8 × Int × Nat :=
  if (mantL l).1 = [] then ([], 0, 0) else ((mantL l).1, (mantL l).2.1 + (expL (l.drop (mantL l).2.2)).1, (mantL l).2.2 + (expL (l.drop (mantL l).2.2)).2)

theorem hasPrefix_one (l : List UInt8) (c : UInt8) : Lib.hasPrefix l [c] = (match l with | x :: _ => x == c | [] => false) := by
  cases l with
  | nil => rfl
  | cons x r =>
    show ([c].isPrefixOf (x :: r)) = (x == c)
    simp [List.isPrefixOf]
    exact BEq.comm
theorem at_list (q : ByteArray) (i : Nat) (h : i < q.size) (c : UInt8) (hl : q.data.toList[i]? = some c) : q[i]'h = c := by
  show q.data[i]'_ = c
  have h2 : i < q.data.size := h
  rw [Array.getElem?_toList, Array.getElem?_eq_getElem h2] at hl
  exact Option.some.inj hl
theorem ne_lit (c k : UInt8) (m : Int) (hm : (k.toNat : Int) = m) (h : c ≠ k) : ((c.toNat : Int) == m) = false :=
  beq_eq_false_iff_ne.2 fun h2 => h (UInt8.toNat_inj.1 (by omega))
theorem ret3 {a : ByteArray} {x y x' y' : Int} (hx : x = x') (hy : y = y') : Ending.returned (.tuple #[.string a, .int .i64 x, .int .i64 y]) = Ending.returned (.tuple #[.string a, .int .i64 x', .int .i64 y']) := by
  subst hx; subst hy; rfl
theorem signK_other (c c1 : UInt8) (r : List UInt8) (h1 : c1 ≠ 43) (h2 : c1 ≠ 45) : signK (c :: c1 :: r) = (1, false) := by
  unfold signK
  split
  · rename_i h; injection h with _ h; injection h with h _; exact absurd h h1
  · rename_i h; injection h with _ h; injection h with h _; exact absurd h h2
  · rfl
theorem mantL_dot {l r : List UInt8} (h : l.drop (lead l).length = 46 :: r) : mantL l = if 0 < (lead l).length + (lead r).length then (lead l ++ lead r, -((lead r).length : Int), (lead l).length + 1 + (lead r).length) else (lead l, 0, (lead l).length) := by
  unfold mantL; rw [h]; rfl
theorem mantL_plain {l : List UInt8} (h : ∀ r, l.drop (lead l).length ≠ 46 :: r) : mantL l = (lead l, 0, (lead l).length) := by
  unfold mantL
  split
  · rename_i r hr; exact absurd hr (h r)
  · rfl

set_option maxRecDepth 100000 in
set_option maxHeartbeats 8000000 in
theorem numeral_any (s : ByteArray) (w : World) (hs : s.size ≤ 140737488355328) :
    Calls Tryd.prog 56 #[.string s] w fun e w' => ∃ a : ByteArray, e = .returned (.tuple #[.string a, .int .i64 (numeralL s.data.toList).2.1, .int .i64 ((numeralL s.data.toList).2.2 : Nat)]) ∧ a.data.toList = (numeralL s.data.toList).1 ∧ Below w.heap.size w w' := by
  obtain ⟨A3, X3, Y3, hnum⟩ : ∃ A3 X3 Y3, numeralL s.data.toList = (A3, X3, Y3) := ⟨_, _, _, rfl⟩
  rw [hnum]
  simp only []
  have HNUM := Lib.hid hnum
  have HD0 := Lib.hid (fun W => digits_any s W hs)
  have hle := lead_le s.data.toList
  have hsz := size_list s
  obtain ⟨n, hn⟩ : ∃ n, n = (lead s.data.toList).length := ⟨_, rfl⟩
  rw [← hn] at HD0 hle
  obtain ⟨sz, hszd⟩ : ∃ z, z = s.size := ⟨_, rfl⟩
  have hsz1 : s.size = sz := hszd.symm
  have hns : n ≤ sz := by omega
  have hsz2 : sz ≤ 140737488355328 := by omega
  have HSL : Hid (s.data.toList.length = sz) := by show _ = _; omega
  have HT0 : Hid ((s.extract 0 n).data.toList = lead s.data.toList) := by show _ = _; rw [ext_list, Nat.sub_zero, List.drop_zero, hn, lead_take]
  have hTn : ∀ i, n ≤ i → Hid ((s.extract i sz).data.toList = s.data.toList.drop i) := by
    intro i hi
    show _ = _
    rw [ext_list]
    exact List.take_of_length_le (by rw [List.length_drop, HSL.out]; omega)
  have HP0 : Hid (∀ W, Calls Tryd.prog 55 #[.string (s.extract n sz), .string ⟨#[46]⟩] W fun e w' => e = .returned (.bool (Lib.hasPrefix (s.data.toList.drop n) [46])) ∧ w' = W) := by
    intro W
    have h := Tryd.strings_HasPrefix (s.extract n sz) ⟨#[46]⟩ W
    rw [(hTn n (Nat.le_refl _)).out] at h
    exact h
  have hcase : (∃ r, s.data.toList.drop n = 46 :: r ∧ 0 < n + (lead r).length) ∨ (∃ r, s.data.toList.drop n = 46 :: r ∧ ¬ 0 < n + (lead r).length) ∨ (∀ r, s.data.toList.drop n ≠ 46 :: r) := by
    cases h : s.data.toList.drop n with
    | nil => exact .inr (.inr fun r h2 => by cases h2)
    | cons c r =>
      by_cases hc : c = 46
      · subst hc
        by_cases h0 : 0 < n + (lead r).length
        · exact .inl ⟨r, rfl, h0⟩
        · exact .inr (.inl ⟨r, rfl, h0⟩)
      · exact .inr (.inr fun r' h2 => hc (by injection h2))
  have hnl : n = (lead s.data.toList).length := hn
  have HNL := Lib.hid hnl
  clear hn hle hsz hszd hs hnl hnum
  go_enter Tryd.func56, Tryd.ntmps56
  go_wp2_with fail
  refine (HD0.out w).mono ?_
  rintro e w1 ⟨rfl, hb1⟩
  have HB1 := Lib.hid hb1
  have hs1 := hb1.size
  clear hb1 HD0
  go_wp2_with fail
  refine (HP0.out w1).mono ?_
  rintro e w5 ⟨rfl, rfl⟩
  clear HP0
  rcases hcase with ⟨r, hr, h0⟩ | ⟨r, hr, h0⟩ | hr
  case' inl =>
    obtain ⟨k, hk⟩ : ∃ k, k = (lead r).length := ⟨_, rfl⟩
    rw [← hk] at h0
    have hE1 : (s.extract (n + 1) sz).data.toList = r := by
      rw [(hTn (n + 1) (by omega)).out, ← List.drop_drop, hr]; rfl
    have hrl : r.length + 1 + n = sz := by
      have h := congrArg List.length hr
      rw [List.length_drop, HSL.out] at h
      simp at h
      omega
    have hkr : k ≤ r.length := by rw [hk]; exact lead_le r
    have hes : (s.extract (n + 1) sz).size ≤ 140737488355328 := by rw [size_list, hE1]; omega
    have HDG := Lib.hid (fun W => digits_any (s.extract (n + 1) sz) W hes)
    rw [hE1, ← hk] at HDG
    have hpre : Lib.hasPrefix (s.data.toList.drop n) [46] = true := by rw [hr, hasPrefix_one]; rfl
    obtain ⟨p, hp⟩ : ∃ p, p = n + 1 + k := ⟨_, rfl⟩
    have hpk : p - (n + 1) = k := by omega
    obtain ⟨a, ha⟩ : ∃ a, a = s.extract 0 n ++ s.extract (n + 1) p := ⟨_, rfl⟩
    have hae0 : s.extract 0 n ++ s.extract (n + 1) p = a := ha.symm
    obtain ⟨A, hAd⟩ : ∃ A, A = lead s.data.toList ++ lead r := ⟨_, rfl⟩
    have HA : Hid (a.data.toList = A) := by
      show _ = _
      rw [ha, ByteArray.data_append, Array.toList_append, HT0.out, ext_list, hpk, ← List.drop_drop, hr, hAd, hk]
      congr 1
      exact lead_take r
    have ep : (n : Int) + 1 + k = (p : Int) := by omega
    obtain ⟨ex, hex⟩ : ∃ ex : Int, ex = -(k : Int) := ⟨_, rfl⟩
    have eex : -(k : Int) = ex := hex.symm
    have hexb : -140737488355328 ≤ ex ∧ ex ≤ 0 := by omega
    have hps : p ≤ sz := by omega
    have HM : Hid (mantL s.data.toList = (A, ex, p)) := by
      show _ = _
      have h := mantL_dot (l := s.data.toList) (r := r) (by rw [← HNL.out]; exact hr)
      rw [← HNL.out, ← hk, if_pos h0, ← hAd, ← hex, ← hp] at h
      exact h
    have h0' : 0 < (n : Int) + (k : Int) := by omega
    rw [hpre]
    clear hr hk hE1 hrl hes hpre ha hAd hTn HT0 HNL h0 hex hpk
    have hpn : p = n + 1 + k := hp
    have hpn1 : n + 1 ≤ p := by omega
    clear hp hpn
    go_wp2_with fail
    refine (HDG.out w5).mono ?_
    rintro e w2 ⟨rfl, hb2⟩
    have HB2 := Lib.hid (HB1.out.trans (hb2.mono hs1))
    have hs2 : w.heap.size ≤ w2.heap.size := by have := hb2.size; omega
    clear hb2 HDG HB1
  case' inr.inl =>
    have hn0 : n = 0 := by omega
    have hk : (lead r).length = 0 := by omega
    have hE1 : (s.extract (n + 1) sz).data.toList = r := by
      rw [(hTn (n + 1) (by omega)).out, ← List.drop_drop, hr]; rfl
    have hrl : r.length + 1 + n = sz := by
      have h := congrArg List.length hr
      rw [List.length_drop, HSL.out] at h
      simp at h
      omega
    have hes : (s.extract (n + 1) sz).size ≤ 140737488355328 := by rw [size_list, hE1]; omega
    have HDG := Lib.hid (fun W => digits_any (s.extract (n + 1) sz) W hes)
    rw [hE1, hk] at HDG
    have HDG : Hid (∀ W, Calls Tryd.prog 93 #[.string (s.extract (n + 1) sz)] W fun e w' => e = .returned (.int .i64 0) ∧ Below W.heap.size W w') := HDG.out
    have hpre : Lib.hasPrefix (s.data.toList.drop n) [46] = true := by rw [hr, hasPrefix_one]; rfl
    obtain ⟨a, ha⟩ : ∃ a, a = s.extract 0 n := ⟨_, rfl⟩
    obtain ⟨A, hAd⟩ : ∃ A, A = lead s.data.toList := ⟨_, rfl⟩
    have HA : Hid (a.data.toList = A) := by
      show _ = _
      rw [ha, HT0.out, hAd]
    obtain ⟨ex, hex⟩ : ∃ ex : Int, ex = 0 := ⟨_, rfl⟩
    have hexb : -140737488355328 ≤ ex ∧ ex ≤ 0 := by omega
    have HM : Hid (mantL s.data.toList = (A, ex, n)) := by
      show _ = _
      have h := mantL_dot (l := s.data.toList) (r := r) (by rw [← HNL.out]; exact hr)
      rw [← HNL.out, if_neg h0, ← hAd, ← hex] at h
      exact h
    have h0' : ¬ 0 < (n : Int) := by omega
    have hn1sz : n + 1 ≤ sz := by omega
    rw [hpre, ← ha]
    clear hr hk hE1 hrl hes hpre ha hAd hTn HT0 HNL h0 hn0
    obtain ⟨p, rfl⟩ : ∃ p, p = n := ⟨_, rfl⟩
    have hps : p ≤ sz := hns
    go_wp2_with fail
    refine (HDG.out w5).mono ?_
    rintro e w2 ⟨rfl, hb2⟩
    have HB2 := Lib.hid (HB1.out.trans (hb2.mono hs1))
    have hs2 : w.heap.size ≤ w2.heap.size := by have := hb2.size; omega
    clear hb2 HDG HB1
  case' inr.inr =>
    have hpre : Lib.hasPrefix (s.data.toList.drop n) [46] = false := by
      rw [hasPrefix_one]
      cases h : s.data.toList.drop n with
      | nil => rfl
      | cons x t => exact beq_eq_false_iff_ne.2 fun h2 => hr t (by rw [h, h2])
    obtain ⟨a, ha⟩ : ∃ a, a = s.extract 0 n := ⟨_, rfl⟩
    obtain ⟨A, hAd⟩ : ∃ A, A = lead s.data.toList := ⟨_, rfl⟩
    have HA : Hid (a.data.toList = A) := by
      show _ = _
      rw [ha, HT0.out, hAd]
    obtain ⟨ex, hex⟩ : ∃ ex : Int, ex = 0 := ⟨_, rfl⟩
    have hexb : -140737488355328 ≤ ex ∧ ex ≤ 0 := by omega
    have HM : Hid (mantL s.data.toList = (A, ex, n)) := by
      show _ = _
      have h := mantL_plain (l := s.data.toList) (by rw [← HNL.out]; exact hr)
      rw [← HNL.out, ← hAd, ← hex] at h
      exact h
    rw [hpre, ← ha]
    clear hr hpre ha hAd hTn HT0 HNL
    obtain ⟨p, rfl⟩ : ∃ p, p = n := ⟨_, rfl⟩
    have hps : p ≤ sz := hns
    obtain ⟨w2, rfl⟩ : ∃ w2 : World, w2 = w5 := ⟨_, rfl⟩
    have HB2 := HB1
    have hs2 := hs1
    clear HB1 hs1
  all_goals
    by_cases hA0 : A = []
    · have hae : a.toList.isEmpty = true := by rw [ByteArray.toList_eq, HA.out, hA0]; rfl
      have h := HNUM.out
      unfold numeralL at h
      rw [HM.out] at h
      simp only at h
      rw [if_pos hA0] at h
      obtain ⟨h1, h2⟩ := Prod.mk.inj h
      obtain ⟨h3, h4⟩ := Prod.mk.inj h2
      have HAR : Hid ((⟨#[]⟩ : ByteArray).data.toList = A3) := by show _ = _; rw [← h1]
      have HX1 := Lib.hid h3
      have HX2 := Lib.hid h4
      clear h h1 h2 h3 h4 HNUM HM hA0 HA
      go_wp2_with fail
      go_ret3
      have hx1 := HX1.out
      have hx2 := HX2.out
      exact ⟨_, ret3 (by omega) (by omega), HAR.out, HB2.out⟩
    · have hae : a.toList.isEmpty = false := by rw [ByteArray.toList_eq, HA.out]; simpa using hA0
      have h := HNUM.out
      unfold numeralL at h
      rw [HM.out] at h
      simp only at h
      rw [if_neg hA0] at h
      obtain ⟨h1, h2⟩ := Prod.mk.inj h
      obtain ⟨h3, h4⟩ := Prod.mk.inj h2
      have HAR : Hid (a.data.toList = A3) := by show _ = _; rw [HA.out, h1]
      obtain ⟨Q, hQ⟩ : ∃ Q, Q = s.data.toList.drop p := ⟨_, rfl⟩
      rw [← hQ] at h3 h4
      have HX : Hid (X3 = ex + (expL Q).1 ∧ Y3 = p + (expL Q).2) := ⟨h3.symm, h4.symm⟩
      obtain ⟨q, hq⟩ : ∃ q, q = s.extract p sz := ⟨_, rfl⟩
      have hqe : s.extract p sz = q := hq.symm
      have HQ : Hid (q.data.toList = Q) := by
        show _ = _
        rw [hq, ext_list, hQ]
        exact List.take_of_length_le (by rw [List.length_drop, HSL.out]; omega)
      obtain ⟨qz, hqz⟩ : ∃ z, z = q.size := ⟨_, rfl⟩
      have hqz1 : q.size = qz := hqz.symm
      have HQL : Hid (Q.length = qz) := by show _ = _; rw [hqz, size_list, HQ.out]
      have hqp : qz + p = sz := by
        have h := HQL.out
        rw [hQ, List.length_drop, HSL.out] at h
        omega
      clear h h1 h2 h3 h4 HNUM HM hA0 HA hQ hq hqz
      rcases hQc : Q with _ | ⟨c, r⟩
      · have hqe0 : q.toList.isEmpty = true := by rw [ByteArray.toList_eq, HQ.out, hQc]; rfl
        have hX := HX.out
        rw [hQc] at hX
        obtain ⟨hx1, hx2⟩ := hX
        have HBB := HB2
        clear HX HQ HQL hQc
        simp only [expL] at hx1 hx2
        have HX1 := Lib.hid hx1
        have HX2 := Lib.hid hx2
        clear hx1 hx2
        go_wp2_with fail
        go_ret3
        have hx1 := HX1.out
        have hx2 := HX2.out
        exact ⟨_, ret3 (by omega) (by omega), HAR.out, HBB.out⟩
      · have hqe0 : q.toList.isEmpty = false := by rw [ByteArray.toList_eq, HQ.out, hQc]; rfl
        have hqz0 : 0 < qz := by have h := HQL.out; rw [hQc] at h; simp at h; omega
        have hqs0 : 0 < q.size := by omega
        have hq0 : q[0]'hqs0 = c := at_list q 0 hqs0 c (by rw [HQ.out, hQc]; rfl)
        have HQC : Hid (Q = c :: r) := hQc
        by_cases hce : c = 101 ∨ c = 69
        · have hc1 : (((q[0]'hqs0).toNat : Int) == 101) = true ∨ (((q[0]'hqs0).toNat : Int) == 101) = false ∧ (((q[0]'hqs0).toNat : Int) == 69) = true := by
            rw [hq0]
            rcases hce with h | h
            · left; rw [h]; decide
            · right; rw [h]; decide
          clear hq0 hqe0
          have hqe0 : q.toList.isEmpty = false := by rw [ByteArray.toList_eq, HQ.out, hQc]; rfl
          rcases hr : r with _ | ⟨c1, r1⟩
          · have HSK : Hid (signK Q = (1, false)) := by show _ = _; rw [hQc, hr]; rfl
            have hqz1' : qz = 1 := by have h := HQL.out; rw [hQc, hr] at h; simp at h; omega
            have hnot : ¬ 1 < (qz : Int) := by omega
            clear hQc hr hqz1'
            rcases hc1 with h101 | ⟨h101, h69⟩
            all_goals
              have hQk : Hid ((q.extract 1 qz).data.toList = Q.drop 1) := by
                show _ = _
                rw [ext_list, HQ.out]
                exact List.take_of_length_le (by rw [List.length_drop, HQL.out]; omega)
              have hqk : (q.extract 1 qz).size ≤ 140737488355328 := by
                rw [size_list, hQk.out, List.length_drop, HQL.out]; omega
              have HDG := Lib.hid (fun W => digits_any (q.extract 1 qz) W hqk)
              rw [hQk.out] at HDG
              have hml := lead_le (Q.drop 1)
              rw [List.length_drop, HQL.out] at hml
              have HEX : Hid (expL Q = if 0 < (lead (Q.drop 1)).length then (powL (lead (Q.drop 1)) false, 1 + (lead (Q.drop 1)).length) else (0, 0)) := by
                show _ = _
                unfold expL
                rw [HQC.out]
                simp only []
                rw [if_pos hce, ← HQC.out, HSK.out]
              have hqm : Hid ((q.extract 1 (1 + (lead (Q.drop 1)).length)).data.toList = lead (Q.drop 1)) := by
                show _ = _
                rw [ext_list, HQ.out, Nat.add_sub_cancel_left, lead_take]
              have hpl : -100000 ≤ powL (lead (Q.drop 1)) false ∧ powL (lead (Q.drop 1)) false ≤ 100000 := by
                have := powN_le (lead (Q.drop 1))
                unfold powL
                split <;> omega
              have HPW := Lib.hid (fun W h => power_any (q.extract 1 (1 + (lead (Q.drop 1)).length)) false W (by rw [hqm.out]; exact lead_digits _) h)
              rw [hqm.out] at HPW
              have HPS : Hid ((q.extract 1 (1 + (lead (Q.drop 1)).length)).size ≤ 140737488355328) := by
                show _ ≤ _
                rw [size_list, hqm.out]; omega
              generalize lead (Q.drop 1) = D at *
              generalize hm : D.length = m at *
              generalize powL D false = P at *
              have hq2 : 1 ≤ qz := by omega
              clear hQk hqk hqm hce
              go_wp2_with fail
              refine (HDG.out _).mono ?_
              rintro e w3 ⟨rfl, hb3⟩
              have HBB := Lib.hid (show Below w.heap.size w w3 by first | exact HB2.out.trans (hb3.mono hs2) | exact HB2.out.drew.trans (hb3.mono hs2))
              have hs3 : w2.heap.size ≤ w3.heap.size := hb3.size
              clear hb3 HDG HB2
              by_cases hm0 : 0 < m
              · have hX := HX.out
                rw [HEX.out, if_pos hm0] at hX
                obtain ⟨hx1, hx2⟩ := hX
                simp only at hx1 hx2
                have HX1 := Lib.hid hx1
                have HX2 := Lib.hid hx2
                clear HEX HX hx1 hx2
                have hm0' : 0 < (m : Int) := by omega
                have hkm : 1 + m ≤ qz := by omega
                go_wp2_with fail
                refine (HPW.out w3 HPS.out).mono ?_
                rintro e w4 ⟨rfl, hb4⟩
                have HBC := Lib.hid (HBB.out.trans (hb4.mono (by omega)))
                clear hb4 HPW HBB
                have HBB := HBC
                have hx1 := HX1.out
                have hx2 := HX2.out
                have HX1 := Lib.hid hx1
                have HX2 := Lib.hid hx2
                clear hx1 hx2
                go_wp2_with fail
                go_ret3
                have hx1 := HX1.out
                have hx2 := HX2.out
                exact ⟨_, ret3 (by omega) (by omega), HAR.out, HBB.out⟩
              · have hX := HX.out
                rw [HEX.out, if_neg hm0] at hX
                obtain ⟨hx1, hx2⟩ := hX
                clear HEX HX
                have hm0' : ¬ 0 < (m : Int) := by omega
                simp only at hx1 hx2
                have HX1 := Lib.hid hx1
                have HX2 := Lib.hid hx2
                clear hx1 hx2
                go_wp2_with fail
                go_ret3
                have hx1 := HX1.out
                have hx2 := HX2.out
                exact ⟨_, ret3 (by omega) (by omega), HAR.out, HBB.out⟩
          · have hqs1 : 1 < q.size := by have h := HQL.out; rw [hQc, hr] at h; simp at h; omega
            have hlt : 1 < (qz : Int) := by omega
            have hq1 : q[1]'hqs1 = c1 := at_list q 1 hqs1 c1 (by rw [HQ.out, hQc, hr]; rfl)
            by_cases h43 : c1 = 43
            · have HSK : Hid (signK Q = (2, false)) := by show _ = _; rw [hQc, hr, h43]; rfl
              have ht1 : (((q[1]'hqs1).toNat : Int) == 43) = true := by rw [hq1, h43]; decide
              have ht2 : (((q[1]'hqs1).toNat : Int) == 45) = false := by rw [hq1, h43]; decide
              clear hQc hr hq1
              rcases hc1 with h101 | ⟨h101, h69⟩
              all_goals
                go_wp2_with fail
                go_region
                have hQk : Hid ((q.extract 2 qz).data.toList = Q.drop 2) := by
                  show _ = _
                  rw [ext_list, HQ.out]
                  exact List.take_of_length_le (by rw [List.length_drop, HQL.out]; omega)
                have hqk : (q.extract 2 qz).size ≤ 140737488355328 := by
                  rw [size_list, hQk.out, List.length_drop, HQL.out]; omega
                have HDG := Lib.hid (fun W => digits_any (q.extract 2 qz) W hqk)
                rw [hQk.out] at HDG
                have hml := lead_le (Q.drop 2)
                rw [List.length_drop, HQL.out] at hml
                have HEX : Hid (expL Q = if 0 < (lead (Q.drop 2)).length then (powL (lead (Q.drop 2)) false, 2 + (lead (Q.drop 2)).length) else (0, 0)) := by
                  show _ = _
                  unfold expL
                  rw [HQC.out]
                  simp only []
                  rw [if_pos hce, ← HQC.out, HSK.out]
                have hqm : Hid ((q.extract 2 (2 + (lead (Q.drop 2)).length)).data.toList = lead (Q.drop 2)) := by
                  show _ = _
                  rw [ext_list, HQ.out, Nat.add_sub_cancel_left, lead_take]
                have hpl : -100000 ≤ powL (lead (Q.drop 2)) false ∧ powL (lead (Q.drop 2)) false ≤ 100000 := by
                  have := powN_le (lead (Q.drop 2))
                  unfold powL
                  split <;> omega
                have HPW := Lib.hid (fun W h => power_any (q.extract 2 (2 + (lead (Q.drop 2)).length)) false W (by rw [hqm.out]; exact lead_digits _) h)
                rw [hqm.out] at HPW
                have HPS : Hid ((q.extract 2 (2 + (lead (Q.drop 2)).length)).size ≤ 140737488355328) := by
                  show _ ≤ _
                  rw [size_list, hqm.out]; omega
                generalize lead (Q.drop 2) = D at *
                generalize hm : D.length = m at *
                generalize powL D false = P at *
                have hq2 : 2 ≤ qz := by omega
                clear hQk hqk hqm hce
                go_wp2_with fail
                refine (HDG.out _).mono ?_
                rintro e w3 ⟨rfl, hb3⟩
                have HBB := Lib.hid (show Below w.heap.size w w3 by first | exact HB2.out.trans (hb3.mono hs2) | exact HB2.out.drew.trans (hb3.mono hs2))
                have hs3 : w2.heap.size ≤ w3.heap.size := hb3.size
                clear hb3 HDG HB2
                by_cases hm0 : 0 < m
                · have hX := HX.out
                  rw [HEX.out, if_pos hm0] at hX
                  obtain ⟨hx1, hx2⟩ := hX
                  simp only at hx1 hx2
                  have HX1 := Lib.hid hx1
                  have HX2 := Lib.hid hx2
                  clear HEX HX hx1 hx2
                  have hm0' : 0 < (m : Int) := by omega
                  have hkm : 2 + m ≤ qz := by omega
                  go_wp2_with fail
                  refine (HPW.out w3 HPS.out).mono ?_
                  rintro e w4 ⟨rfl, hb4⟩
                  have HBC := Lib.hid (HBB.out.trans (hb4.mono (by omega)))
                  clear hb4 HPW HBB
                  have HBB := HBC
                  have hx1 := HX1.out
                  have hx2 := HX2.out
                  have HX1 := Lib.hid hx1
                  have HX2 := Lib.hid hx2
                  clear hx1 hx2
                  go_wp2_with fail
                  go_ret3
                  have hx1 := HX1.out
                  have hx2 := HX2.out
                  exact ⟨_, ret3 (by omega) (by omega), HAR.out, HBB.out⟩
                · have hX := HX.out
                  rw [HEX.out, if_neg hm0] at hX
                  obtain ⟨hx1, hx2⟩ := hX
                  clear HEX HX
                  have hm0' : ¬ 0 < (m : Int) := by omega
                  simp only at hx1 hx2
                  have HX1 := Lib.hid hx1
                  have HX2 := Lib.hid hx2
                  clear hx1 hx2
                  go_wp2_with fail
                  go_ret3
                  have hx1 := HX1.out
                  have hx2 := HX2.out
                  exact ⟨_, ret3 (by omega) (by omega), HAR.out, HBB.out⟩
            · by_cases h45 : c1 = 45
              · have HSK : Hid (signK Q = (2, true)) := by show _ = _; rw [hQc, hr, h45]; rfl
                have ht1 : (((q[1]'hqs1).toNat : Int) == 43) = false := by rw [hq1, h45]; decide
                have ht2 : (((q[1]'hqs1).toNat : Int) == 45) = true := by rw [hq1, h45]; decide
                clear hQc hr hq1
                rcases hc1 with h101 | ⟨h101, h69⟩
                all_goals
                  go_wp2_with fail
                  go_region
                  have hQk : Hid ((q.extract 2 qz).data.toList = Q.drop 2) := by
                    show _ = _
                    rw [ext_list, HQ.out]
                    exact List.take_of_length_le (by rw [List.length_drop, HQL.out]; omega)
                  have hqk : (q.extract 2 qz).size ≤ 140737488355328 := by
                    rw [size_list, hQk.out, List.length_drop, HQL.out]; omega
                  have HDG := Lib.hid (fun W => digits_any (q.extract 2 qz) W hqk)
                  rw [hQk.out] at HDG
                  have hml := lead_le (Q.drop 2)
                  rw [List.length_drop, HQL.out] at hml
                  have HEX : Hid (expL Q = if 0 < (lead (Q.drop 2)).length then (powL (lead (Q.drop 2)) true, 2 + (lead (Q.drop 2)).length) else (0, 0)) := by
                    show _ = _
                    unfold expL
                    rw [HQC.out]
                    simp only []
                    rw [if_pos hce, ← HQC.out, HSK.out]
                  have hqm : Hid ((q.extract 2 (2 + (lead (Q.drop 2)).length)).data.toList = lead (Q.drop 2)) := by
                    show _ = _
                    rw [ext_list, HQ.out, Nat.add_sub_cancel_left, lead_take]
                  have hpl : -100000 ≤ powL (lead (Q.drop 2)) true ∧ powL (lead (Q.drop 2)) true ≤ 100000 := by
                    have := powN_le (lead (Q.drop 2))
                    unfold powL
                    split <;> omega
                  have HPW := Lib.hid (fun W h => power_any (q.extract 2 (2 + (lead (Q.drop 2)).length)) true W (by rw [hqm.out]; exact lead_digits _) h)
                  rw [hqm.out] at HPW
                  have HPS : Hid ((q.extract 2 (2 + (lead (Q.drop 2)).length)).size ≤ 140737488355328) := by
                    show _ ≤ _
                    rw [size_list, hqm.out]; omega
                  generalize lead (Q.drop 2) = D at *
                  generalize hm : D.length = m at *
                  generalize powL D true = P at *
                  have hq2 : 2 ≤ qz := by omega
                  clear hQk hqk hqm hce
                  go_wp2_with fail
                  refine (HDG.out _).mono ?_
                  rintro e w3 ⟨rfl, hb3⟩
                  have HBB := Lib.hid (show Below w.heap.size w w3 by first | exact HB2.out.trans (hb3.mono hs2) | exact HB2.out.drew.trans (hb3.mono hs2))
                  have hs3 : w2.heap.size ≤ w3.heap.size := hb3.size
                  clear hb3 HDG HB2
                  by_cases hm0 : 0 < m
                  · have hX := HX.out
                    rw [HEX.out, if_pos hm0] at hX
                    obtain ⟨hx1, hx2⟩ := hX
                    simp only at hx1 hx2
                    have HX1 := Lib.hid hx1
                    have HX2 := Lib.hid hx2
                    clear HEX HX hx1 hx2
                    have hm0' : 0 < (m : Int) := by omega
                    have hkm : 2 + m ≤ qz := by omega
                    go_wp2_with fail
                    refine (HPW.out w3 HPS.out).mono ?_
                    rintro e w4 ⟨rfl, hb4⟩
                    have HBC := Lib.hid (HBB.out.trans (hb4.mono (by omega)))
                    clear hb4 HPW HBB
                    have HBB := HBC
                    have hx1 := HX1.out
                    have hx2 := HX2.out
                    have HX1 := Lib.hid hx1
                    have HX2 := Lib.hid hx2
                    clear hx1 hx2
                    go_wp2_with fail
                    go_ret3
                    have hx1 := HX1.out
                    have hx2 := HX2.out
                    exact ⟨_, ret3 (by omega) (by omega), HAR.out, HBB.out⟩
                  · have hX := HX.out
                    rw [HEX.out, if_neg hm0] at hX
                    obtain ⟨hx1, hx2⟩ := hX
                    clear HEX HX
                    have hm0' : ¬ 0 < (m : Int) := by omega
                    simp only at hx1 hx2
                    have HX1 := Lib.hid hx1
                    have HX2 := Lib.hid hx2
                    clear hx1 hx2
                    go_wp2_with fail
                    go_ret3
                    have hx1 := HX1.out
                    have hx2 := HX2.out
                    exact ⟨_, ret3 (by omega) (by omega), HAR.out, HBB.out⟩
              · have HSK : Hid (signK Q = (1, false)) := by
                  show _ = _
                  rw [hQc, hr]
                  exact signK_other c c1 r1 h43 h45
                have ht1 : (((q[1]'hqs1).toNat : Int) == 43) = false := by rw [hq1]; exact ne_lit c1 43 43 (by decide) h43
                have ht2 : (((q[1]'hqs1).toNat : Int) == 45) = false := by rw [hq1]; exact ne_lit c1 45 45 (by decide) h45
                clear hQc hr hq1
                rcases hc1 with h101 | ⟨h101, h69⟩
                all_goals
                  have hQk : Hid ((q.extract 1 qz).data.toList = Q.drop 1) := by
                    show _ = _
                    rw [ext_list, HQ.out]
                    exact List.take_of_length_le (by rw [List.length_drop, HQL.out]; omega)
                  have hqk : (q.extract 1 qz).size ≤ 140737488355328 := by
                    rw [size_list, hQk.out, List.length_drop, HQL.out]; omega
                  have HDG := Lib.hid (fun W => digits_any (q.extract 1 qz) W hqk)
                  rw [hQk.out] at HDG
                  have hml := lead_le (Q.drop 1)
                  rw [List.length_drop, HQL.out] at hml
                  have HEX : Hid (expL Q = if 0 < (lead (Q.drop 1)).length then (powL (lead (Q.drop 1)) false, 1 + (lead (Q.drop 1)).length) else (0, 0)) := by
                    show _ = _
                    unfold expL
                    rw [HQC.out]
                    simp only []
                    rw [if_pos hce, ← HQC.out, HSK.out]
                  have hqm : Hid ((q.extract 1 (1 + (lead (Q.drop 1)).length)).data.toList = lead (Q.drop 1)) := by
                    show _ = _
                    rw [ext_list, HQ.out, Nat.add_sub_cancel_left, lead_take]
                  have hpl : -100000 ≤ powL (lead (Q.drop 1)) false ∧ powL (lead (Q.drop 1)) false ≤ 100000 := by
                    have := powN_le (lead (Q.drop 1))
                    unfold powL
                    split <;> omega
                  have HPW := Lib.hid (fun W h => power_any (q.extract 1 (1 + (lead (Q.drop 1)).length)) false W (by rw [hqm.out]; exact lead_digits _) h)
                  rw [hqm.out] at HPW
                  have HPS : Hid ((q.extract 1 (1 + (lead (Q.drop 1)).length)).size ≤ 140737488355328) := by
                    show _ ≤ _
                    rw [size_list, hqm.out]; omega
                  generalize lead (Q.drop 1) = D at *
                  generalize hm : D.length = m at *
                  generalize powL D false = P at *
                  have hq2 : 1 ≤ qz := by omega
                  clear hQk hqk hqm hce
                  go_wp2_with fail
                  refine (HDG.out _).mono ?_
                  rintro e w3 ⟨rfl, hb3⟩
                  have HBB := Lib.hid (show Below w.heap.size w w3 by first | exact HB2.out.trans (hb3.mono hs2) | exact HB2.out.drew.trans (hb3.mono hs2))
                  have hs3 : w2.heap.size ≤ w3.heap.size := hb3.size
                  clear hb3 HDG HB2
                  by_cases hm0 : 0 < m
                  · have hX := HX.out
                    rw [HEX.out, if_pos hm0] at hX
                    obtain ⟨hx1, hx2⟩ := hX
                    simp only at hx1 hx2
                    have HX1 := Lib.hid hx1
                    have HX2 := Lib.hid hx2
                    clear HEX HX hx1 hx2
                    have hm0' : 0 < (m : Int) := by omega
                    have hkm : 1 + m ≤ qz := by omega
                    go_wp2_with fail
                    refine (HPW.out w3 HPS.out).mono ?_
                    rintro e w4 ⟨rfl, hb4⟩
                    have HBC := Lib.hid (HBB.out.trans (hb4.mono (by omega)))
                    clear hb4 HPW HBB
                    have HBB := HBC
                    have hx1 := HX1.out
                    have hx2 := HX2.out
                    have HX1 := Lib.hid hx1
                    have HX2 := Lib.hid hx2
                    clear hx1 hx2
                    go_wp2_with fail
                    go_ret3
                    have hx1 := HX1.out
                    have hx2 := HX2.out
                    exact ⟨_, ret3 (by omega) (by omega), HAR.out, HBB.out⟩
                  · have hX := HX.out
                    rw [HEX.out, if_neg hm0] at hX
                    obtain ⟨hx1, hx2⟩ := hX
                    clear HEX HX
                    have hm0' : ¬ 0 < (m : Int) := by omega
                    simp only at hx1 hx2
                    have HX1 := Lib.hid hx1
                    have HX2 := Lib.hid hx2
                    clear hx1 hx2
                    go_wp2_with fail
                    go_ret3
                    have hx1 := HX1.out
                    have hx2 := HX2.out
                    exact ⟨_, ret3 (by omega) (by omega), HAR.out, HBB.out⟩
        · have hx := HX.out
          have hex : expL Q = (0, 0) := by rw [hQc]; unfold expL; simp only []; rw [if_neg hce]
          rw [hex] at hx
          obtain ⟨hx1, hx2⟩ := hx
          have h101 : (((q[0]'hqs0).toNat : Int) == 101) = false := by rw [hq0]; exact ne_lit c 101 101 (by decide) fun h => hce (.inl h)
          have h69 : (((q[0]'hqs0).toNat : Int) == 69) = false := by rw [hq0]; exact ne_lit c 69 69 (by decide) fun h => hce (.inr h)
          have HBB := HB2
          clear HX hex hq0 hQc HQC
          simp only at hx1 hx2
          have HX1 := Lib.hid hx1
          have HX2 := Lib.hid hx2
          clear hx1 hx2
          go_wp2_with fail
          go_ret3
          have hx1 := HX1.out
          have hx2 := HX2.out
          exact ⟨_, ret3 (by omega) (by omega), HAR.out, HBB.out⟩
end Go.Proofs.YtkpikkeblogdcaaDoor
end

section
/- Package num: Prefix, Looks. -/
namespace Go.Proofs.YtkpikkeblogdcaaDoor
open Go.RowKit
set_option linter.unusedVariables false

theorem lead_app_digits {l r : List UInt8} : Digits (lead l ++ lead r) := by
  intro c hc
  rcases List.mem_append.1 hc with h | h
  · exact lead_digits l c h
  · exact lead_digits r c h
theorem mantL_facts (l : List UInt8) : Digits (mantL l).1 ∧ -(l.length : Int) ≤ (mantL l).2.1 ∧ (mantL l).2.1 ≤ 0 ∧ (mantL l).2.2 ≤ l.length := by
  have hl := lead_le l
  by_cases h : ∃ r, l.drop (lead l).length = 46 :: r
  · obtain ⟨r, hr⟩ := h
    have h2 := lead_le r
    have h3 := congrArg List.length hr
    rw [List.length_drop, List.length_cons] at h3
    rw [mantL_dot hr]
    split
    · exact ⟨lead_app_digits, by simp only []; omega, by simp only []; omega, by simp only []; omega⟩
    · exact ⟨lead_digits l, by simp only []; omega, by simp only []; omega, hl⟩
  · rw [mantL_plain fun r hr => h ⟨r, hr⟩]
    exact ⟨lead_digits l, by simp only []; omega, by simp only []; omega, hl⟩
theorem expL_facts (q : List UInt8) : -100000 ≤ (expL q).1 ∧ (expL q).1 ≤ 100000 ∧ (expL q).2 ≤ q.length := by
  cases q with
  | nil => simp [expL]
  | cons c r =>
    unfold expL
    simp only []
    split
    · split
      · have h1 := powN_le (lead ((c :: r).drop (signK (c :: r)).1))
        have h2 := lead_le ((c :: r).drop (signK (c :: r)).1)
        rw [List.length_drop] at h2
        refine ⟨?_, ?_, ?_⟩
        · simp only []; unfold powL; split <;> omega
        · simp only []; unfold powL; split <;> omega
        · simp only []; omega
      · simp
    · simp
theorem numeralL_facts (l : List UInt8) : Digits (numeralL l).1 ∧ -(l.length : Int) - 100000 ≤ (numeralL l).2.1 ∧ (numeralL l).2.1 ≤ 100000 ∧ (numeralL l).2.2 ≤ l.length := by
  obtain ⟨h1, h2, h3, h4⟩ := mantL_facts l
  obtain ⟨e1, e2, e3⟩ := expL_facts (l.drop (mantL l).2.2)
  rw [List.length_drop] at e3
  unfold numeralL
  split
  · exact ⟨by intro c hc; simp at hc, by simp only []; omega, by simp only []; omega, by simp only []; omega⟩
  · exact ⟨h1, by simp only []; omega, by simp only []; omega, by simp only []; omega⟩

/-- blanks -/
def wsL : List UInt8 := [32, 9, 10]
def unblank (l : List UInt8) : List UInt8 := l.dropWhile (wsL.contains ·)
/-- how many bytes a sign takes, and whether it is a minus -/
def signB : List UInt8 → Nat × Bool
  | 45 :: _ => (1, true)
  | 43 :: _ => (1, false)
  | _ => (0, false)
@[go_sem] theorem run_neg64 (R : Nat) (w : World) : (Op.unary UnOp.neg (Value.float FloatKind.f64 R)).run Tryd.prog w = .ok (.float .f64 (Op.negFloat .f64 R)) w := rfl
theorem negF {R : Nat} (h : R < 9223372036854775808) : Op.negFloat .f64 R = R + 9223372036854775808 := by
  have e : Op.negFloat .f64 R = R ^^^ 2 ^ 63 := rfl
  rw [e, show (9223372036854775808 : Nat) = 2 ^ 63 by decide, Nat.add_comm]
  have h63 : R < 2 ^ 63 := h
  refine Nat.eq_of_testBit_eq fun i => ?_
  rw [Nat.testBit_xor, Nat.testBit_two_pow]
  rcases Nat.lt_trichotomy i 63 with hi | hi | hi
  · rw [Nat.testBit_two_pow_add_gt hi, decide_eq_false (by omega), Bool.xor_false]
  · subst hi
    rw [Nat.testBit_two_pow_add_eq, decide_eq_true rfl, Bool.xor_true]
  · rw [Nat.testBit_lt_two_pow (Nat.lt_of_lt_of_le h63 (p2_le (a := 63) (b := i) (by omega))), decide_eq_false (by omega), Nat.testBit_lt_two_pow (x := 2 ^ 63 + R) (i := i)]
    · rfl
    · have h2 := p2_le (a := 64) (b := i) (by omega)
      have h3 : (2 : Nat) ^ 64 = 2 ^ 63 + 2 ^ 63 := by decide
      omega
theorem readN_le (l : List UInt8) (e : Int) : readN l e < 9223372036854775808 := by
  have h : readN l e ≤ 9218868437227405312 := by
    unfold readN
    split
    · omega
    · split
      · exact readB_le _ _
      · split
        · exact readB_le _ _
        · exact readB_le _ _
  omega
theorem retF {x x' : Nat} {y y' : Int} (hx : x = x') (hy : y = y') : Ending.returned (.tuple #[.float .f64 x, .int .i64 y]) = Ending.returned (.tuple #[.float .f64 x', .int .i64 y']) := by
  subst hx; subst hy; rfl
theorem signB_other (c : UInt8) (r : List UInt8) (h1 : c ≠ 45) (h2 : c ≠ 43) : signB (c :: r) = (0, false) := by
  unfold signB
  split
  · rename_i h; injection h with h _; exact absurd h h1
  · rename_i h; injection h with h _; exact absurd h h2
  · rfl
theorem mantL_len (l : List UInt8) : (mantL l).1.length ≤ l.length := by
  have hl := lead_le l
  by_cases h : ∃ r, l.drop (lead l).length = 46 :: r
  · obtain ⟨r, hr⟩ := h
    have h2 := lead_le r
    have h3 := congrArg List.length hr
    rw [List.length_drop, List.length_cons] at h3
    rw [mantL_dot hr]
    split
    · simp only [List.length_append]; omega
    · exact hl
  · rw [mantL_plain fun r hr => h ⟨r, hr⟩]
    exact hl
theorem numeralL_len (l : List UInt8) : (numeralL l).1.length ≤ l.length := by
  unfold numeralL
  split
  · simp
  · exact mantL_len l
/-- what is read behind blanks and a sign -/
def coreL (l : List UInt8) : List UInt8 × Int × Nat := numeralL ((unblank l).drop (signB (unblank l)).1)
/-- how many bytes Prefix takes -/
def prefN (l : List UInt8) : Nat := if (coreL l).2.2 = 0 then 0 else l.length - (unblank l).length + (signB (unblank l)).1 + (coreL l).2.2
/-- the float of what is read, without its sign -/
def prefV (l : List UInt8) : Nat := if (coreL l).2.2 = 0 then 0 else readN (coreL l).1 (coreL l).2.1
/-- is it below nought -/
def prefM (l : List UInt8) : Bool := if (coreL l).2.2 = 0 then false else (signB (unblank l)).2

/-- the bits of what Prefix reads -/
def prefB (l : List UInt8) : Nat := if prefM l then prefV l + 9223372036854775808 else prefV l
theorem TrimLeft_ws (s : ByteArray) (w : World) :
    Calls Tryd.prog 36 #[.string s, .string ⟨#[32, 9, 10]⟩] w fun e w' => e = .returned (.string ⟨(unblank s.data.toList).toArray⟩) ∧ Below w.heap.size w w' :=
  Any.strings_TrimLeft_laid Tryd.lays161 (by kernel_rfl) s ⟨#[32, 9, 10]⟩ w (by decide) (ascii_of_all (by decide))
theorem Trim_ws (s : ByteArray) (w : World) (hs : s.size ≤ 9223372036854775807) :
    Calls Tryd.prog 35 #[.string s, .string ⟨#[32, 9, 10]⟩] w fun e w' => e = .returned (.string ⟨(Lib.trimS s.data.toList wsL).toArray⟩) ∧ Below w.heap.size w w' :=
  Any.strings_Trim_laid Tryd.lays160 (by kernel_rfl) s ⟨#[32, 9, 10]⟩ w hs (by decide) (ascii_of_all (by decide))

set_option maxRecDepth 100000 in
set_option maxHeartbeats 4000000 in
theorem Prefix_any (s : ByteArray) (w : World) (hs : s.size ≤ 140737488355328) :
    Calls Tryd.prog 31 #[.string s] w fun e w' => e = .returned (.tuple #[.float .f64 (prefB s.data.toList), .int .i64 (prefN s.data.toList : Nat)]) ∧ Below w.heap.size w w' := by
  obtain ⟨t, ht⟩ : ∃ t : ByteArray, t = ⟨(unblank s.data.toList).toArray⟩ := ⟨_, rfl⟩
  have HT := Lib.hid (TrimLeft_ws s w)
  rw [← ht] at HT
  have htl : unblank s.data.toList = t.data.toList := by rw [ht]
  obtain ⟨tz, htz⟩ : ∃ z, z = t.size := ⟨_, rfl⟩
  obtain ⟨sz, hsz⟩ : ∃ z, z = s.size := ⟨_, rfl⟩
  have hts : t.size = tz := htz.symm
  have hss : s.size = sz := hsz.symm
  have hsl : s.data.toList.length = sz := by rw [hsz]; exact (size_list s).symm
  have htl2 : t.data.toList.length = tz := by rw [htz]; exact (size_list t).symm
  have hle : tz ≤ sz := by
    rw [← hsl, ← htl2, ← htl]
    exact (List.dropWhile_sublist _).length_le
  have hszb : sz ≤ 140737488355328 := by omega
  obtain ⟨sg, mi, hsm⟩ : ∃ sg mi, signB t.data.toList = (sg, mi) := ⟨_, _, rfl⟩
  obtain ⟨A, X, Y, hco⟩ : ∃ A X Y, coreL s.data.toList = (A, X, Y) := ⟨_, _, _, rfl⟩
  have hco2 : numeralL (t.data.toList.drop sg) = (A, X, Y) := by
    rw [← hco]; unfold coreL; rw [htl, hsm]
  obtain ⟨f1, f2, f3, f4⟩ := numeralL_facts (t.data.toList.drop sg)
  rw [hco2] at f1 f2 f3 f4
  rw [List.length_drop, htl2] at f2 f4
  simp only at f1 f2 f3 f4
  have hV : prefV s.data.toList = if Y = 0 then 0 else readN A X := by unfold prefV; rw [hco]
  have hN : prefN s.data.toList = if Y = 0 then 0 else sz - tz + sg + Y := by unfold prefN; rw [hco, hsl, htl, htl2, hsm]
  have hM : prefM s.data.toList = if Y = 0 then false else mi := by unfold prefM; rw [hco, htl, hsm]
  have hB : prefB s.data.toList = if Y = 0 then 0 else if mi then readN A X + 9223372036854775808 else readN A X := by
    unfold prefB
    rw [hV, hM]
    by_cases h : Y = 0
    · rw [if_pos h, if_pos h, if_pos h]
      exact if_neg (by decide)
    · rw [if_neg h, if_neg h, if_neg h]
  have HV := Lib.hid hB
  have HN := Lib.hid hN
  generalize prefB s.data.toList = V at *
  generalize prefN s.data.toList = N at *
  have hP1 := Lib.hid (fun W => Tryd.strings_HasPrefix t ⟨#[45]⟩ W)
  have hP2 := Lib.hid (fun W => Tryd.strings_HasPrefix t ⟨#[43]⟩ W)
  have hcase : (sg = 1 ∧ mi = true ∧ Lib.hasPrefix t.data.toList [45] = true) ∨ (sg = 1 ∧ mi = false ∧ Lib.hasPrefix t.data.toList [45] = false ∧ Lib.hasPrefix t.data.toList [43] = true) ∨ (sg = 0 ∧ mi = false ∧ Lib.hasPrefix t.data.toList [45] = false ∧ Lib.hasPrefix t.data.toList [43] = false) := by
    rw [hasPrefix_one, hasPrefix_one]
    cases hl : t.data.toList with
    | nil =>
      rw [hl] at hsm
      obtain ⟨h1, h2⟩ := Prod.mk.inj (hsm.symm.trans (rfl : signB [] = (0, false)))
      exact .inr (.inr ⟨h1, h2, rfl, rfl⟩)
    | cons c r =>
      rw [hl] at hsm
      by_cases h45 : c = 45
      · subst h45
        obtain ⟨h1, h2⟩ := Prod.mk.inj (hsm.symm.trans (rfl : signB (45 :: r) = (1, true)))
        exact .inl ⟨h1, h2, rfl⟩
      · by_cases h43 : c = 43
        · subst h43
          obtain ⟨h1, h2⟩ := Prod.mk.inj (hsm.symm.trans (rfl : signB (43 :: r) = (1, false)))
          exact .inr (.inl ⟨h1, h2, rfl, rfl⟩)
        · obtain ⟨h1, h2⟩ := Prod.mk.inj (hsm.symm.trans (signB_other c r h45 h43))
          exact .inr (.inr ⟨h1, h2, beq_eq_false_iff_ne.2 h45, beq_eq_false_iff_ne.2 h43⟩)
  have HTL2 := Lib.hid htl2
  have HF1 := Lib.hid f1
  have HNU : Hid (∀ (u : ByteArray) (W : World), u.size ≤ 140737488355328 → u.data.toList = t.data.toList.drop sg → Calls Tryd.prog 56 #[.string u] W fun e w' => ∃ a : ByteArray, e = .returned (.tuple #[.string a, .int .i64 X, .int .i64 (Y : Nat)]) ∧ a.data.toList = A ∧ a.size ≤ 140737488355328 ∧ Below W.heap.size W w') := by
    intro u W hu hul
    refine (numeral_any u W hu).mono ?_
    rintro e w' ⟨a, rfl, ha, hb⟩
    rw [hul, hco2] at ha ⊢
    refine ⟨a, rfl, ha, ?_, hb⟩
    have h := numeralL_len (t.data.toList.drop sg)
    rw [hco2, List.length_drop, htl2] at h
    rw [size_list, ha]
    have h2 : A.length ≤ tz - sg := h
    show A.length ≤ _
    omega
  have HRD : Hid (∀ (a : ByteArray) (W : World), a.data.toList = A → a.size ≤ 140737488355328 → Calls Tryd.prog 57 #[.string a, .int .i64 X] W fun e w' => e = .returned (.float .f64 (readN A X)) ∧ Below W.heap.size W w') := by
    intro a W ha hu
    have h := read_any a X W (by rw [ha]; exact f1) hu (by omega) (by omega)
    rw [ha] at h
    exact h
  have HEX : Hid (∀ i, i ≤ tz → (t.extract i tz).data.toList = t.data.toList.drop i ∧ (t.extract i tz).size ≤ 140737488355328) := by
    intro i hi
    have h1 : (t.extract i tz).data.toList = t.data.toList.drop i := by
      rw [ext_list]
      exact List.take_of_length_le (by rw [List.length_drop, htl2]; omega)
    refine ⟨h1, ?_⟩
    rw [size_list, h1, List.length_drop, htl2]; omega
  have HLP : Hid (∀ c, Lib.hasPrefix t.data.toList [c] = true → 1 ≤ tz) := by
    intro c h
    rw [hasPrefix_one] at h
    rcases Nat.eq_zero_or_pos tz with h0 | h0
    · have : t.data.toList = [] := List.eq_nil_of_length_eq_zero (by omega)
      rw [this] at h; cases h
    · exact h0
  have HRB : Hid (readN A X < 9223372036854775808) := readN_le A X
  generalize readN A X = R at *
  clear ht htl htz hsz hsl htl2 hs hco hco2 f1 hV hN hM hB hsm
  have hd0 : (sz : Int) - tz = ((sz - tz : Nat) : Int) := by omega
  obtain ⟨bl, hbl⟩ : ∃ b, b = sz - tz := ⟨_, rfl⟩
  rw [← hbl] at hd0 HN
  have hblb : bl ≤ sz := by omega
  clear hbl
  go_enter Tryd.func31, Tryd.ntmps31
  go_wp2_with fail
  refine (HT.out).mono ?_
  rintro e w1 ⟨rfl, hb1⟩
  have HB1 := Lib.hid hb1
  have hs1 := hb1.size
  clear hb1 HT
  go_wp2_with fail
  refine (hP1.out w1).mono ?_
  rintro e w2 ⟨rfl, rfl⟩
  clear hP1
  rcases hcase with ⟨rfl, rfl, h45⟩ | ⟨rfl, rfl, h45, h43⟩ | ⟨rfl, rfl, h45, h43⟩
  · have htz1 := HLP.out 45 h45
    rw [h45]
    clear HLP h45
    have hu := HEX.out 1 (by omega)
    have hu1 := Lib.hid hu.1
    have hu2 := Lib.hid hu.2
    clear hu
    go_wp2_with fail
    refine (HNU.out _ _ hu2.out hu1.out).mono ?_
    rintro e w3 ⟨a, rfl, ha, hza, hb3⟩
    have HA := Lib.hid ha
    have HZA := Lib.hid hza
    have HB3 := Lib.hid (HB1.out.trans (hb3.mono hs1))
    have hs3 := hb3.size
    clear hb3 HB1 HNU ha hza hu1 hu2
    by_cases hY : Y = 0
    · have hN := HN.out
      have hV := HV.out
      rw [if_pos hY] at hN hV
      subst hY
      have HN2 := Lib.hid hN
      have HV2 := Lib.hid hV
      clear hN hV HN HV
      go_wp2_with fail
      go_ret2
      exact ⟨retF (by rw [HV2.out]) (by rw [HN2.out]; rfl), HB3.out⟩
    · have hN := HN.out
      have hV := HV.out
      rw [if_neg hY] at hN hV
      have HN2 := Lib.hid hN
      have HV2 := Lib.hid hV
      have hY' : (Y : Int) ≠ 0 := by omega
      clear hN hV HN HV hY
      go_wp2_with fail
      refine (HRD.out a w3 HA.out HZA.out).mono ?_
      rintro e w4 ⟨rfl, hb4⟩
      have HB4 := Lib.hid (HB3.out.trans (hb4.mono (by omega)))
      clear hb4 HB3 HRD
      go_wp2_with fail
      go_ret2
      exact ⟨retF (by rw [HV2.out, if_pos trivial, negF HRB.out]) (by rw [HN2.out]; omega), HB4.out⟩
  · have htz1 := HLP.out 43 h43
    rw [h45]
    go_wp2_with fail
    refine (hP2.out _).mono ?_
    rintro e w2 ⟨rfl, rfl⟩
    rw [h43]
    clear HLP h45 h43 hP2
    have hu := HEX.out 1 (by omega)
    have hu1 := Lib.hid hu.1
    have hu2 := Lib.hid hu.2
    clear hu
    go_wp2_with fail
    refine (HNU.out _ _ hu2.out hu1.out).mono ?_
    rintro e w3 ⟨a, rfl, ha, hza, hb3⟩
    have HA := Lib.hid ha
    have HZA := Lib.hid hza
    have HB3 := Lib.hid (HB1.out.trans (hb3.mono hs1))
    have hs3 := hb3.size
    clear hb3 HB1 HNU ha hza hu1 hu2
    by_cases hY : Y = 0
    · have hN := HN.out
      have hV := HV.out
      rw [if_pos hY] at hN hV
      subst hY
      have HN2 := Lib.hid hN
      have HV2 := Lib.hid hV
      clear hN hV HN HV
      go_wp2_with fail
      go_ret2
      exact ⟨retF (by rw [HV2.out]) (by rw [HN2.out]; rfl), HB3.out⟩
    · have hN := HN.out
      have hV := HV.out
      rw [if_neg hY] at hN hV
      have HN2 := Lib.hid hN
      have HV2 := Lib.hid hV
      have hY' : (Y : Int) ≠ 0 := by omega
      clear hN hV HN HV hY
      go_wp2_with fail
      refine (HRD.out a w3 HA.out HZA.out).mono ?_
      rintro e w4 ⟨rfl, hb4⟩
      have HB4 := Lib.hid (HB3.out.trans (hb4.mono (by omega)))
      clear hb4 HB3 HRD
      go_wp2_with fail
      go_ret2
      exact ⟨retF (by rw [HV2.out, if_neg Bool.false_ne_true]) (by rw [HN2.out]; omega), HB4.out⟩
  · rw [h45]
    go_wp2_with fail
    refine (hP2.out _).mono ?_
    rintro e w2 ⟨rfl, rfl⟩
    rw [h43]
    clear HLP h45 h43 hP2
    have hu := HEX.out 0 (by omega)
    have hu1 := Lib.hid hu.1
    have hu2 := Lib.hid hu.2
    clear hu
    go_wp2_with fail
    refine (HNU.out _ _ hu2.out hu1.out).mono ?_
    rintro e w3 ⟨a, rfl, ha, hza, hb3⟩
    have HA := Lib.hid ha
    have HZA := Lib.hid hza
    have HB3 := Lib.hid (HB1.out.trans (hb3.mono hs1))
    have hs3 := hb3.size
    clear hb3 HB1 HNU ha hza hu1 hu2
    by_cases hY : Y = 0
    · have hN := HN.out
      have hV := HV.out
      rw [if_pos hY] at hN hV
      subst hY
      have HN2 := Lib.hid hN
      have HV2 := Lib.hid hV
      clear hN hV HN HV
      go_wp2_with fail
      go_ret2
      exact ⟨retF (by rw [HV2.out]) (by rw [HN2.out]; rfl), HB3.out⟩
    · have hN := HN.out
      have hV := HV.out
      rw [if_neg hY] at hN hV
      have HN2 := Lib.hid hN
      have HV2 := Lib.hid hV
      have hY' : (Y : Int) ≠ 0 := by omega
      clear hN hV HN HV hY
      go_wp2_with fail
      refine (HRD.out a w3 HA.out HZA.out).mono ?_
      rintro e w4 ⟨rfl, hb4⟩
      have HB4 := Lib.hid (HB3.out.trans (hb4.mono (by omega)))
      clear hb4 HB3 HRD
      go_wp2_with fail
      go_ret2
      exact ⟨retF (by rw [HV2.out, if_neg Bool.false_ne_true]) (by rw [HN2.out]; omega), HB4.out⟩

/-- does the whole text look like a number -/
def looksL (l : List UInt8) : Bool := decide (0 < prefN l) && (Lib.trimS (l.drop (prefN l)) wsL).isEmpty
theorem unblank_le (l : List UInt8) : (unblank l).length ≤ l.length := (List.dropWhile_sublist _).length_le
theorem signB_le : ∀ t : List UInt8, (signB t).1 ≤ t.length
  | [] => Nat.le_refl _
  | c :: r => by
    unfold signB
    split <;> simp
theorem prefN_le (l : List UInt8) : prefN l ≤ l.length := by
  unfold prefN
  split
  · exact Nat.zero_le _
  · have h1 := (numeralL_facts ((unblank l).drop (signB (unblank l)).1)).2.2.2
    have h2 := unblank_le l
    have h3 := signB_le (unblank l)
    rw [List.length_drop] at h1
    unfold coreL
    omega

set_option maxRecDepth 100000 in
set_option maxHeartbeats 4000000 in
theorem Looks_any (s : ByteArray) (w : World) (hs : s.size ≤ 140737488355328) :
    Calls Tryd.prog 32 #[.string s] w fun e w' => e = .returned (.bool (looksL s.data.toList)) ∧ Below w.heap.size w w' := by
  have HP := Lib.hid (Prefix_any s w hs)
  obtain ⟨sz, hsz⟩ : ∃ z, z = s.size := ⟨_, rfl⟩
  have hss : s.size = sz := hsz.symm
  have hsl : s.data.toList.length = sz := by rw [hsz]; exact (size_list s).symm
  have hle := prefN_le s.data.toList
  rw [hsl] at hle
  have HL : Hid (looksL s.data.toList = (decide (0 < prefN s.data.toList) && (Lib.trimS (s.data.toList.drop (prefN s.data.toList)) wsL).isEmpty)) := rfl
  generalize looksL s.data.toList = R at *
  generalize prefB s.data.toList = B at *
  generalize prefN s.data.toList = n at *
  have hE : (s.extract n sz).data.toList = s.data.toList.drop n := by
    rw [ext_list]
    exact List.take_of_length_le (by rw [List.length_drop, hsl]; omega)
  have HTR := Lib.hid (fun W => Trim_ws (s.extract n sz) W (by rw [size_list, hE, List.length_drop, hsl]; omega))
  rw [hE] at HTR
  obtain ⟨T, hT⟩ : ∃ T : ByteArray, T = ⟨(Lib.trimS (s.data.toList.drop n) wsL).toArray⟩ := ⟨_, rfl⟩
  rw [← hT] at HTR
  have hTe : Hid (T.toList.isEmpty = (Lib.trimS (s.data.toList.drop n) wsL).isEmpty) := by show _ = _; rw [ByteArray.toList_eq, hT]
  have hszb : sz ≤ 140737488355328 := by omega
  clear hE hsl hsz hT hs
  go_enter Tryd.func32, Tryd.ntmps32
  go_wp2_with fail
  refine HP.out.mono ?_
  rintro e w1 ⟨rfl, hb1⟩
  have HB1 := Lib.hid hb1
  have hs1 := hb1.size
  clear hb1 HP
  rcases Nat.eq_zero_or_pos n with h0 | h0
  · subst h0
    have HR : Hid (R = false) := by show _ = _; rw [HL.out]; rfl
    clear HL hTe HTR
    go_wp2_with fail
    go_ret
    exact ⟨by rw [HR.out]; rfl, HB1.out⟩
  · have h0' : 0 < (n : Int) := by omega
    have HR : Hid (R = T.toList.isEmpty) := by show _ = _; rw [HL.out, hTe.out, decide_eq_true h0]; rfl
    clear HL hTe h0
    go_wp2_with fail
    refine (HTR.out w1).mono ?_
    rintro e w2 ⟨rfl, hb2⟩
    have HB2 := Lib.hid (HB1.out.trans (hb2.mono hs1))
    clear hb2 HB1 HTR
    go_wp2_with fail
    go_ret
    exact ⟨by rw [HR.out]; rfl, HB2.out⟩
end Go.Proofs.YtkpikkeblogdcaaDoor
end

section
/- Package num: base, and Literal of a base of sixteen. -/
namespace Go.Proofs.YtkpikkeblogdcaaDoor
open Go.RowKit
set_option linter.unusedVariables false

/-- the digits of base sixteen -/
def hexS : ByteArray := ⟨#[48, 49, 50, 51, 52, 53, 54, 55, 56, 57, 97, 98, 99, 100, 101, 102]⟩
/-- the digit that a byte is, or less than 0 -/
def hexD (c : UInt8) : Int := Lib.indexByte hexS.data.toList (c.toNat ||| 32).toUInt8
/-- the number of digits of base sixteen, and how many they are; none: an operation is not valid -/
def baseO : List UInt8 → Nat → Nat → Option (Nat × Nat)
  | [], x, n => some (x, n)
  | c :: l, x, n => if hexD c < 0 ∨ c.toNat < 48 then some (x, n) else
    (FloatKind.f64.format.mul x 4625196817309499392).bind fun y => (FloatKind.f64.format.add y (floatOfInt FloatKind.f64 (hexD c))).bind fun z => baseO l z (n + 1)

theorem indexByte_lt (l : List UInt8) (c : UInt8) : Lib.indexByte l c ≤ (l.length : Int) := by
  induction l with
  | nil => simp [Lib.indexByte]
  | cons b l ih =>
    unfold Lib.indexByte
    rw [List.length_cons]
    split
    · omega
    · split <;> omega
set_option maxRecDepth 100000 in
set_option maxHeartbeats 4000000 in
theorem base_any (s : ByteArray) (X N : Nat) (w : World) (hs : s.size ≤ 1000) (h : baseO s.data.toList 0 0 = some (X, N)) :
    Calls Tryd.prog 91 #[.string s, .string hexS, .int .i64 4] w fun e w' => e = .returned (.tuple #[.float .f64 X, .int .i64 N]) ∧ w = w' := by
  have HI := Lib.hid (fun c => Tryd.strings_IndexByte hexS c w)
  have e16 : floatOfInt FloatKind.f64 16 = 4625196817309499392 := by kernel_rfl
  generalize hS : hexS = S at *
  have HS := Lib.hid hS
  clear hS
  have H := Lib.hid h
  clear h
  go_enter Tryd.func91, Tryd.ntmps91
  go_wp2_with fail
  go_loop [8, 9] (fun xv nv => ∃ (x n : Nat), xv = .float .f64 x ∧ nv = .int .i64 n ∧ n ≤ s.size ∧ baseO (s.data.toList.drop n) x n = some (X, N)) (fun _ nv => s.size - (intOf nv).toNat)
  case atStart => exact ⟨0, 0, rfl, rfl, Nat.zero_le _, H.out⟩
  case round =>
    obtain ⟨x, n, rfl, rfl, h1, h2⟩ := hrel
    obtain ⟨sz, hsz⟩ : ∃ sz, sz = s.size := ⟨_, rfl⟩
    have hl : s.data.toList.length = s.size := (size_list s).symm
    rcases Nat.lt_or_ge n s.size with hn | hn
    · have hd : s.data.toList.drop n = s.data.toList[n]'(by omega) :: s.data.toList.drop (n + 1) := List.drop_eq_getElem_cons (by omega)
      have hc : s[n] = s.data.toList[n]'(by omega) := by
        apply at_list
        rw [List.getElem?_eq_getElem]
      rw [hd, ← hc] at h2
      generalize hC : s[n] = c at *
      have hcl : c.toNat < 256 := c.toNat_lt
      have b1 := u8_or_nat c.toNat 32 hcl (by decide)
      obtain ⟨o, ho⟩ : ∃ o, o = c.toNat ||| 32 := ⟨_, rfl⟩
      have b2 : bits .or .u8 (c.toNat : Int) 32 = (o : Int) := by rw [ho]; exact b1
      have HC := Lib.hid (HI.out (o : Int))
      have hx : Lib.indexByte S.data.toList ((o : Int).toNat.toUInt8) = hexD c := by
        unfold hexD; rw [HS.out, ho]; rfl
      rw [hx] at HC
      rw [baseO] at h2
      have hdb : -1 ≤ hexD c ∧ hexD c ≤ 16 := ⟨Lib.indexByte_ge _ _, indexByte_lt _ _⟩
      have hnI : (n : Int) < (s.size : Int) := by omega
      generalize hexD c = d at *
      clear hd hc b1 ho hx hl HI
      by_cases hb : d < 0 ∨ c.toNat < 48
      · rw [if_pos hb] at h2
        have h4 := Option.some.inj h2
        obtain ⟨rfl, rfl⟩ := Prod.mk.inj h4
        clear h2 h4
        rcases Int.lt_or_le d 0 with hd0 | hd0
        · go_wp2_with fail
          refine HC.out.mono ?_
          rintro e w1 ⟨rfl, rfl⟩
          go_wp2_with fail
          go_ret2
          exact ⟨rfl, rfl⟩
        · have hc48 : (c.toNat : Int) < 48 := by omega
          go_wp2_with fail
          refine HC.out.mono ?_
          rintro e w1 ⟨rfl, rfl⟩
          go_wp2_with fail
          go_ret2
          exact ⟨rfl, rfl⟩
      · rw [if_neg hb] at h2
        rw [Option.bind_eq_some_iff] at h2
        obtain ⟨y, h4, h5⟩ := h2
        rw [Option.bind_eq_some_iff] at h5
        obtain ⟨z, h6, h7⟩ := h5
        have H7 := Lib.hid h7
        have m1 : ∀ t w, (binOp .mul t (.float .f64 x) (.float .f64 4625196817309499392)).run Tryd.prog w = .ok (.float .f64 y) w := fun t w => run_float_arith w .mul t .f64 x _ y h4
        have m2 : ∀ t w, (binOp .add t (.float .f64 y) (.float .f64 (floatOfInt FloatKind.f64 d))).run Tryd.prog w = .ok (.float .f64 z) w := fun t w => run_float_arith w .add t .f64 y _ z h6
        have hd0 : 0 ≤ d := by omega
        have hc48 : 48 ≤ (c.toNat : Int) := by omega
        clear h4 h6 h7 hb
        go_wp2_with fail
        refine HC.out.mono ?_
        rintro e w1 ⟨rfl, rfl⟩
        go_wp2_with fail
        go_round
        case rel => exact ⟨z, n + 1, rfl, rfl, by omega, H7.out⟩
        case measure => simp only [intOf]; omega
    · have h3 : baseO (s.data.toList.drop n) x n = some (x, n) := by rw [List.drop_eq_nil_of_le (by omega)]; rfl
      rw [h3] at h2
      have h4 := Option.some.inj h2
      obtain ⟨rfl, rfl⟩ := Prod.mk.inj h4
      have hn2 : (s.size : Int) ≤ (n : Int) := by omega
      clear h2 h3 h4 hl
      go_wp2_with fail
      go_ret2
      exact ⟨rfl, rfl⟩

set_option maxRecDepth 100000 in
set_option maxHeartbeats 4000000 in
theorem Literal_hex (s : ByteArray) (X N : Nat) (w : World) (hs : s.size ≤ 1000000) (hp : Lib.hasPrefix s.data.toList [48, 120] = true) (h : baseO ((s.data.toList.take 15).drop 2) 0 0 = some (X, N)) (hN : 0 < N) (hN2 : N ≤ 1000) :
    Calls Tryd.prog 53 #[.string s] w fun e w' => e = .returned (.tuple #[.float .f64 X, .int .i64 (2 + (N : Int))]) ∧ w = w' := by
  have hP1 := Lib.hid (fun W => Tryd.strings_HasPrefix s ⟨#[48, 120]⟩ W)
  have hl : s.data.toList.length = s.size := (size_list s).symm
  have h2 : 2 ≤ s.size := by
    rw [← hl]
    unfold Lib.hasPrefix at hp
    have := (List.isPrefixOf_iff_prefix.1 hp).length_le
    simpa using this
  obtain ⟨z, hz⟩ : ∃ z, z = min s.size 15 := ⟨_, rfl⟩
  have hz2 : min (s.size : Int) 15 = (z : Int) := by omega
  have hs2 : 2 ≤ z := by omega
  have hs3 : z ≤ s.size := by omega
  have hd : (s.extract 2 z).data.toList = (s.data.toList.take 15).drop 2 := by
    rw [ByteArray.data_extract, Array.toList_extract, List.extract_eq_take_drop, hz, List.drop_take]
    rcases Nat.lt_or_ge s.size 15 with h5 | h5
    · rw [Nat.min_eq_left (by omega), List.take_of_length_le (by rw [List.length_drop]; omega), List.take_of_length_le (by rw [List.length_drop]; omega)]
    · rw [Nat.min_eq_right h5]
  rw [← hd] at h
  have HB := Lib.hid (base_any (s.extract 2 z) X N w (by rw [ByteArray.size_extract]; omega) h)
  rw [show hexS = ⟨#[48, 49, 50, 51, 52, 53, 54, 55, 56, 57, 97, 98, 99, 100, 101, 102]⟩ from rfl] at HB
  have hNi : 0 < (N : Int) := by omega
  clear h hd hl hN hz
  go_enter Tryd.func53, Tryd.ntmps53
  go_wp2_with fail
  refine (hP1.out _).mono ?_
  rintro e w1 ⟨rfl, rfl⟩
  rw [hp]
  clear hp hP1
  go_wp2_with fail
  refine HB.out.mono ?_
  rintro e w1 ⟨rfl, rfl⟩
  go_wp2_with fail
  go_ret2
  exact ⟨rfl, rfl⟩
end Go.Proofs.YtkpikkeblogdcaaDoor
end
