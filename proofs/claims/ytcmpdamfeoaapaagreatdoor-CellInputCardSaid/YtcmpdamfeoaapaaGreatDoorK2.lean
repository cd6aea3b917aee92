/- Package num: numeral. -/
import Derived.Test.YtcmpdamfeoaapaaGreatDoorM5
namespace Go.Proofs.YtcmpdamfeoaapaaGreatDoor
open Go.RowKit
set_option linter.unusedVariables false

/-- the digits, the power and the bytes of what stands ahead of the exponent -/
def mantL (l : List UInt8) : List UInt8 × Int × Nat :=
  match l.drop (lead l).length with
  | 46 :: r => if 0 < (lead l).length + (lead r).length then (lead l ++ lead r, -((lead r).length : Int), (lead l).length + 1 + (lead r).length) else (lead l, 0, (lead l).length)
  | _ => (lead l, 0, (lead l).length)
/-- how many bytes the letter and its sign take, and whether the sign is a minus -/
def signK : List UInt8 → Nat × Bool
  | _ :: 43 :: _ => (2, false)
  | _ :: 45 :: _ => (2, true)
  | _ => (1, false)
/-- the exponent and its bytes -/
def expL (q : List UInt8) : Int × Nat :=
  match q with
  | c :: _ => if c = 101 ∨ c = 69 then (if 0 < (lead (q.drop (signK q).1)).length then (powL (lead (q.drop (signK q).1)) (signK q).2, (signK q).1 + (lead (q.drop (signK q).1)).length) else (0, 0)) else (0, 0)
  | [] => (0, 0)
def numeralL (l : List UInt8) : List UInt8 × Int × Nat :=
  if (mantL l).1 = [] then ([], 0, 0) else ((mantL l).1, (mantL l).2.1 + (expL (l.drop (mantL l).2.2)).1, (mantL l).2.2 + (expL (l.drop (mantL l).2.2)).2)

theorem hasPrefix_one (l : List UInt8) (c : UInt8) : Lib.hasPrefix l [c] = (match l with | x :: _ => x == c | [] => false) := by
  cases l with
  | nil => rfl
  | cons x r =>
    show ([c].isPrefixOf (x :: r)) = (x == c)
    simp [List.isPrefixOf]
    exact BEq.comm
theorem at_list (q : ByteArray) (i : Nat) (h : i < q.size) (c : UInt8) (hl : q.data.toList[i]? = some c) : q[i]'h = c := by
  show q.data[i]'_ = c
  have h2 : i < q.data.size := h
  rw [Array.getElem?_toList, Array.getElem?_eq_getElem h2] at hl
  exact Option.some.inj hl
theorem ne_lit (c k : UInt8) (m : Int) (hm : (k.toNat : Int) = m) (h : c ≠ k) : ((c.toNat : Int) == m) = false :=
  beq_eq_false_iff_ne.2 fun h2 => h (UInt8.toNat_inj.1 (by omega))
theorem ret3 {a : ByteArray} {x y x' y' : Int} (hx : x = x') (hy : y = y') : Ending.returned (.tuple #[.string a, .int .i64 x, .int .i64 y]) = Ending.returned (.tuple #[.string a, .int .i64 x', .int .i64 y']) := by
  subst hx; subst hy; rfl
theorem signK_other (c c1 : UInt8) (r : List UInt8) (h1 : c1 ≠ 43) (h2 : c1 ≠ 45) : signK (c :: c1 :: r) = (1, false) := by
  unfold signK
  split
  · rename_i h; injection h with _ h; injection h with h _; exact absurd h h1
  · rename_i h; injection h with _ h; injection h with h _; exact absurd h h2
  · rfl
theorem mantL_dot {l r : List UInt8} (h : l.drop (lead l).length = 46 :: r) : mantL l = if 0 < (lead l).length + (lead r).length then (lead l ++ lead r, -((lead r).length : Int), (lead l).length + 1 + (lead r).length) else (lead l, 0, (lead l).length) := by
  unfold mantL; rw [h]; rfl
theorem mantL_plain {l : List UInt8} (h : ∀ r, l.drop (lead l).length ≠ 46 :: r) : mantL l = (lead l, 0, (lead l).length) := by
  unfold mantL
  split
  · rename_i r hr; exact absurd hr (h r)
  · rfl

set_option maxRecDepth 100000 in
set_option maxHeartbeats 8000000 in
theorem numeral_any (s : ByteArray) (w : World) (hs : s.size ≤ 140737488355328) :
    Calls Tryz.prog 48 #[.string s] w fun e w' => ∃ a : ByteArray, e = .returned (.tuple #[.string a, .int .i64 (numeralL s.data.toList).2.1, .int .i64 ((numeralL s.data.toList).2.2 : Nat)]) ∧ a.data.toList = (numeralL s.data.toList).1 ∧ Below w.heap.size w w' := by
  obtain ⟨A3, X3, Y3, hnum⟩ : ∃ A3 X3 Y3, numeralL s.data.toList = (A3, X3, Y3) := ⟨_, _, _, rfl⟩
  rw [hnum]
  simp only []
  have HNUM := Lib.hid hnum
  have HD0 := Lib.hid (fun W => digits_any s W hs)
  have hle := lead_le s.data.toList
  have hsz := size_list s
  obtain ⟨n, hn⟩ : ∃ n, n = (lead s.data.toList).length := ⟨_, rfl⟩
  rw [← hn] at HD0 hle
  obtain ⟨sz, hszd⟩ : ∃ z, z = s.size := ⟨_, rfl⟩
  have hsz1 : s.size = sz := hszd.symm
  have hns : n ≤ sz := by omega
  have hsz2 : sz ≤ 140737488355328 := by omega
  have HSL : Hid (s.data.toList.length = sz) := by show _ = _; omega
  have HT0 : Hid ((s.extract 0 n).data.toList = lead s.data.toList) := by show _ = _; rw [ext_list, Nat.sub_zero, List.drop_zero, hn, lead_take]
  have hTn : ∀ i, n ≤ i → Hid ((s.extract i sz).data.toList = s.data.toList.drop i) := by
    intro i hi
    show _ = _
    rw [ext_list]
    exact List.take_of_length_le (by rw [List.length_drop, HSL.out]; omega)
  have HP0 : Hid (∀ W, Calls Tryz.prog 47 #[.string (s.extract n sz), .string ⟨#[46]⟩] W fun e w' => e = .returned (.bool (Lib.hasPrefix (s.data.toList.drop n) [46])) ∧ w' = W) := by
    intro W
    have h := Tryz.strings_HasPrefix (s.extract n sz) ⟨#[46]⟩ W
    rw [(hTn n (Nat.le_refl _)).out] at h
    exact h
  have hcase : (∃ r, s.data.toList.drop n = 46 :: r ∧ 0 < n + (lead r).length) ∨ (∃ r, s.data.toList.drop n = 46 :: r ∧ ¬ 0 < n + (lead r).length) ∨ (∀ r, s.data.toList.drop n ≠ 46 :: r) := by
    cases h : s.data.toList.drop n with
    | nil => exact .inr (.inr fun r h2 => by cases h2)
    | cons c r =>
      by_cases hc : c = 46
      · subst hc
        by_cases h0 : 0 < n + (lead r).length
        · exact .inl ⟨r, rfl, h0⟩
        · exact .inr (.inl ⟨r, rfl, h0⟩)
      · exact .inr (.inr fun r' h2 => hc (by injection h2))
  have hnl : n = (lead s.data.toList).length := hn
  have HNL := Lib.hid hnl
  clear hn hle hsz hszd hs hnl hnum
  go_enter Tryz.func48, Tryz.ntmps48
  go_wp2_with fail
  refine (HD0.out w).mono ?_
  rintro e w1 ⟨rfl, hb1⟩
  have HB1 := Lib.hid hb1
  have hs1 := hb1.size
  clear hb1 HD0
  go_wp2_with fail
  refine (HP0.out w1).mono ?_
  rintro e w5 ⟨rfl, rfl⟩
  clear HP0
  rcases hcase with ⟨r, hr, h0⟩ | ⟨r, hr, h0⟩ | hr
  case' inl =>
    obtain ⟨k, hk⟩ : ∃ k, k = (lead r).length := ⟨_, rfl⟩
    rw [← hk] at h0
    have hE1 : (s.extract (n + 1) sz).data.toList = r := by
      rw [(hTn (n + 1) (by omega)).out, ← List.drop_drop, hr]; rfl
    have hrl : r.length + 1 + n = sz := by
      have h := congrArg List.length hr
      rw [List.length_drop, HSL.out] at h
      simp at h
      omega
    have hkr : k ≤ r.length := by rw [hk]; exact lead_le r
    have hes : (s.extract (n + 1) sz).size ≤ 140737488355328 := by rw [size_list, hE1]; omega
    have HDG := Lib.hid (fun W => digits_any (s.extract (n + 1) sz) W hes)
    rw [hE1, ← hk] at HDG
    have hpre : Lib.hasPrefix (s.data.toList.drop n) [46] = true := by rw [hr, hasPrefix_one]; rfl
    obtain ⟨p, hp⟩ : ∃ p, p = n + 1 + k := ⟨_, rfl⟩
    have hpk : p - (n + 1) = k := by omega
    obtain ⟨a, ha⟩ : ∃ a, a = s.extract 0 n ++ s.extract (n + 1) p := ⟨_, rfl⟩
    have hae0 : s.extract 0 n ++ s.extract (n + 1) p = a := ha.symm
    obtain ⟨A, hAd⟩ : ∃ A, A = lead s.data.toList ++ lead r := ⟨_, rfl⟩
    have HA : Hid (a.data.toList = A) := by
      show _ = _
      rw [ha, ByteArray.data_append, Array.toList_append, HT0.out, ext_list, hpk, ← List.drop_drop, hr, hAd, hk]
      congr 1
      exact lead_take r
    have ep : (n : Int) + 1 + k = (p : Int) := by omega
    obtain ⟨ex, hex⟩ : ∃ ex : Int, ex = -(k : Int) := ⟨_, rfl⟩
    have eex : -(k : Int) = ex := hex.symm
    have hexb : -140737488355328 ≤ ex ∧ ex ≤ 0 := by omega
    have hps : p ≤ sz := by omega
    have HM : Hid (mantL s.data.toList = (A, ex, p)) := by
      show _ = _
      have h := mantL_dot (l := s.data.toList) (r := r) (by rw [← HNL.out]; exact hr)
      rw [← HNL.out, ← hk, if_pos h0, ← hAd, ← hex, ← hp] at h
      exact h
    have h0' : 0 < (n : Int) + (k : Int) := by omega
    rw [hpre]
    clear hr hk hE1 hrl hes hpre ha hAd hTn HT0 HNL h0 hex hpk
    have hpn : p = n + 1 + k := hp
    have hpn1 : n + 1 ≤ p := by omega
    clear hp hpn
    go_wp2_with fail
    refine (HDG.out w5).mono ?_
    rintro e w2 ⟨rfl, hb2⟩
    have HB2 := Lib.hid (HB1.out.trans (hb2.mono hs1))
    have hs2 : w.heap.size ≤ w2.heap.size := by have := hb2.size; omega
    clear hb2 HDG HB1
  case' inr.inl =>
    have hn0 : n = 0 := by omega
    have hk : (lead r).length = 0 := by omega
    have hE1 : (s.extract (n + 1) sz).data.toList = r := by
      rw [(hTn (n + 1) (by omega)).out, ← List.drop_drop, hr]; rfl
    have hrl : r.length + 1 + n = sz := by
      have h := congrArg List.length hr
      rw [List.length_drop, HSL.out] at h
      simp at h
      omega
    have hes : (s.extract (n + 1) sz).size ≤ 140737488355328 := by rw [size_list, hE1]; omega
    have HDG := Lib.hid (fun W => digits_any (s.extract (n + 1) sz) W hes)
    rw [hE1, hk] at HDG
    have HDG : Hid (∀ W, Calls Tryz.prog 100 #[.string (s.extract (n + 1) sz)] W fun e w' => e = .returned (.int .i64 0) ∧ Below W.heap.size W w') := HDG.out
    have hpre : Lib.hasPrefix (s.data.toList.drop n) [46] = true := by rw [hr, hasPrefix_one]; rfl
    obtain ⟨a, ha⟩ : ∃ a, a = s.extract 0 n := ⟨_, rfl⟩
    obtain ⟨A, hAd⟩ : ∃ A, A = lead s.data.toList := ⟨_, rfl⟩
    have HA : Hid (a.data.toList = A) := by
      show _ = _
      rw [ha, HT0.out, hAd]
    obtain ⟨ex, hex⟩ : ∃ ex : Int, ex = 0 := ⟨_, rfl⟩
    have hexb : -140737488355328 ≤ ex ∧ ex ≤ 0 := by omega
    have HM : Hid (mantL s.data.toList = (A, ex, n)) := by
      show _ = _
      have h := mantL_dot (l := s.data.toList) (r := r) (by rw [← HNL.out]; exact hr)
      rw [← HNL.out, if_neg h0, ← hAd, ← hex] at h
      exact h
    have h0' : ¬ 0 < (n : Int) := by omega
    have hn1sz : n + 1 ≤ sz := by omega
    rw [hpre, ← ha]
    clear hr hk hE1 hrl hes hpre ha hAd hTn HT0 HNL h0 hn0
    obtain ⟨p, rfl⟩ : ∃ p, p = n := ⟨_, rfl⟩
    have hps : p ≤ sz := hns
    go_wp2_with fail
    refine (HDG.out w5).mono ?_
    rintro e w2 ⟨rfl, hb2⟩
    have HB2 := Lib.hid (HB1.out.trans (hb2.mono hs1))
    have hs2 : w.heap.size ≤ w2.heap.size := by have := hb2.size; omega
    clear hb2 HDG HB1
  case' inr.inr =>
    have hpre : Lib.hasPrefix (s.data.toList.drop n) [46] = false := by
      rw [hasPrefix_one]
      cases h : s.data.toList.drop n with
      | nil => rfl
      | cons x t => exact beq_eq_false_iff_ne.2 fun h2 => hr t (by rw [h, h2])
    obtain ⟨a, ha⟩ : ∃ a, a = s.extract 0 n := ⟨_, rfl⟩
    obtain ⟨A, hAd⟩ : ∃ A, A = lead s.data.toList := ⟨_, rfl⟩
    have HA : Hid (a.data.toList = A) := by
      show _ = _
      rw [ha, HT0.out, hAd]
    obtain ⟨ex, hex⟩ : ∃ ex : Int, ex = 0 := ⟨_, rfl⟩
    have hexb : -140737488355328 ≤ ex ∧ ex ≤ 0 := by omega
    have HM : Hid (mantL s.data.toList = (A, ex, n)) := by
      show _ = _
      have h := mantL_plain (l := s.data.toList) (by rw [← HNL.out]; exact hr)
      rw [← HNL.out, ← hAd, ← hex] at h
      exact h
    rw [hpre, ← ha]
    clear hr hpre ha hAd hTn HT0 HNL
    obtain ⟨p, rfl⟩ : ∃ p, p = n := ⟨_, rfl⟩
    have hps : p ≤ sz := hns
    obtain ⟨w2, rfl⟩ : ∃ w2 : World, w2 = w5 := ⟨_, rfl⟩
    have HB2 := HB1
    have hs2 := hs1
    clear HB1 hs1
  all_goals
    by_cases hA0 : A = []
    · have hae : a.toList.isEmpty = true := by rw [ByteArray.toList_eq, HA.out, hA0]; rfl
      have h := HNUM.out
      unfold numeralL at h
      rw [HM.out] at h
      simp only at h
      rw [if_pos hA0] at h
      obtain ⟨h1, h2⟩ := Prod.mk.inj h
      obtain ⟨h3, h4⟩ := Prod.mk.inj h2
      have HAR : Hid ((⟨#[]⟩ : ByteArray).data.toList = A3) := by show _ = _; rw [← h1]
      have HX1 := Lib.hid h3
      have HX2 := Lib.hid h4
      clear h h1 h2 h3 h4 HNUM HM hA0 HA
      go_wp2_with fail
      go_ret3
      have hx1 := HX1.out
      have hx2 := HX2.out
      exact ⟨_, ret3 (by omega) (by omega), HAR.out, HB2.out⟩
    · have hae : a.toList.isEmpty = false := by rw [ByteArray.toList_eq, HA.out]; simpa using hA0
      have h := HNUM.out
      unfold numeralL at h
      rw [HM.out] at h
      simp only at h
      rw [if_neg hA0] at h
      obtain ⟨h1, h2⟩ := Prod.mk.inj h
      obtain ⟨h3, h4⟩ := Prod.mk.inj h2
      have HAR : Hid (a.data.toList = A3) := by show _ = _; rw [HA.out, h1]
      obtain ⟨Q, hQ⟩ : ∃ Q, Q = s.data.toList.drop p := ⟨_, rfl⟩
      rw [← hQ] at h3 h4
      have HX : Hid (X3 = ex + (expL Q).1 ∧ Y3 = p + (expL Q).2) := ⟨h3.symm, h4.symm⟩
      obtain ⟨q, hq⟩ : ∃ q, q = s.extract p sz := ⟨_, rfl⟩
      have hqe : s.extract p sz = q := hq.symm
      have HQ : Hid (q.data.toList = Q) := by
        show _ = _
        rw [hq, ext_list, hQ]
        exact List.take_of_length_le (by rw [List.length_drop, HSL.out]; omega)
      obtain ⟨qz, hqz⟩ : ∃ z, z = q.size := ⟨_, rfl⟩
      have hqz1 : q.size = qz := hqz.symm
      have HQL : Hid (Q.length = qz) := by show _ = _; rw [hqz, size_list, HQ.out]
      have hqp : qz + p = sz := by
        have h := HQL.out
        rw [hQ, List.length_drop, HSL.out] at h
        omega
      clear h h1 h2 h3 h4 HNUM HM hA0 HA hQ hq hqz
      rcases hQc : Q with _ | ⟨c, r⟩
      · have hqe0 : q.toList.isEmpty = true := by rw [ByteArray.toList_eq, HQ.out, hQc]; rfl
        have hX := HX.out
        rw [hQc] at hX
        obtain ⟨hx1, hx2⟩ := hX
        have HBB := HB2
        clear HX HQ HQL hQc
        simp only [expL] at hx1 hx2
        have HX1 := Lib.hid hx1
        have HX2 := Lib.hid hx2
        clear hx1 hx2
        go_wp2_with fail
        go_ret3
        have hx1 := HX1.out
        have hx2 := HX2.out
        exact ⟨_, ret3 (by omega) (by omega), HAR.out, HBB.out⟩
      · have hqe0 : q.toList.isEmpty = false := by rw [ByteArray.toList_eq, HQ.out, hQc]; rfl
        have hqz0 : 0 < qz := by have h := HQL.out; rw [hQc] at h; simp at h; omega
        have hqs0 : 0 < q.size := by omega
        have hq0 : q[0]'hqs0 = c := at_list q 0 hqs0 c (by rw [HQ.out, hQc]; rfl)
        have HQC : Hid (Q = c :: r) := hQc
        by_cases hce : c = 101 ∨ c = 69
        · have hc1 : (((q[0]'hqs0).toNat : Int) == 101) = true ∨ (((q[0]'hqs0).toNat : Int) == 101) = false ∧ (((q[0]'hqs0).toNat : Int) == 69) = true := by
            rw [hq0]
            rcases hce with h | h
            · left; rw [h]; decide
            · right; rw [h]; decide
          clear hq0 hqe0
          have hqe0 : q.toList.isEmpty = false := by rw [ByteArray.toList_eq, HQ.out, hQc]; rfl
          rcases hr : r with _ | ⟨c1, r1⟩
          · have HSK : Hid (signK Q = (1, false)) := by show _ = _; rw [hQc, hr]; rfl
            have hqz1' : qz = 1 := by have h := HQL.out; rw [hQc, hr] at h; simp at h; omega
            have hnot : ¬ 1 < (qz : Int) := by omega
            clear hQc hr hqz1'
            rcases hc1 with h101 | ⟨h101, h69⟩
            all_goals
              have hQk : Hid ((q.extract 1 qz).data.toList = Q.drop 1) := by
                show _ = _
                rw [ext_list, HQ.out]
                exact List.take_of_length_le (by rw [List.length_drop, HQL.out]; omega)
              have hqk : (q.extract 1 qz).size ≤ 140737488355328 := by
                rw [size_list, hQk.out, List.length_drop, HQL.out]; omega
              have HDG := Lib.hid (fun W => digits_any (q.extract 1 qz) W hqk)
              rw [hQk.out] at HDG
              have hml := lead_le (Q.drop 1)
              rw [List.length_drop, HQL.out] at hml
              have HEX : Hid (expL Q = if 0 < (lead (Q.drop 1)).length then (powL (lead (Q.drop 1)) false, 1 + (lead (Q.drop 1)).length) else (0, 0)) := by
                show _ = _
                unfold expL
                rw [HQC.out]
                simp only []
                rw [if_pos hce, ← HQC.out, HSK.out]
              have hqm : Hid ((q.extract 1 (1 + (lead (Q.drop 1)).length)).data.toList = lead (Q.drop 1)) := by
                show _ = _
                rw [ext_list, HQ.out, Nat.add_sub_cancel_left, lead_take]
              have hpl : -100000 ≤ powL (lead (Q.drop 1)) false ∧ powL (lead (Q.drop 1)) false ≤ 100000 := by
                have := powN_le (lead (Q.drop 1))
                unfold powL
                split <;> omega
              have HPW := Lib.hid (fun W h => power_any (q.extract 1 (1 + (lead (Q.drop 1)).length)) false W (by rw [hqm.out]; exact lead_digits _) h)
              rw [hqm.out] at HPW
              have HPS : Hid ((q.extract 1 (1 + (lead (Q.drop 1)).length)).size ≤ 140737488355328) := by
                show _ ≤ _
                rw [size_list, hqm.out]; omega
              generalize lead (Q.drop 1) = D at *
              generalize hm : D.length = m at *
              generalize powL D false = P at *
              have hq2 : 1 ≤ qz := by omega
              clear hQk hqk hqm hce
              go_wp2_with fail
              refine (HDG.out _).mono ?_
              rintro e w3 ⟨rfl, hb3⟩
              have HBB := Lib.hid (show Below w.heap.size w w3 by first | exact HB2.out.trans (hb3.mono hs2) | exact HB2.out.drew.trans (hb3.mono hs2))
              have hs3 : w2.heap.size ≤ w3.heap.size := hb3.size
              clear hb3 HDG HB2
              by_cases hm0 : 0 < m
              · have hX := HX.out
                rw [HEX.out, if_pos hm0] at hX
                obtain ⟨hx1, hx2⟩ := hX
                simp only at hx1 hx2
                have HX1 := Lib.hid hx1
                have HX2 := Lib.hid hx2
                clear HEX HX hx1 hx2
                have hm0' : 0 < (m : Int) := by omega
                have hkm : 1 + m ≤ qz := by omega
                go_wp2_with fail
                refine (HPW.out w3 HPS.out).mono ?_
                rintro e w4 ⟨rfl, hb4⟩
                have HBC := Lib.hid (HBB.out.trans (hb4.mono (by omega)))
                clear hb4 HPW HBB
                have HBB := HBC
                have hx1 := HX1.out
                have hx2 := HX2.out
                have HX1 := Lib.hid hx1
                have HX2 := Lib.hid hx2
                clear hx1 hx2
                go_wp2_with fail
                go_ret3
                have hx1 := HX1.out
                have hx2 := HX2.out
                exact ⟨_, ret3 (by omega) (by omega), HAR.out, HBB.out⟩
              · have hX := HX.out
                rw [HEX.out, if_neg hm0] at hX
                obtain ⟨hx1, hx2⟩ := hX
                clear HEX HX
                have hm0' : ¬ 0 < (m : Int) := by omega
                simp only at hx1 hx2
                have HX1 := Lib.hid hx1
                have HX2 := Lib.hid hx2
                clear hx1 hx2
                go_wp2_with fail
                go_ret3
                have hx1 := HX1.out
                have hx2 := HX2.out
                exact ⟨_, ret3 (by omega) (by omega), HAR.out, HBB.out⟩
          · have hqs1 : 1 < q.size := by have h := HQL.out; rw [hQc, hr] at h; simp at h; omega
            have hlt : 1 < (qz : Int) := by omega
            have hq1 : q[1]'hqs1 = c1 := at_list q 1 hqs1 c1 (by rw [HQ.out, hQc, hr]; rfl)
            by_cases h43 : c1 = 43
            · have HSK : Hid (signK Q = (2, false)) := by show _ = _; rw [hQc, hr, h43]; rfl
              have ht1 : (((q[1]'hqs1).toNat : Int) == 43) = true := by rw [hq1, h43]; decide
              have ht2 : (((q[1]'hqs1).toNat : Int) == 45) = false := by rw [hq1, h43]; decide
              clear hQc hr hq1
              rcases hc1 with h101 | ⟨h101, h69⟩
              all_goals
                go_wp2_with fail
                go_region
                have hQk : Hid ((q.extract 2 qz).data.toList = Q.drop 2) := by
                  show _ = _
                  rw [ext_list, HQ.out]
                  exact List.take_of_length_le (by rw [List.length_drop, HQL.out]; omega)
                have hqk : (q.extract 2 qz).size ≤ 140737488355328 := by
                  rw [size_list, hQk.out, List.length_drop, HQL.out]; omega
                have HDG := Lib.hid (fun W => digits_any (q.extract 2 qz) W hqk)
                rw [hQk.out] at HDG
                have hml := lead_le (Q.drop 2)
                rw [List.length_drop, HQL.out] at hml
                have HEX : Hid (expL Q = if 0 < (lead (Q.drop 2)).length then (powL (lead (Q.drop 2)) false, 2 + (lead (Q.drop 2)).length) else (0, 0)) := by
                  show _ = _
                  unfold expL
                  rw [HQC.out]
                  simp only []
                  rw [if_pos hce, ← HQC.out, HSK.out]
                have hqm : Hid ((q.extract 2 (2 + (lead (Q.drop 2)).length)).data.toList = lead (Q.drop 2)) := by
                  show _ = _
                  rw [ext_list, HQ.out, Nat.add_sub_cancel_left, lead_take]
                have hpl : -100000 ≤ powL (lead (Q.drop 2)) false ∧ powL (lead (Q.drop 2)) false ≤ 100000 := by
                  have := powN_le (lead (Q.drop 2))
                  unfold powL
                  split <;> omega
                have HPW := Lib.hid (fun W h => power_any (q.extract 2 (2 + (lead (Q.drop 2)).length)) false W (by rw [hqm.out]; exact lead_digits _) h)
                rw [hqm.out] at HPW
                have HPS : Hid ((q.extract 2 (2 + (lead (Q.drop 2)).length)).size ≤ 140737488355328) := by
                  show _ ≤ _
                  rw [size_list, hqm.out]; omega
                generalize lead (Q.drop 2) = D at *
                generalize hm : D.length = m at *
                generalize powL D false = P at *
                have hq2 : 2 ≤ qz := by omega
                clear hQk hqk hqm hce
                go_wp2_with fail
                refine (HDG.out _).mono ?_
                rintro e w3 ⟨rfl, hb3⟩
                have HBB := Lib.hid (show Below w.heap.size w w3 by first | exact HB2.out.trans (hb3.mono hs2) | exact HB2.out.drew.trans (hb3.mono hs2))
                have hs3 : w2.heap.size ≤ w3.heap.size := hb3.size
                clear hb3 HDG HB2
                by_cases hm0 : 0 < m
                · have hX := HX.out
                  rw [HEX.out, if_pos hm0] at hX
                  obtain ⟨hx1, hx2⟩ := hX
                  simp only at hx1 hx2
                  have HX1 := Lib.hid hx1
                  have HX2 := Lib.hid hx2
                  clear HEX HX hx1 hx2
                  have hm0' : 0 < (m : Int) := by omega
                  have hkm : 2 + m ≤ qz := by omega
                  go_wp2_with fail
                  refine (HPW.out w3 HPS.out).mono ?_
                  rintro e w4 ⟨rfl, hb4⟩
                  have HBC := Lib.hid (HBB.out.trans (hb4.mono (by omega)))
                  clear hb4 HPW HBB
                  have HBB := HBC
                  have hx1 := HX1.out
                  have hx2 := HX2.out
                  have HX1 := Lib.hid hx1
                  have HX2 := Lib.hid hx2
                  clear hx1 hx2
                  go_wp2_with fail
                  go_ret3
                  have hx1 := HX1.out
                  have hx2 := HX2.out
                  exact ⟨_, ret3 (by omega) (by omega), HAR.out, HBB.out⟩
                · have hX := HX.out
                  rw [HEX.out, if_neg hm0] at hX
                  obtain ⟨hx1, hx2⟩ := hX
                  clear HEX HX
                  have hm0' : ¬ 0 < (m : Int) := by omega
                  simp only at hx1 hx2
                  have HX1 := Lib.hid hx1
                  have HX2 := Lib.hid hx2
                  clear hx1 hx2
                  go_wp2_with fail
                  go_ret3
                  have hx1 := HX1.out
                  have hx2 := HX2.out
                  exact ⟨_, ret3 (by omega) (by omega), HAR.out, HBB.out⟩
            · by_cases h45 : c1 = 45
              · have HSK : Hid (signK Q = (2, true)) := by show _ = _; rw [hQc, hr, h45]; rfl
                have ht1 : (((q[1]'hqs1).toNat : Int) == 43) = false := by rw [hq1, h45]; decide
                have ht2 : (((q[1]'hqs1).toNat : Int) == 45) = true := by rw [hq1, h45]; decide
                clear hQc hr hq1
                rcases hc1 with h101 | ⟨h101, h69⟩
                all_goals
                  go_wp2_with fail
                  go_region
                  have hQk : Hid ((q.extract 2 qz).data.toList = Q.drop 2) := by
                    show _ = _
                    rw [ext_list, HQ.out]
                    exact List.take_of_length_le (by rw [List.length_drop, HQL.out]; omega)
                  have hqk : (q.extract 2 qz).size ≤ 140737488355328 := by
                    rw [size_list, hQk.out, List.length_drop, HQL.out]; omega
                  have HDG := Lib.hid (fun W => digits_any (q.extract 2 qz) W hqk)
                  rw [hQk.out] at HDG
                  have hml := lead_le (Q.drop 2)
                  rw [List.length_drop, HQL.out] at hml
                  have HEX : Hid (expL Q = if 0 < (lead (Q.drop 2)).length then (powL (lead (Q.drop 2)) true, 2 + (lead (Q.drop 2)).length) else (0, 0)) := by
                    show _ = _
                    unfold expL
                    rw [HQC.out]
                    simp only []
                    rw [if_pos hce, ← HQC.out, HSK.out]
                  have hqm : Hid ((q.extract 2 (2 + (lead (Q.drop 2)).length)).data.toList = lead (Q.drop 2)) := by
                    show _ = _
                    rw [ext_list, HQ.out, Nat.add_sub_cancel_left, lead_take]
                  have hpl : -100000 ≤ powL (lead (Q.drop 2)) true ∧ powL (lead (Q.drop 2)) true ≤ 100000 := by
                    have := powN_le (lead (Q.drop 2))
                    unfold powL
                    split <;> omega
                  have HPW := Lib.hid (fun W h => power_any (q.extract 2 (2 + (lead (Q.drop 2)).length)) true W (by rw [hqm.out]; exact lead_digits _) h)
                  rw [hqm.out] at HPW
                  have HPS : Hid ((q.extract 2 (2 + (lead (Q.drop 2)).length)).size ≤ 140737488355328) := by
                    show _ ≤ _
                    rw [size_list, hqm.out]; omega
                  generalize lead (Q.drop 2) = D at *
                  generalize hm : D.length = m at *
                  generalize powL D true = P at *
                  have hq2 : 2 ≤ qz := by omega
                  clear hQk hqk hqm hce
                  go_wp2_with fail
                  refine (HDG.out _).mono ?_
                  rintro e w3 ⟨rfl, hb3⟩
                  have HBB := Lib.hid (show Below w.heap.size w w3 by first | exact HB2.out.trans (hb3.mono hs2) | exact HB2.out.drew.trans (hb3.mono hs2))
                  have hs3 : w2.heap.size ≤ w3.heap.size := hb3.size
                  clear hb3 HDG HB2
                  by_cases hm0 : 0 < m
                  · have hX := HX.out
                    rw [HEX.out, if_pos hm0] at hX
                    obtain ⟨hx1, hx2⟩ := hX
                    simp only at hx1 hx2
                    have HX1 := Lib.hid hx1
                    have HX2 := Lib.hid hx2
                    clear HEX HX hx1 hx2
                    have hm0' : 0 < (m : Int) := by omega
                    have hkm : 2 + m ≤ qz := by omega
                    go_wp2_with fail
                    refine (HPW.out w3 HPS.out).mono ?_
                    rintro e w4 ⟨rfl, hb4⟩
                    have HBC := Lib.hid (HBB.out.trans (hb4.mono (by omega)))
                    clear hb4 HPW HBB
                    have HBB := HBC
                    have hx1 := HX1.out
                    have hx2 := HX2.out
                    have HX1 := Lib.hid hx1
                    have HX2 := Lib.hid hx2
                    clear hx1 hx2
                    go_wp2_with fail
                    go_ret3
                    have hx1 := HX1.out
                    have hx2 := HX2.out
                    exact ⟨_, ret3 (by omega) (by omega), HAR.out, HBB.out⟩
                  · have hX := HX.out
                    rw [HEX.out, if_neg hm0] at hX
                    obtain ⟨hx1, hx2⟩ := hX
                    clear HEX HX
                    have hm0' : ¬ 0 < (m : Int) := by omega
                    simp only at hx1 hx2
                    have HX1 := Lib.hid hx1
                    have HX2 := Lib.hid hx2
                    clear hx1 hx2
                    go_wp2_with fail
                    go_ret3
                    have hx1 := HX1.out
                    have hx2 := HX2.out
                    exact ⟨_, ret3 (by omega) (by omega), HAR.out, HBB.out⟩
              · have HSK : Hid (signK Q = (1, false)) := by
                  show _ = _
                  rw [hQc, hr]
                  exact signK_other c c1 r1 h43 h45
                have ht1 : (((q[1]'hqs1).toNat : Int) == 43) = false := by rw [hq1]; exact ne_lit c1 43 43 (by decide) h43
                have ht2 : (((q[1]'hqs1).toNat : Int) == 45) = false := by rw [hq1]; exact ne_lit c1 45 45 (by decide) h45
                clear hQc hr hq1
                rcases hc1 with h101 | ⟨h101, h69⟩
                all_goals
                  have hQk : Hid ((q.extract 1 qz).data.toList = Q.drop 1) := by
                    show _ = _
                    rw [ext_list, HQ.out]
                    exact List.take_of_length_le (by rw [List.length_drop, HQL.out]; omega)
                  have hqk : (q.extract 1 qz).size ≤ 140737488355328 := by
                    rw [size_list, hQk.out, List.length_drop, HQL.out]; omega
                  have HDG := Lib.hid (fun W => digits_any (q.extract 1 qz) W hqk)
                  rw [hQk.out] at HDG
                  have hml := lead_le (Q.drop 1)
                  rw [List.length_drop, HQL.out] at hml
                  have HEX : Hid (expL Q = if 0 < (lead (Q.drop 1)).length then (powL (lead (Q.drop 1)) false, 1 + (lead (Q.drop 1)).length) else (0, 0)) := by
                    show _ = _
                    unfold expL
                    rw [HQC.out]
                    simp only []
                    rw [if_pos hce, ← HQC.out, HSK.out]
                  have hqm : Hid ((q.extract 1 (1 + (lead (Q.drop 1)).length)).data.toList = lead (Q.drop 1)) := by
                    show _ = _
                    rw [ext_list, HQ.out, Nat.add_sub_cancel_left, lead_take]
                  have hpl : -100000 ≤ powL (lead (Q.drop 1)) false ∧ powL (lead (Q.drop 1)) false ≤ 100000 := by
                    have := powN_le (lead (Q.drop 1))
                    unfold powL
                    split <;> omega
                  have HPW := Lib.hid (fun W h => power_any (q.extract 1 (1 + (lead (Q.drop 1)).length)) false W (by rw [hqm.out]; exact lead_digits _) h)
                  rw [hqm.out] at HPW
                  have HPS : Hid ((q.extract 1 (1 + (lead (Q.drop 1)).length)).size ≤ 140737488355328) := by
                    show _ ≤ _
                    rw [size_list, hqm.out]; omega
                  generalize lead (Q.drop 1) = D at *
                  generalize hm : D.length = m at *
                  generalize powL D false = P at *
                  have hq2 : 1 ≤ qz := by omega
                  clear hQk hqk hqm hce
                  go_wp2_with fail
                  refine (HDG.out _).mono ?_
                  rintro e w3 ⟨rfl, hb3⟩
                  have HBB := Lib.hid (show Below w.heap.size w w3 by first | exact HB2.out.trans (hb3.mono hs2) | exact HB2.out.drew.trans (hb3.mono hs2))
                  have hs3 : w2.heap.size ≤ w3.heap.size := hb3.size
                  clear hb3 HDG HB2
                  by_cases hm0 : 0 < m
                  · have hX := HX.out
                    rw [HEX.out, if_pos hm0] at hX
                    obtain ⟨hx1, hx2⟩ := hX
                    simp only at hx1 hx2
                    have HX1 := Lib.hid hx1
                    have HX2 := Lib.hid hx2
                    clear HEX HX hx1 hx2
                    have hm0' : 0 < (m : Int) := by omega
                    have hkm : 1 + m ≤ qz := by omega
                    go_wp2_with fail
                    refine (HPW.out w3 HPS.out).mono ?_
                    rintro e w4 ⟨rfl, hb4⟩
                    have HBC := Lib.hid (HBB.out.trans (hb4.mono (by omega)))
                    clear hb4 HPW HBB
                    have HBB := HBC
                    have hx1 := HX1.out
                    have hx2 := HX2.out
                    have HX1 := Lib.hid hx1
                    have HX2 := Lib.hid hx2
                    clear hx1 hx2
                    go_wp2_with fail
                    go_ret3
                    have hx1 := HX1.out
                    have hx2 := HX2.out
                    exact ⟨_, ret3 (by omega) (by omega), HAR.out, HBB.out⟩
                  · have hX := HX.out
                    rw [HEX.out, if_neg hm0] at hX
                    obtain ⟨hx1, hx2⟩ := hX
                    clear HEX HX
                    have hm0' : ¬ 0 < (m : Int) := by omega
                    simp only at hx1 hx2
                    have HX1 := Lib.hid hx1
                    have HX2 := Lib.hid hx2
                    clear hx1 hx2
                    go_wp2_with fail
                    go_ret3
                    have hx1 := HX1.out
                    have hx2 := HX2.out
                    exact ⟨_, ret3 (by omega) (by omega), HAR.out, HBB.out⟩
        · have hx := HX.out
          have hex : expL Q = (0, 0) := by rw [hQc]; unfold expL; simp only []; rw [if_neg hce]
          rw [hex] at hx
          obtain ⟨hx1, hx2⟩ := hx
          have h101 : (((q[0]'hqs0).toNat : Int) == 101) = false := by rw [hq0]; exact ne_lit c 101 101 (by decide) fun h => hce (.inl h)
          have h69 : (((q[0]'hqs0).toNat : Int) == 69) = false := by rw [hq0]; exact ne_lit c 69 69 (by decide) fun h => hce (.inr h)
          have HBB := HB2
          clear HX hex hq0 hQc HQC
          simp only at hx1 hx2
          have HX1 := Lib.hid hx1
          have HX2 := Lib.hid hx2
          clear hx1 hx2
          go_wp2_with fail
          go_ret3
          have hx1 := HX1.out
          have hx2 := HX2.out
          exact ⟨_, ret3 (by omega) (by omega), HAR.out, HBB.out⟩
end Go.Proofs.YtcmpdamfeoaapaaGreatDoor
