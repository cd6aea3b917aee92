/- The document's answer of package dec (thresherref03): Digits. -/
import Derived.Test.YtcmpdamfeoaapaaGreatDoorQ8
import Derived.BigQuiet
import Derived.Deep.QuietTactic
namespace Go.Proofs.YtcmpdamfeoaapaaGreatDoor
open Go.RowKit
set_option linter.unusedVariables false

theorem extract_list (s : ByteArray) (i k : Nat) : (s.extract i k).data.toList = (s.data.toList.take k).drop i := by
  simp [ByteArray.data_extract, List.drop_take]
theorem strip_step {l : List UInt8} {i : Nat} (h : i + 1 < l.length) (hc : (l[i]).toNat = 48) : stripL (l.drop i) = stripL (l.drop (i + 1)) := by
  rw [List.drop_eq_getElem_cons (show i < l.length by omega), List.drop_eq_getElem_cons h]
  have : l[i] = 48 := UInt8.toNat_inj.1 hc
  rw [this]
  show (if (48 : UInt8) = 48 then _ else _) = _
  rw [if_pos rfl]
theorem strip_stop {l : List UInt8} {i : Nat} (hi : i < l.length) (h : i + 1 < l.length → (l[i]).toNat ≠ 48) : stripL (l.drop i) = l.drop i := by
  rw [List.drop_eq_getElem_cons hi]
  rcases Nat.lt_or_ge (i + 1) l.length with h1 | h1
  · rw [List.drop_eq_getElem_cons h1]
    show (if l[i] = 48 then _ else _) = _
    rw [if_neg (fun e => h h1 (by rw [e]; rfl))]
  · rw [List.drop_of_length_le h1]; rfl
theorem canon_lim4 {l : List UInt8} {N k : Nat} (hc : Canon l N) (h : (lim4 N).length ≤ k) (hk : 0 < k) : l.length ≤ 4 * k :=
  canon_len hc (by rw [← b4_pow]; exact lt_of_lim4_length h) (by omega)
/-- a step of the stripping loop, by bytes -/
theorem strip_byt {s : ByteArray} {i k : Nat} (hk : k ≤ s.size) (h : i + 1 < k) (hc : byt s i = 48) : stripL ((s.data.toList.take k).drop i) = stripL ((s.data.toList.take k).drop (i + 1)) := by
  have hs : s.size = s.data.toList.length := by simp
  refine strip_step (by rw [List.length_take]; omega) ?_
  rw [List.getElem_take, ← byt_list (by omega)]; exact hc
theorem strip_end {s : ByteArray} {i k : Nat} (hk : k ≤ s.size) (h : i < k) (hc : i + 1 < k → byt s i ≠ 48) : stripL ((s.data.toList.take k).drop i) = (s.data.toList.take k).drop i := by
  have hs : s.size = s.data.toList.length := by simp
  refine strip_stop (by rw [List.length_take]; omega) fun h1 => ?_
  rw [List.length_take] at h1
  rw [List.getElem_take, ← byt_list (by omega)]
  exact hc (by omega)

set_option maxRecDepth 100000 in
set_option maxHeartbeats 8000000 in
theorem Digits3_any (b : Nat) (w : World) (hb : b < 18446744073709551616) (hf : fin b = true) :
    Calls Tryz.prog 68 #[.float .f64 b] w fun e w' => ∃ W F : ByteArray, e = .returned (.tuple #[.string W, .string F]) ∧ Exact b W.data.toList F.data.toList ∧ W.size ≤ 5000 ∧ F.size ≤ 1074 ∧ Below w.heap.size w w' := by
  have HP := Lib.hid (fun W => Parts3_any b W hb)
  rw [hf] at HP
  have hm := mant_lt b
  have he := expo_bounds (b := b)
  have HN : Hid (exN b = mant b * 2 ^ (expo b).toNat * 5 ^ exD b) := rfl
  have HE : Hid (exD b = (-(expo b)).toNat) := rfl
  have HX : Hid (∀ W F : List UInt8, Canon W (exN b / 10 ^ exD b) → Digits F → F.length = exD b → digVal F = exN b % 10 ^ exD b → Exact b W F) := fun _ _ h1 h2 h3 h4 => ⟨h1, h2, h3, h4⟩
  generalize Exact b = EX at *
  generalize exN b = N at *
  generalize exD b = d at *
  generalize mant b = m at *
  generalize expo b = E at *
  clear hf
  go_enter Tryz.func68, Tryz.ntmps68
  go_wp2_with fail
  refine (HP.out _).mono ?_
  rintro e _ ⟨rfl, rfl⟩
  go_wp2_with fail
  refine (Small_any m _ (by omega)).mono ?_
  rintro e w1 ⟨v1, rfl, n1, b1⟩
  have N1 := Lib.hid n1; have B1 := Lib.hid b1
  have s1 := b1.size
  clear n1 b1
  by_cases hE : 0 ≤ E
  · have hd0 : d = 0 := by have := HE.out; omega
    have HN0 : Hid (N = m * 2 ^ E.toNat) := by show _ = _; rw [HN.out, hd0]; simp
    subst hd0
    go_wp2_with fail
    refine (Pow4i_2 _ _ (by omega) (by omega)).mono ?_
    rintro e w2 ⟨v2, rfl, n2, b2⟩
    have N2 := Lib.hid n2; have N1' := Lib.hid (N1.out.below b2); have B2 := Lib.hid (B1.out.trans (b2.mono s1))
    have s2 := B2.out.size
    clear n2 b2 B1 N1 s1
    have l1 : (lim4 m).length ≤ 5 := lim4_u64 (by omega)
    have l2 : (lim4 (2 ^ E.toNat)).length ≤ 972 := Nat.le_trans (lim4_pow (by decide)) (by omega)
    go_wp2_with fail
    refine (Mul4_any _ _ m (2 ^ E.toNat) _ N1'.out N2.out (by omega) (by omega)).mono ?_
    rintro e w3 ⟨v3, rfl, n3, b3⟩
    have N3 := Lib.hid n3; have B3 := Lib.hid (B2.out.trans (b3.mono s2))
    have s3 := B3.out.size
    clear n3 b3 B2 N1' N2 s2
    have l3 : (lim4 (m * 2 ^ E.toNat)).length ≤ 977 := lim4_mul l1 l2
    rw [← HN0.out] at N3 l3
    clear l1 l2
    go_wp2_with fail
    refine (Text4_any _ N _ N3.out (by omega)).mono ?_
    rintro e w4 ⟨s, rfl, hc, b4⟩
    have HC := Lib.hid hc
    have B4' := Lib.hid (B3.out.trans (b4.mono s3))
    have hsz : Hid (s.size ≤ 5000) := by
      have h1 : s.data.toList.length ≤ 4 * 977 := canon_lim4 hc l3 (by decide)
      show _ ≤ _
      have : s.size = s.data.toList.length := by simp
      omega
    clear hc b4
    go_wp2_with fail
    go_ret2
    refine ⟨s, ⟨#[]⟩, rfl, HX.out _ _ ?_ (fun c h => by cases h) rfl ?_, hsz.out, by decide, B4'.out⟩
    · rw [Nat.pow_zero, Nat.div_one]; exact HC.out
    · rw [Nat.pow_zero, Nat.mod_one]; rfl
  · have hdE : (d : Int) = -E := by have := HE.out; omega
    have HN0 : Hid (N = m * 5 ^ (-E).toNat) := by show _ = _; rw [HN.out, ← HE.out, show E.toNat = 0 by omega]; simp
    have hE1 : E < 0 := by omega
    go_wp2_with fail
    refine (Pow4i_5 _ _ (by omega) (by omega)).mono ?_
    rintro e w2 ⟨v2, rfl, n2, b2⟩
    have N2 := Lib.hid n2; have N1' := Lib.hid (N1.out.below b2); have B2 := Lib.hid (B1.out.trans (b2.mono s1))
    have s2 := B2.out.size
    clear n2 b2 B1 N1 s1
    have l1 : (lim4 m).length ≤ 5 := lim4_u64 (by omega)
    have l2 : (lim4 (5 ^ (-E).toNat)).length ≤ 1075 := Nat.le_trans (lim4_pow (by decide)) (by omega)
    go_wp2_with fail
    refine (Mul4_any _ _ m (5 ^ (-E).toNat) _ N1'.out N2.out (by omega) (by omega)).mono ?_
    rintro e w3 ⟨v3, rfl, n3, b3⟩
    have N3 := Lib.hid n3; have B3 := Lib.hid (B2.out.trans (b3.mono s2))
    have s3 := B3.out.size
    clear n3 b3 B2 N1' N2 s2
    have l3 : (lim4 (m * 5 ^ (-E).toNat)).length ≤ 1080 := lim4_mul l1 l2
    rw [← HN0.out] at N3 l3
    clear l1 l2
    go_wp2_with fail
    refine (Text4_any _ N _ N3.out (by omega)).mono ?_
    rintro e w4 ⟨s, rfl, hc, b4⟩
    have HC := Lib.hid hc
    have B4' := Lib.hid (B3.out.trans (b4.mono s3))
    have hsz : s.data.toList.length ≤ 4 * 1080 := canon_lim4 hc l3 (by decide)
    clear hc b4 l3 HP
    have hd9 : d ≤ 1074 := by omega
    go_wp2_with fail
    go_loop [8] (fun v => ∃ (t : ByteArray) (j : Nat), v = .string t ∧ Hid (t.data.toList = List.replicate j 48 ++ s.data.toList) ∧ t.size ≤ 4500) (fun v => match v with | .string t => 5000 - t.size | _ => 0)
    case atStart => exact ⟨s, 0, rfl, by show _ = _; simp, by have : s.size = s.data.toList.length := by simp
                                                              omega⟩
    case round =>
      obtain ⟨t, j, rfl, HT, ht⟩ := hrel
      by_cases hle : t.size ≤ d
      · have hI : (t.size : Int) ≤ -E := by omega
        go_wp2_with fail
        go_round
        case rel =>
          refine ⟨_, j + 30, rfl, ?_, ?_⟩
          · show _ = _
            have e30 : List.replicate (j + 30) (48 : UInt8) = List.replicate 30 48 ++ List.replicate j 48 := by rw [List.replicate_append_replicate, Nat.add_comm]
            rw [e30, List.append_assoc, ← HT.out]
            simp [List.replicate]
          · rw [ByteArray.size_append]
            have : (⟨#[48, 48, 48, 48, 48, 48, 48, 48, 48, 48, 48, 48, 48, 48, 48, 48, 48, 48, 48, 48, 48, 48, 48, 48, 48, 48, 48, 48, 48, 48]⟩ : ByteArray).size = 30 := by rfl
            omega
        case measure =>
          show 5000 - ByteArray.size _ < 5000 - t.size
          rw [ByteArray.size_append]
          have : (⟨#[48, 48, 48, 48, 48, 48, 48, 48, 48, 48, 48, 48, 48, 48, 48, 48, 48, 48, 48, 48, 48, 48, 48, 48, 48, 48, 48, 48, 48, 48]⟩ : ByteArray).size = 30 := by rfl
          omega
      · have hI : decide ((t.size : Int) ≤ -E) = false := by simp; omega
        have hts : t.size = t.data.toList.length := by simp
        have hdg : Digits t.data.toList := by rw [HT.out]; exact digits_append (digits_zeros _) HC.out.dig
        have hdv : digVal t.data.toList = N := by rw [HT.out, digVal_zeros', HC.out.val]
        obtain ⟨k, hk⟩ : ∃ k, k = t.size - d := ⟨_, rfl⟩
        have hkn : k ≤ t.size := by omega
        have hk1 : 1 ≤ k := by omega
        have hkI : (t.size : Int) + E = (k : Int) := by omega
        obtain ⟨q1, q2⟩ := digVal_split t.data.toList hdg k
        have hdl : (t.data.toList.drop k).length = d := by rw [List.length_drop]; omega
        rw [hdl, hdv] at q1 q2
        have HW : Hid (Canon (stripL (t.data.toList.take k)) (N / 10 ^ d)) := by
          show Canon _ _
          rw [← q1]
          refine strip_canon (digits_take hdg _) fun h0 => ?_
          have h5 : (t.data.toList.take k).length = 0 := by rw [h0]; rfl
          rw [List.length_take] at h5
          omega
        have HF : Hid (EX (stripL (t.data.toList.take k)) (t.data.toList.drop k)) := HX.out _ _ HW.out (digits_drop hdg _) hdl q2
        clear q1 q2 hdl hdv hdg hle HT hsz
        obtain ⟨n, hn⟩ : ∃ n, n = t.size := ⟨_, rfl⟩
        have HNn := Lib.hid hn
        have hnI : (t.size : Int) = (n : Int) := by omega
        have hkI2 : (n : Int) + E = (k : Int) := by omega
        clear hk hts hkI
        rw [← hn] at hkn ht
        clear hn
        go_wp2_with fail
        go_loop [10] (fun v => ∃ i : Nat, v = .int .i64 (i : Int) ∧ i < k ∧ Hid (stripL ((t.data.toList.take k).drop i) = stripL (t.data.toList.take k))) (fun v => k - (intOf v).toNat)
        case atStart => exact ⟨0, rfl, by omega, rfl⟩
        case round =>
          obtain ⟨i, rfl, hik, HS⟩ := hrel
          have his : i < t.size := by rw [← HNn.out]; omega
          have hkt : k ≤ t.size := by rw [← HNn.out]; omega
          have hcc := byt_in his
          by_cases hmore : i + 1 < k ∧ byt t i = 48
          · have HS1 : Hid (stripL ((t.data.toList.take k).drop (i + 1)) = stripL (t.data.toList.take k)) := by
              show _ = _
              rw [← HS.out, strip_byt hkt hmore.1 hmore.2]
            obtain ⟨h1, h2⟩ := hmore
            rw [h2] at hcc
            have h1I : (i : Int) + 1 < (k : Int) := by omega
            clear HS h2
            go_wp2_with fail
            go_round
            case rel => exact ⟨i + 1, by go_num, by omega, HS1⟩
            case measure => simp only [intOf]; omega
          · have HS1 : Hid ((t.data.toList.take k).drop i = stripL (t.data.toList.take k)) := by
              show _ = _
              rw [← HS.out, strip_end hkt hik (fun h1 h2 => hmore ⟨h1, h2⟩)]
            have hfin : Hid (EX (t.extract i k).data.toList (t.extract k t.size).data.toList) := by
              show EX _ _
              rw [extract_list, extract_list, HS1.out, List.take_of_length_le (l := t.data.toList) (i := t.size) (by simp)]
              exact HF.out
            have z1 : (t.extract i k).size ≤ 5000 := by rw [ByteArray.size_extract]; have := HNn.out; omega
            have z2 : (t.extract k t.size).size ≤ 1074 := by rw [ByteArray.size_extract]; have := HNn.out; omega
            have hikI : (i : Int) < (k : Int) := by omega
            have hknI : (k : Int) ≤ (n : Int) := by omega
            have hii : (i : Int) ≤ (k : Int) := by omega
            by_cases h1 : i + 1 < k
            · have h2 : byt t i ≠ 48 := fun h => hmore ⟨h1, h⟩
              have h1I : (i : Int) + 1 < (k : Int) := by omega
              generalize byt t i = c at *
              have hcb : ((c : Int) == 48) = false := beq_eq_false_iff_ne.2 (by omega)
              clear hmore HS HS1 h2
              go_wp2_with fail
              go_quiet (fail)
              go_wp2_with fail
              go_ret2
              exact ⟨_, _, rfl, hfin.out, z1, z2, B4'.out.drewN _⟩
            · have h1I : decide ((i : Int) + 1 < (k : Int)) = false := by simp; omega
              clear hmore HS HS1
              go_wp2_with fail
              go_quiet (fail)
              go_wp2_with fail
              go_ret2
              exact ⟨_, _, rfl, hfin.out, z1, z2, B4'.out.drewN _⟩
end Go.Proofs.YtcmpdamfeoaapaaGreatDoor
