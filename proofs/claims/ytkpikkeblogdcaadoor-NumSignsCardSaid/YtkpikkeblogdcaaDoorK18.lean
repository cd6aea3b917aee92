/- What NumSigns's code computes: it answers true. -/
import Derived.Test.YtkpikkeblogdcaaDoorK17
namespace Go.Proofs.YtkpikkeblogdcaaDoor
open Go.RowKit
set_option linter.unusedVariables false

theorem readN_inf (l : List UInt8) (e : Int) : readN l e ≤ 9218868437227405312 := by
  unfold readN
  split
  · omega
  · split
    · exact readB_le _ _
    · split
      · exact readB_le _ _
      · exact readB_le _ _
theorem negF2 {R : Nat} (h : R < 9223372036854775808) : Op.negFloat .f64 (R + 9223372036854775808) = R := by
  rw [← negF h]
  show (R ^^^ 2 ^ 63) ^^^ 2 ^ 63 = R
  rw [Nat.xor_assoc, Nat.xor_self, Nat.xor_zero]
theorem readN_canon {l : List UInt8} {n : Nat} (h : Canon l n) (hl : l.length ≤ 20) : readN l 0 = near n 1 := by
  unfold readN
  rcases Nat.eq_zero_or_pos n with h0 | h0
  · subst h0
    rw [canon_zero_text h, if_pos (by decide), near_zero (by decide)]
  · have hb : bare l = l := bare_pos_text h h0
    have hl0 := List.length_pos_iff.2 h.ne
    rw [hb, if_neg h.ne, if_pos (by omega), readB_near (by rw [hb]; omega) (by omega) (by omega) (by rw [hb]; omega) (by rw [hb]; omega), hb, h.val]
    simp
theorem looks_canon {l : List UInt8} {n : Nat} (h : Canon l n) : looksL l = true := by
  have h1 := (pref_plain h []).1
  rw [List.append_nil, numeral_plain h] at h1
  have hl0 := List.length_pos_iff.2 h.ne
  unfold looksL
  rw [h1]
  simp only [List.drop_length]
  rw [decide_eq_true hl0]
  rfl

/-- a string's size -/
def sizeV : Value → Nat | .string s => s.size | _ => 0

set_option maxRecDepth 100000 in
set_option maxHeartbeats 4000000 in
theorem signs_any (n : Nat) (t : ByteArray) (w : World) (hn : n < 18446744073709551616) (ht : t.size ≤ maxLen) :
    Calls Tryd.prog 11 #[.int .u64 n, .string t] w fun e w' => e = .returned (.bool true) ∧ Below w.heap.size w w' := by
  go_enter Tryd.func11, Tryd.ntmps11
  go_wp2_with fail
  refine (fixed4_any w).mono ?_
  rintro e w1 ⟨rfl, hb⟩
  have HB := Lib.hid hb
  have hs1 := hb.size
  clear hb
  rcases Nat.lt_or_ge 100 t.size with hc | hc
  · have hc2 : 100 < (t.size : Int) := by omega
    go_wp2_with fail
    go_ret
    exact ⟨rfl, HB.out⟩
  have hc2 : (t.size : Int) ≤ 100 := by omega
  go_wp2_with fail
  obtain ⟨wo, rfl⟩ : ∃ wo : World, wo = w1 := ⟨_, rfl⟩
  go_loopw [5, 6] (fun sv kv wr => ∃ (k : Nat) (s : ByteArray), kv = .int .u64 k ∧ k ≤ n ∧ sv = .string s ∧ Done n k s.data.toList ∧ Below w.heap.size w wr ∧ w.heap.size ≤ wr.heap.size) (fun sv kv _ => (intOf kv).toNat * 2 + (1 - sizeV sv))
  case atStart => exact ⟨n, _, rfl, Nat.le_refl _, rfl, .inl ⟨rfl, rfl⟩, HB.out, hs1⟩
  case round =>
    clear HB hs1
    obtain ⟨k, s, rfl, hkn, rfl, hl, hb, hs⟩ := hrel
    have HL := Lib.hid hl
    have HB := Lib.hid hb
    have hsz : s.size = s.data.toList.length := by simp
    have hsl : s.size ≤ 20 := by
      have := hl.short hn
      omega
    have HSZ := Lib.hid hsz
    clear hl hb hsz
    have hk64 : k < 18446744073709551616 := by omega
    rcases Nat.eq_zero_or_pos k with hk0 | hk0
    · subst hk0
      rcases hse : s.toList.isEmpty with _ | _
      · have hne : s.data.toList ≠ [] := by
          intro h
          rw [ByteArray.toList_eq, h] at hse
          cases hse
        have hcan := HL.out.canon hne
        have HC := Lib.hid hcan
        have hszz := HSZ.out
        obtain ⟨p1, p2⟩ := pref_plain hcan t.data.toList
        obtain ⟨p3, p4⟩ := pref_sign hcan t.data.toList 45 true rfl (by decide)
        obtain ⟨p5, p6⟩ := pref_sign hcan t.data.toList 43 false rfl (by decide)
        obtain ⟨p7, p8⟩ := pref_blank hcan t.data.toList
        rw [if_pos rfl] at p4
        rw [if_neg (by decide)] at p6
        obtain ⟨c1, c2⟩ := numeral_count hcan t.data.toList
        have hX := readN_inf (numeralL (s.data.toList ++ t.data.toList)).1 (numeralL (s.data.toList ++ t.data.toList)).2.1
        have hval : t.data.toList = [] → readN (numeralL (s.data.toList ++ t.data.toList)).1 (numeralL (s.data.toList ++ t.data.toList)).2.1 = near n 1 := by
          intro h
          rw [h, List.append_nil, numeral_plain hcan]
          exact readN_canon hcan (by rw [← hszz]; exact hsl)
        generalize readN (numeralL (s.data.toList ++ t.data.toList)).1 (numeralL (s.data.toList ++ t.data.toList)).2.1 = X at *
        have hcl : (numeralL (s.data.toList ++ t.data.toList)).2.2 ≤ 1000 := by
          have h := (numeralL_facts (s.data.toList ++ t.data.toList)).2.2.2
          have h2 := size_list t
          rw [List.length_append] at h
          omega
        generalize (numeralL (s.data.toList ++ t.data.toList)).2.2 = c at *
        have HP1 : Hid (∀ W, Calls Tryd.prog 31 #[.string (s ++ t)] W fun e w' => e = .returned (.tuple #[.float .f64 X, .int .i64 (c : Nat)]) ∧ Below W.heap.size W w') := by
          intro W
          have h := Prefix_any (s ++ t) W (by rw [ByteArray.size_append]; omega)
          rw [ByteArray.data_append, Array.toList_append, p1, p2] at h
          exact h
        have HP2 : Hid (∀ W, Calls Tryd.prog 31 #[.string (⟨#[45]⟩ ++ s ++ t)] W fun e w' => e = .returned (.tuple #[.float .f64 (X + 9223372036854775808), .int .i64 (c + 1 : Nat)]) ∧ Below W.heap.size W w') := by
          intro W
          have h := Prefix_any (⟨#[45]⟩ ++ s ++ t) W (by rw [ByteArray.size_append, ByteArray.size_append]; show 1 + _ + _ ≤ _; omega)
          rw [ByteArray.data_append, Array.toList_append, ByteArray.data_append, Array.toList_append, show (⟨#[45]⟩ : ByteArray).data.toList = [45] from rfl, List.append_assoc, List.singleton_append, p3, p4] at h
          exact h
        have HP3 : Hid (∀ W, Calls Tryd.prog 31 #[.string (⟨#[32, 10, 9]⟩ ++ s ++ t)] W fun e w' => e = .returned (.tuple #[.float .f64 X, .int .i64 (c + 3 : Nat)]) ∧ Below W.heap.size W w') := by
          intro W
          have h := Prefix_any (⟨#[32, 10, 9]⟩ ++ s ++ t) W (by rw [ByteArray.size_append, ByteArray.size_append]; show 3 + _ + _ ≤ _; omega)
          rw [ByteArray.data_append, Array.toList_append, ByteArray.data_append, Array.toList_append, show (⟨#[32, 10, 9]⟩ : ByteArray).data.toList = [32, 10, 9] from rfl, List.append_assoc, List.cons_append, List.cons_append, List.singleton_append, p7, p8] at h
          exact h
        have HP4 : Hid (∀ W, Calls Tryd.prog 31 #[.string (⟨#[43]⟩ ++ s ++ t)] W fun e w' => e = .returned (.tuple #[.float .f64 X, .int .i64 (c + 1 : Nat)]) ∧ Below W.heap.size W w') := by
          intro W
          have h := Prefix_any (⟨#[43]⟩ ++ s ++ t) W (by rw [ByteArray.size_append, ByteArray.size_append]; show 1 + _ + _ ≤ _; omega)
          rw [ByteArray.data_append, Array.toList_append, ByteArray.data_append, Array.toList_append, show (⟨#[43]⟩ : ByteArray).data.toList = [43] from rfl, List.append_assoc, List.singleton_append, p5, p6] at h
          exact h
        have HL1 : Hid (∀ W, Calls Tryd.prog 32 #[.string s] W fun e w' => e = .returned (.bool true) ∧ Below W.heap.size W w') := by
          intro W
          have h := Looks_any s W (by omega)
          rw [looks_canon hcan] at h
          exact h
        have o1 : FloatKind.f64.format.order X X = some .eq := order_eq hX
        have n1 : Op.negFloat .f64 (X + 9223372036854775808) = X := negF2 (by omega)
        have hcs : (s.size : Int) ≤ (c : Int) := by rw [HSZ.out]; omega
        have HV := Lib.hid hval
        clear p1 p2 p3 p4 p5 p6 p7 p8 hval hX c1 c2 hcan HL hne hszz
        go_wp2_with fail
        refine (HP1.out _).mono ?_
        rintro e w2 ⟨rfl, hb2⟩
        have HB2 := Lib.hid (HB.out.trans (hb2.mono hs))
        have hs2 := hb2.size
        clear hb2 HB
        go_wp2_with fail
        refine (HP2.out _).mono ?_
        rintro e w3 ⟨rfl, hb3⟩
        have HB3 := Lib.hid (HB2.out.trans (hb3.mono (by omega)))
        have hs3 := hb3.size
        clear hb3 HB2
        go_wp2_with fail
        refine (HP3.out _).mono ?_
        rintro e w4 ⟨rfl, hb4⟩
        have HB4 := Lib.hid (HB3.out.trans (hb4.mono (by omega)))
        have hs4 := hb4.size
        clear hb4 HB3
        go_wp2_with fail
        refine (HP4.out _).mono ?_
        rintro e w5 ⟨rfl, hb5⟩
        have HB5 := Lib.hid (HB4.out.trans (hb5.mono (by omega)))
        have hs5 := hb5.size
        clear hb5 HB4
        rcases hte : t.toList.isEmpty with _ | _
        · clear HV
          go_wp2_with fail
          refine (HL1.out _).mono ?_
          rintro e w6 ⟨rfl, hb6⟩
          have HB6 := Lib.hid (HB5.out.trans (hb6.mono (by omega)))
          clear hb6 HB5
          go_wp2_with fail
          go_ret
          exact ⟨rfl, HB6.out⟩
        · have o2 : FloatKind.f64.format.order X (floatOfInt FloatKind.f64 (n : Int)) = some .eq := by
            have h := HV.out (by rw [ByteArray.toList_eq, List.isEmpty_iff] at hte; exact hte)
            rw [show floatOfInt FloatKind.f64 (n : Int) = FloatKind.f64.nearest (n : Int) from rfl, nearest_near, ← h]
            exact o1
          clear HV
          go_wp2_with fail
          refine (HL1.out _).mono ?_
          rintro e w6 ⟨rfl, hb6⟩
          have HB6 := Lib.hid (HB5.out.trans (hb6.mono (by omega)))
          clear hb6 HB5
          go_wp2_with fail
          go_ret
          exact ⟨rfl, HB6.out⟩
      · have hnil : s.data.toList = [] := by
          rw [ByteArray.toList_eq, List.isEmpty_iff] at hse
          exact hse
        have hl2 := HL.out.step (.inr hnil)
        have HL2 : Hid (Done n 0 (dig 0 :: s.data.toList)) := hl2
        have HN := Lib.hid hnil
        clear hl2 HL hnil
        go_wp2_with
          (refine wpList_string _ rfl _ rfl wr.heap.size 1 [dig (0 % 10)] rfl (cell_one wr _ 0 _ (by decide)) ?_)
        go_roundw
        case rel =>
          refine ⟨0, _, rfl, hkn, rfl, ?_, HB.out.alloc hs _, by simp; omega⟩
          rw [ByteArray.data_append, Array.toList_append]
          exact HL2.out
        case measure =>
          have h3 : s.size = 0 := by rw [HSZ.out, HN.out]; rfl
          have h4 : ((⟨#[dig (0 % 10)]⟩ : ByteArray) ++ s).size = s.size + 1 := by rw [ByteArray.size_append, Nat.add_comm]; rfl
          simp only [intOf, sizeV]
          rw [h4, h3]
          decide
    · obtain ⟨k2, hk2⟩ : ∃ k2, k2 = k / 10 := ⟨_, rfl⟩
      have hl2 := HL.out.step (.inl hk0)
      rw [← hk2] at hl2
      have HL2 := Lib.hid hl2
      have hkk : k2 < k := by omega
      have hkn2 : k2 ≤ n := by omega
      have hm10 : (k2 : Int) = (k : Int) / 10 := by omega
      have HKK := Lib.hid hkk
      clear hl2 hk2 HL hkk
      obtain ⟨M, hM⟩ : ∃ M : Int, M = (k : Int) := ⟨_, rfl⟩
      rw [← hM] at hm10 ⊢
      have hM1 : 0 < M := by omega
      have hM2 : M < 18446744073709551616 := by omega
      have HM := Lib.hid hM
      have HEK : Hid (M / 10 = (k2 : Int)) := hm10.symm
      clear hM hm10 hk0 hk64 hkn
      go_wp2_with
        (refine wpList_string _ rfl _ rfl wr.heap.size 1 [dig (k % 10)] rfl (cell_one wr _ k _ (by rw [HM.out]; omega)) ?_)
      go_roundw
      case rel =>
        refine ⟨k2, _, by rw [HEK.out], hkn2, rfl, ?_, HB.out.alloc hs _, by simp; omega⟩
        rw [ByteArray.data_append, Array.toList_append]
        exact HL2.out
      case measure =>
        have h1 := HEK.out
        have h2 := HM.out
        have h3 := HKK.out
        have h4 : ((⟨#[dig (k % 10)]⟩ : ByteArray) ++ s).size = s.size + 1 := by rw [ByteArray.size_append, Nat.add_comm]; rfl
        simp only [intOf, sizeV]
        rw [h4]
        omega
end Go.Proofs.YtkpikkeblogdcaaDoor
