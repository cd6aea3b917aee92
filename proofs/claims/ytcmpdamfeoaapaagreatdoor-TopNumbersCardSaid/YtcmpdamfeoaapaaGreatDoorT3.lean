/- What Conv writes with seventeen digits is read back; the document's example; math.IsInf at any float. -/
import Derived.Test.YtcmpdamfeoaapaaGreatDoorT1
import Derived.Test.YtcmpdamfeoaapaaGreatDoorT2
import Derived.Test.YtcmpdamfeoaapaaGreatDoorK20
import Derived.Test.YtcmpdamfeoaapaaGreatDoorR18
namespace Go.Proofs.YtcmpdamfeoaapaaGreatDoor
open Go.RowKit
set_option linter.unusedVariables false

theorem ws_none : ∀ c ∈ ([] : List UInt8), wsL.contains c = true := fun c h => by cases h
theorem tail_none : ∀ (c : UInt8) r, ([] : List UInt8) = c :: r → digs.contains c = false ∧ c ≠ 46 ∧ c ≠ 101 ∧ c ≠ 69 := fun c r h => by cases h
theorem conv_back {b : Nat} (hb : b < 18446744073709551616) (hf : fin b = true) : looksL (convS b).data.toList = true ∧ FloatKind.f64.format.order (prefB (convS b).data.toList) b = some .eq ∧ prefB (convS b).data.toList < 18446744073709551616 := by
  refine ⟨?_, ?_, prefB_lt _⟩
  · unfold convS
    cases hw : wholeOk b
    · rw [if_neg Bool.false_ne_true]
      exact (gen_back false false false false false 0 hb hf).2
    · rw [if_pos rfl]
      obtain ⟨l, hc, _, _⟩ := fix_ok b 0 hb hf (by decide)
      have e : dl (scaledN b 0) = l := dl_eq hc
      rw [e]
      have h := looks_gen (tail := []) (ws := []) (FloatKind.f64.format.order b 0 == some .lt) hc ws_none tail_none
      rw [List.nil_append, List.append_nil] at h
      have e2 : sgL (FloatKind.f64.format.order b 0 == some .lt) ++ l = if (FloatKind.f64.format.order b 0 == some .lt) = true then 45 :: l else l := by
        unfold sgL; cases (FloatKind.f64.format.order b 0 == some .lt) <;> rfl
      rw [e2] at h
      exact h.trans rfl
  · unfold convS
    cases hw : wholeOk b
    · rw [if_neg Bool.false_ne_true]
      have h := (gen_back false false false false false 0 hb hf).1
      change FloatKind.f64.format.order (prefB (padL false false 0 (signL false false (decide (9223372036854775808 ≤ b))) (genO b 16 false).data.toList)) b = some .eq
      rw [h]
      exact (fin_order hb hf).1
    · rw [if_pos rfl]
      obtain ⟨l, hc, _, _⟩ := fix_ok b 0 hb hf (by decide)
      have e : dl (scaledN b 0) = l := dl_eq hc
      rw [e]
      obtain ⟨q, hq1, hq2, hq3, hq4⟩ := whole_value hb hw
      have h := (pref_gen (tail := []) (ws := []) (FloatKind.f64.format.order b 0 == some .lt) hc ws_none tail_none).2
      rw [List.nil_append, List.append_nil] at h
      have e2 : sgL (FloatKind.f64.format.order b 0 == some .lt) ++ l = if (FloatKind.f64.format.order b 0 == some .lt) = true then 45 :: l else l := by
        unfold sgL; cases (FloatKind.f64.format.order b 0 == some .lt) <;> rfl
      rw [e2] at h
      change FloatKind.f64.format.order (prefB (if (FloatKind.f64.format.order b 0 == some .lt) = true then 45 :: l else l)) b = some .eq
      rw [h]
      have hcq : Canon l q := by rw [← hq2]; exact hc
      have hl : l.length ≤ 16 := canon_len hcq hq3 (by decide)
      have hr : readN l 0 = b % 9223372036854775808 := by
        rw [readN_val hcq.dig (by omega)]
        unfold numV
        rw [hcq.val]
        split
        · rename_i h0
          rw [h0, Nat.zero_mul] at hq1
          exact (vl_inj (hq1.trans vl_zero.symm)).symm
        · unfold nearD
          rw [show ((0 : Int)).toNat = 0 from rfl, show (-(0 : Int)).toNat = 0 from rfl, Nat.pow_zero, Nat.mul_one]
          exact near_whole hq4 hq1
      rw [hr]
      exact order_back hb hq4 rfl
theorem conv_size {b : Nat} (hb : b < 18446744073709551616) (hf : fin b = true) {w : World} (hT : PowOk w) : (convS b).size ≤ 100000 := by
  unfold convS
  split
  · obtain ⟨l, hc, hl, _⟩ := fix_ok b 0 hb hf (by decide)
    rw [show dl (scaledN b 0) = l from dl_eq hc]
    show (if (FloatKind.f64.format.order b 0 == some .lt) = true then 45 :: l else l).length ≤ _
    split
    · simp; omega
    · omega
  · have hg : (genO b 16 false).size ≤ 3000 := Calls.fact (general_any b 16 false w hb hf (by decide) hT) fun _ _ h => h.2.1
    have h1 := padL_len false false 0 (signL false false (decide (9223372036854775808 ≤ b))) (genO b 16 false).data.toList
    have h2 := signL_len false false (decide (9223372036854775808 ≤ b))
    rw [sz_list] at hg
    have h3 : (0 : Int).toNat = 0 := rfl
    show (padL false false 0 (signL false false (decide (9223372036854775808 ≤ b))) (genO b 16 false).data.toList).length ≤ _
    omega
theorem ex17_sci : SciAt 4602678819172646912 16 (-1) where
  ge := of_decide_eq_true (by kernel_rfl)
  lt := of_decide_eq_true (by kernel_rfl)
  least := ⟨-1, Int.le_refl _, by unfold GeT; exact of_decide_eq_true (by kernel_rfl), fun y h1 h2 => by omega⟩
theorem ex17_dl : dl (scaledN 4602678819172646912 17) = [53, 48, 48, 48, 48, 48, 48, 48, 48, 48, 48, 48, 48, 48, 48, 48, 48] := by
  rw [show scaledN 4602678819172646912 17 = 50000000000000000 from by kernel_rfl]
  exact dl_eq (canon_mk (by decide) (by decide) (by decide) (by decide))
theorem ex17_e : sciE 4602678819172646912 16 = -1 := by
  unfold sciE
  rw [if_neg (of_decide_eq_true (p := ¬ (mant 4602678819172646912 = 0)) (by kernel_rfl)), sciX_eq ex17_sci]
theorem ex17_gen : genO 4602678819172646912 16 false = ⟨#[48, 46, 53]⟩ := by
  have hB : genB 4602678819172646912 16 = false := by unfold genB; rw [ex17_e]; decide
  have hF : genF 4602678819172646912 16 = ⟨#[48, 46, 53, 48, 48, 48, 48, 48, 48, 48, 48, 48, 48, 48, 48, 48, 48, 48, 48]⟩ := by
    unfold genF
    rw [ex17_e, show (((16 : Nat) : Int) - -1).toNat = 17 from rfl]
    unfold fixT
    rw [show ((17 : Nat) : Int) = 17 from rfl, ex17_dl]
    kernel_rfl
  unfold genO genH genT
  rw [hB, hF]
  simp only [Bool.false_eq_true, if_false]
  rw [if_pos (by decide)]
  exact of_decide_eq_true (by kernel_rfl)
theorem half_whole : wholeOk 4602678819172646912 = false := by kernel_rfl
theorem ex17_conv : convS 4602678819172646912 = ⟨#[48, 46, 53]⟩ := by
  unfold convS
  rw [if_neg (by rw [half_whole]; decide), ex17_gen]
  kernel_rfl
theorem half_fin : fin 4602678819172646912 = true := by kernel_rfl
set_option maxHeartbeats 2000000 in
theorem IsInf_all (b : Nat) (w : World) (hb : b < 18446744073709551616) :
    Calls Tryz.prog 20 #[.float .f64 b, .int .i64 0] w fun e w' => e = .returned (.bool (FloatKind.f64.format.order (b % 9223372036854775808) 9218868437227405311 == some .gt)) ∧ w = w' := by
  have HA := Lib.hid (fun W => Abs_any b W hb)
  go_enter Tryz.func20, Tryz.ntmps20
  go_wp2_with fail
  refine (HA.out _).mono ?_
  rintro e _ ⟨rfl, rfl⟩
  go_wp2_with fail
  go_ret
  exact ⟨rfl, rfl⟩
theorem inf_fin {b : Nat} (hf : fin b = true) : (FloatKind.f64.format.order (b % 9223372036854775808) 9218868437227405311 == some .gt) = false := by
  have h := fin_mod.1 hf
  rw [order_fin h (by decide)]
  have : compare (b % 9223372036854775808) 9218868437227405311 ≠ .gt := fun hc => by
    have := Nat.compare_eq_gt.1 hc
    omega
  generalize compare (b % 9223372036854775808) 9218868437227405311 = o at *
  cases o
  · rfl
  · rfl
  · exact absurd rfl this
end Go.Proofs.YtcmpdamfeoaapaaGreatDoor
