/- FormatWhole, walked. -/
import Derived.Test.YtfdnhkjeoeffoaaGreatDoorW22
import Derived.Test.YtfdnhkjeoeffoaaGreatDoorU5
import Derived.Test.YtfdnhkjeoeffoaaGreatDoorAW2
import Derived.Test.YtfdnhkjeoeffoaaGreatDoorM6
namespace Go.Proofs.YtfdnhkjeoeffoaaGreatDoor
open Go.RowKit
set_option linter.unusedVariables false

theorem dvC_lt {c : UInt8} (h : 48 ≤ c.toNat ∧ (c.toNat ≤ 57 ∨ (97 ≤ c.toNat ∧ c.toNat ≤ 102))) : dvC c < 16 := by unfold dvC; split <;> omega
set_option maxHeartbeats 8000000 in
set_option maxRecDepth 1000000 in
theorem value_any (s : ByteArray) (B : Nat) (w : World) (hB1 : 1 ≤ B) (hd : DigB s.data.toList) (hv : valB B s.data.toList < 9007199254740992) (hs : s.size ≤ 1000000) :
    Calls Tryz.prog 27 #[.string s, .int .u64 (B : Int)] w fun e w' => e = .returned (.int .u64 ((valB B s.data.toList : Nat) : Int)) ∧ w' = w := by
  obtain ⟨n, hn⟩ : ∃ n, n = s.size := ⟨_, rfl⟩
  obtain ⟨R, hR⟩ : ∃ R, R = valB B s.data.toList := ⟨_, rfl⟩
  have hsn : s.size = n := hn.symm
  rw [← hR] at hv ⊢
  have HR := Lib.hid hR
  have HV := Lib.hid hv
  have HD := Lib.hid hd
  have HN := Lib.hid hn
  have HB1 := Lib.hid hB1
  have hnz : n ≤ 1000000 := by omega
  clear hR hv hd hn hs hB1
  go_enter Tryz.func27, Tryz.ntmps27
  go_wp2_with fail
  go_loopw [5, 6] (fun v5 v6 wr => ∃ k : Nat, v6 = .int .i64 (k : Nat) ∧ k ≤ n ∧ v5 = .int .u64 ((valB B (s.data.toList.take k) : Nat) : Int) ∧ wr = w) (fun _ v6 _ => n - (intOf v6).toNat)
  case atStart => exact ⟨0, rfl, Nat.zero_le _, rfl, rfl⟩
  case round =>
    obtain ⟨k, rfl, hk, rfl, rfl⟩ := hrel
    rcases Nat.lt_or_ge k n with hlt | hge
    · have hkI : (k : Int) < (n : Int) := by omega
      have hks : k < s.size := by omega
      have hkl : k < s.data.toList.length := by rw [← sz_list]; exact hks
      obtain ⟨c, hc⟩ : ∃ c, c = s.data.toList[k] := ⟨_, rfl⟩
      have hcs : s[k].toNat = c.toNat := by rw [hc]; rfl
      have hcd := HD.out c (by rw [hc]; exact List.getElem_mem hkl)
      have hdv := dvC_lt hcd
      have hstep : valB B (s.data.toList.take (k + 1)) = valB B (s.data.toList.take k) * B + dvC c := by rw [List.take_succ_eq_append_getElem hkl, valB_snoc, hc]
      have hmono := valB_mono HB1.out s.data.toList (k + 1)
      rw [← HR.out] at hmono
      have hv := HV.out
      obtain ⟨V, hV⟩ : ∃ V, V = valB B (s.data.toList.take k) := ⟨_, rfl⟩
      obtain ⟨V2, hV2⟩ : ∃ V2, V2 = valB B (s.data.toList.take (k + 1)) := ⟨_, rfl⟩
      rw [← hV, ← hV2] at hstep
      rw [← hV2] at hmono
      rw [← hV]
      have HV2 := Lib.hid hV2
      obtain ⟨M, hM⟩ : ∃ M, M = V * B := ⟨_, rfl⟩
      rw [← hM] at hstep
      have hMI : (V : Int) * (B : Int) = (M : Int) := by rw [hM]; push_cast; rfl
      have hmw : IntKind.u64.wrap ((V : Int) * (B : Int)) = (M : Int) := by rw [hMI, IntKind.wrap_u64]; omega
      obtain ⟨cn, hcn⟩ : ∃ cn, cn = c.toNat := ⟨_, rfl⟩
      rw [← hcn] at hcs hcd
      obtain ⟨D, hDe⟩ : ∃ D, D = dvC c := ⟨_, rfl⟩
      rw [← hDe] at hstep hdv
      unfold dvC at hDe
      rw [← hcn] at hDe
      have haw : IntKind.u64.wrap ((M : Int) + (D : Int)) = (V2 : Int) := by rw [IntKind.wrap_u64]; omega
      clear hM hMI hV2 hV hc hcn hmono
      by_cases h97 : 97 ≤ cn
      · have h97I : (97 : Int) ≤ (cn : Int) := by omega
        rw [if_pos h97] at hDe
        obtain ⟨e, he⟩ : ∃ e : Nat, e = cn - 97 := ⟨_, rfl⟩
        obtain ⟨e0, he0⟩ : ∃ e0 : Nat, e0 = cn - 48 := ⟨_, rfl⟩
        have x1 : IntKind.u8.wrap ((cn : Int) - 97) = (e : Int) := by rw [IntKind.wrap_u8]; omega
        have x0 : IntKind.u8.wrap ((cn : Int) - 48) = (e0 : Int) := by rw [IntKind.wrap_u8]; omega
        have x2 : IntKind.u64.wrap ((e : Int) + 10) = (D : Int) := by rw [IntKind.wrap_u64]; omega
        have x3 : IntKind.u64.wrap (e : Int) = (e : Int) := by rw [IntKind.wrap_u64]; omega
        have x4 : IntKind.u64.wrap (e0 : Int) = (e0 : Int) := by rw [IntKind.wrap_u64]; omega
        clear hDe he he0 hstep hcd
        go_wp2_with fail
        go_roundw
        case rel => exact ⟨k + 1, by go_num, by omega, by rw [← HV2.out], trivial⟩
        case measure => simp only [intOf]; omega
      · have h97I : decide ((97 : Int) ≤ (cn : Int)) = false := by simp; omega
        have h97J : ¬ (97 : Int) ≤ (cn : Int) := by omega
        rw [if_neg h97] at hDe
        have x0 : IntKind.u8.wrap ((cn : Int) - 48) = (D : Int) := by rw [IntKind.wrap_u8]; omega
        have x4 : IntKind.u64.wrap (D : Int) = (D : Int) := by rw [IntKind.wrap_u64]; omega
        clear hDe hstep hcd
        go_wp2_with fail
        go_roundw
        case rel => exact ⟨k + 1, by go_num, by omega, by rw [← HV2.out], trivial⟩
        case measure => simp only [intOf]; omega
    · obtain rfl : k = n := by omega
      have hT : valB B (s.data.toList.take k) = R := by rw [HR.out, List.take_of_length_le (by rw [← sz_list]; omega)]
      rw [hT]
      go_wp2_with fail
      go_ret
      exact ⟨rfl, rfl⟩
set_option maxHeartbeats 8000000 in
set_option maxRecDepth 1000000 in
theorem whole5_any (n : Nat) (wd : Int) (w : World) (hT : Tabs5 w) :
    Calls Tryz.prog 5 #[.int .u64 (n : Nat), .int .i64 wd] w fun e w' => e = .returned (.bool true) ∧ Below w.heap.size w w' := by
  have HF := Lib.hid (fixed5_any w hT.err hT.pow hT.utf)
  obtain ⟨wc, hwc⟩ : ∃ wc, wc = min (max wd 0) 60 := ⟨_, rfl⟩
  have hw0 : 0 ≤ wc := by omega
  have hw60 : wc ≤ 60 := by omega
  obtain ⟨N, hNe⟩ : ∃ N, N = n % 9007199254740992 := ⟨_, rfl⟩
  have hN : N < 9007199254740992 := by rw [hNe]; exact Nat.mod_lt _ (by decide)
  obtain ⟨D, X, O, e1, e2, e3, ⟨v1, v2, v3⟩, ⟨d1, d2, d3⟩, l1, l2⟩ := whole_law5 hN hw0 hw60
  have hb := (ofN_fin hN).1
  have hb1 : ofN N < 18446744073709551616 := by omega
  have hb2 : ofN N + 9223372036854775808 < 18446744073709551616 := by omega
  have HN1 := Lib.hid (fun W h => Number_any false false false false true wc (-1) 100 (ofN N) W (by decide) hb1 h)
  have HN2 := Lib.hid (fun W h => Number_any false false false false false 0 (-1) 120 (ofN N) W (by decide) hb1 h)
  have HN3 := Lib.hid (fun W h => Number_any false false false false false 0 wc 111 (ofN N + 9223372036854775808) W (by decide) hb2 h)
  have s1 := numO_size false false false false true wc (-1) 100 (ofN N) w hb1 hT.pow
  have s2 := numO_size false false false false false 0 (-1) 120 (ofN N) w hb1 hT.pow
  have s3 := numO_size false false false false false 0 wc 111 (ofN N + 9223372036854775808) w hb2 hT.pow
  rw [e1] at HN1 s1
  rw [e2] at HN2 s2
  rw [e3] at HN3 s3
  have q1 : numE wc (-1) 100 = 0 := by unfold numE; rw [if_pos ⟨okS_of (by decide) hw0 (by omega) (by decide) (by decide), by decide⟩]
  have q2 : numE 0 (-1) 120 = 0 := by unfold numE; rw [if_pos ⟨okS_of (by decide) (by decide) (by decide) (by decide) (by decide), by decide⟩]
  have q3 : numE 0 wc 111 = 0 := by unfold numE; rw [if_pos ⟨okS_of (by decide) (by decide) (by decide) (by omega) (by omega), by decide⟩]
  rw [q1] at HN1
  rw [q2] at HN2
  rw [q3] at HN3
  obtain ⟨DB, hDB⟩ : ∃ DB : ByteArray, DB = ⟨D.toArray⟩ := ⟨_, rfl⟩
  obtain ⟨XB, hXB⟩ : ∃ XB : ByteArray, XB = ⟨X.toArray⟩ := ⟨_, rfl⟩
  obtain ⟨OB, hOB⟩ : ∃ OB : ByteArray, OB = ⟨O.toArray⟩ := ⟨_, rfl⟩
  rw [← hDB] at HN1 s1
  rw [← hXB] at HN2 s2
  have t1 : DB.data.toList = D := by rw [hDB]
  have t2 : XB.data.toList = X := by rw [hXB]
  have t3 : OB.data.toList = O := by rw [hOB]
  have HV1 : Hid (∀ W, Calls Tryz.prog 27 #[.string DB, .int .u64 10] W fun e w' => e = .returned (.int .u64 (N : Int)) ∧ w' = W) := fun W => by
    have h := value_any DB 10 W (by decide) (by rw [t1]; exact d1) (by rw [t1, v1]; exact hN) (by omega)
    rw [t1, v1] at h
    exact h
  have HV2 : Hid (∀ W, Calls Tryz.prog 27 #[.string XB, .int .u64 16] W fun e w' => e = .returned (.int .u64 (N : Int)) ∧ w' = W) := fun W => by
    have h := value_any XB 16 W (by decide) (by rw [t2]; exact d2) (by rw [t2, v2]; exact hN) (by omega)
    rw [t2, v2] at h
    exact h
  have sO : OB.size ≤ 20000 := by
    rw [sz_list, t3]
    have h : ((if 0 < N then [45] else []) ++ O).length ≤ 20000 := s3
    rw [List.length_append] at h
    omega
  have HV3 : Hid (∀ W, Calls Tryz.prog 27 #[.string OB, .int .u64 8] W fun e w' => e = .returned (.int .u64 (N : Int)) ∧ w' = W) := fun W => by
    have h := value_any OB 8 W (by decide) (by rw [t3]; exact d3) (by rw [t3, v3]; exact hN) (by omega)
    rw [t3, v3] at h
    exact h
  have hl1 : decide ((DB.size : Int) < wc) = false := by rw [sz_list, t1]; simp; omega
  have hl2 : wc ≤ (OB.size : Int) := by rw [sz_list, t3]; exact l2
  have hl1' : ¬ ((DB.size : Int) < wc) := by rw [sz_list, t1]; omega
  have hX0 : floatOfInt .f64 (N : Int) = ofN N := rfl
  have hng : Op.negFloat .f64 (ofN N) = ofN N + 9223372036854775808 := negF (by omega)
  obtain ⟨F, hFe⟩ : ∃ F, F = ofN N := ⟨_, rfl⟩
  obtain ⟨G, hGe⟩ : ∃ G, G = ofN N + 9223372036854775808 := ⟨_, rfl⟩
  rw [← hFe] at hX0 hng HN1 HN2 hGe HN3
  rw [← hGe] at hng HN3
  have hmod : (n : Int) % 9007199254740992 = (N : Int) := by omega
  have hmodt : (n : Int).tmod 9007199254740992 = (N : Int) := by rw [Int.tmod_eq_emod_of_nonneg (by omega)]; exact hmod
  have hmm : min (max wd 0) 60 = wc := hwc.symm
  have HPw := Lib.hid hT.pow
  unfold specA at HN1 HN2 HN3
  have HOl : Hid (OB.data.toList = O) := t3
  clear hT e1 e2 e3 v1 v2 v3 d1 d2 d3 l1 l2 hb hb1 hb2 s1 s2 s3 q1 q2 q3 hDB hXB hOB t1 t2 t3 hFe hGe hNe hw0 hw60 hwc
  by_cases h0 : 0 < N
  · have h0I : (0 : Int) < (N : Int) := by omega
    obtain ⟨SB, hSB⟩ : ∃ SB : ByteArray, SB = ⟨((if 0 < N then [45] else []) ++ O).toArray⟩ := ⟨_, rfl⟩
    rw [← hSB] at HN3
    rw [if_pos h0] at hSB
    have z1 : SB.size = OB.size + 1 := by rw [sz_list OB, HOl.out, hSB]; simp [ByteArray.size]
    have z2 : 0 < SB.size := by omega
    have z3 : SB[0].toNat = 45 := by subst hSB; rfl
    have z4 : SB.extract 1 SB.size = OB := by
      refine bytes_ext ?_
      rw [ext_list, HOl.out, hSB]
      simp [ByteArray.size]
    obtain ⟨sz, hsz⟩ : ∃ sz, sz = SB.size := ⟨_, rfl⟩
    have hszI : (1 : Int) ≤ (sz : Int) := by omega
    have hsz1 : SB.size = sz := hsz.symm
    rw [← hsz] at z1 z4
    have Z2 := Lib.hid z2
    have hemp : SB.toList.isEmpty = false := by rw [ByteArray.toList_eq, hSB]; rfl
    clear hSB z1 hsz HOl
    go_enter Tryz.func5, Tryz.ntmps5
    go_wp2_with fail
    refine HF.out.mono ?_
    rintro e w1 ⟨rfl, hb1⟩
    have HB1 := Lib.hid hb1
    clear hb1
    go_wp2_with fail
    refine (HN1.out _ (HPw.out.below HB1.out)).mono ?_
    rintro e w2 ⟨rfl, hb2⟩
    have HB2 := Lib.hid (HB1.out.trans (hb2.mono HB1.out.size))
    clear hb2
    go_wp2_with fail
    refine (HN2.out _ (HPw.out.below HB2.out)).mono ?_
    rintro e w3 ⟨rfl, hb3⟩
    have HB3 := Lib.hid (HB2.out.trans (hb3.mono HB2.out.size))
    clear hb3
    go_wp2_with fail
    refine (HN3.out _ (HPw.out.below HB3.out)).mono ?_
    rintro e w4 ⟨rfl, hb4⟩
    have HB4 := Lib.hid (HB3.out.trans (hb4.mono HB3.out.size))
    clear hb4
    go_wp2_with fail
    refine (HV1.out _).mono ?_
    rintro e _ ⟨rfl, rfl⟩
    go_wp2_with fail
    refine (HV2.out _).mono ?_
    rintro e _ ⟨rfl, rfl⟩
    go_wp2_with fail
    refine (HV3.out _).mono ?_
    rintro e _ ⟨rfl, rfl⟩
    go_wp2_with fail
    go_ret
    exact ⟨by simp [hl2], HB4.out⟩
  · have h0I : decide ((0 : Int) < (N : Int)) = false := by simp; omega
    have h0J : decide (0 < N) = false := decide_eq_false h0
    have hOB : (⟨((if 0 < N then [45] else []) ++ O).toArray⟩ : ByteArray) = OB := by
      rw [if_neg h0]
      refine bytes_ext ?_
      rw [HOl.out]
      rfl
    rw [hOB] at HN3
    clear hOB HOl h0
    go_enter Tryz.func5, Tryz.ntmps5
    go_wp2_with fail
    refine HF.out.mono ?_
    rintro e w1 ⟨rfl, hb1⟩
    have HB1 := Lib.hid hb1
    clear hb1
    go_wp2_with fail
    refine (HN1.out _ (HPw.out.below HB1.out)).mono ?_
    rintro e w2 ⟨rfl, hb2⟩
    have HB2 := Lib.hid (HB1.out.trans (hb2.mono HB1.out.size))
    clear hb2
    go_wp2_with fail
    refine (HN2.out _ (HPw.out.below HB2.out)).mono ?_
    rintro e w3 ⟨rfl, hb3⟩
    have HB3 := Lib.hid (HB2.out.trans (hb3.mono HB2.out.size))
    clear hb3
    go_wp2_with fail
    refine (HN3.out _ (HPw.out.below HB3.out)).mono ?_
    rintro e w4 ⟨rfl, hb4⟩
    have HB4 := Lib.hid (HB3.out.trans (hb4.mono HB3.out.size))
    clear hb4
    go_wp2_with fail
    refine (HV1.out _).mono ?_
    rintro e _ ⟨rfl, rfl⟩
    go_wp2_with fail
    refine (HV2.out _).mono ?_
    rintro e _ ⟨rfl, rfl⟩
    go_wp2_with fail
    refine (HV3.out _).mono ?_
    rintro e _ ⟨rfl, rfl⟩
    go_wp2_with fail
    go_ret
    exact ⟨by simp [hl2], HB4.out⟩
theorem whole5_law (n : Nat) (wd : Int) (w : World) (hT : Tabs5 w) (_ : n < 18446744073709551616) (_ : -9223372036854775808 ≤ wd) (_ : wd ≤ 9223372036854775807) :
    Calls Tryz.prog 5 #[.int .u64 (n : Nat), .int .i64 wd] w fun e w' => e = .returned (.bool true) ∧ Below w.heap.size w w' := whole5_any n wd w hT
end Go.Proofs.YtfdnhkjeoeffoaaGreatDoor
