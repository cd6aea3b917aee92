/- The document's answer of package dec (thresherref03): Cut. -/
import Derived.Test.YtcmpdamfeoaapaaGreatDoorQ12
import Derived.Test.YtcmpdamfeoaapaaGreatDoorR16
import Derived.Test.YtcmpdamfeoaapaaGreatDoorM4
namespace Go.Proofs.YtcmpdamfeoaapaaGreatDoor
open Go.RowKit
set_option linter.unusedVariables false

theorem byt_lt (s : ByteArray) (k : Nat) : byt s k < 256 := by
  unfold byt; split
  · exact UInt8.toNat_lt _
  · omega
/-- what is told of a row that a carry goes through -/
structure CarryR (B : List UInt8) (n k q : Nat) (u : Bool) : Prop where
  dig : Digits B
  len : B.length = n
  val : digVal B + (if u then 10 ^ (n - k) else 0) = q
theorem carry_set {B : List UInt8} {n k q : Nat} (h : CarryR B n (k + 1) q true) (hk : k < B.length) (y : Nat) (hy : y ≤ 57) (u : Bool) (hu : (u = false ∧ y = (B[k]).toNat + 1) ∨ (u = true ∧ y = 48 ∧ (B[k]).toNat = 57)) : CarryR (B.set k (UInt8.ofNat y)) n k q u := by
  have hd := h.dig _ (List.getElem_mem hk)
  have hn := h.len
  have hv := h.val
  have e1 : B = B.take k ++ B[k] :: B.drop (k + 1) := by rw [← List.drop_eq_getElem_cons hk, List.take_append_drop]
  have e2 : B.set k (UInt8.ofNat y) = B.take k ++ UInt8.ofNat y :: B.drop (k + 1) := by rw [List.set_eq_take_append_cons_drop, if_pos hk]
  have hl : (B.drop (k + 1)).length = n - (k + 1) := by simp; omega
  have h48 : 48 ≤ y := by omega
  have ey : (UInt8.ofNat y).toNat = y := by simp; omega
  refine ⟨?_, by simp [hn], ?_⟩
  · rw [e2]
    refine digits_append (digits_take h.dig _) fun c hc => ?_
    rcases List.mem_cons.1 hc with rfl | hc
    · rw [ey]; omega
    · exact h.dig c (List.mem_of_mem_drop hc)
  · have v1 : digVal B = digVal (B.take k) * 10 ^ (n - (k + 1) + 1) + (((B[k]).toNat - 48) * 10 ^ (n - (k + 1)) + digVal (B.drop (k + 1))) := by
      have := congrArg digVal e1
      rw [digVal_app, digVal_cons, List.length_cons, hl] at this
      exact this
    have v2 : digVal (B.set k (UInt8.ofNat y)) = digVal (B.take k) * 10 ^ (n - (k + 1) + 1) + ((y - 48) * 10 ^ (n - (k + 1)) + digVal (B.drop (k + 1))) := by
      rw [e2, digVal_app, digVal_cons, List.length_cons, hl, ey]
    rw [if_pos rfl, v1] at hv
    rw [v2]
    have e10 : (10 : Nat) ^ (n - k) = 10 * 10 ^ (n - (k + 1)) := by rw [← Nat.pow_succ']; congr 1; omega
    rcases hu with ⟨rfl, hy2⟩ | ⟨rfl, hy2, h57⟩
    · rw [show y - 48 = (B[k]).toNat - 48 + 1 by omega, Nat.add_mul]
      simp only [Bool.false_eq_true, if_false]
      omega
    · rw [h57] at hv
      rw [hy2, if_pos rfl, e10]
      simp only [Nat.sub_self, Nat.zero_mul]
      omega

set_option maxRecDepth 100000 in
set_option maxHeartbeats 16000000 in
theorem Cut3_any (s : ByteArray) (n : Nat) (w : World) (hd : Digits s.data.toList) (hs : s.size ≤ 20000) (hn : n ≤ 20000) :
    Calls Tryz.prog 220 #[.string s, .int .i64 (n : Int)] w fun e w' => ∃ out : ByteArray, e = .returned (.string out) ∧ CutOk s.data.toList n out.data.toList ∧ Below w.heap.size w w' := by
  have hss : s.size = s.data.toList.length := by simp
  have HK : Hid (∀ out : List UInt8, Digits out → digVal out = rnd (digVal s.data.toList * 10 ^ (n - s.data.toList.length)) (10 ^ (s.data.toList.length - n)) → (out.length = n ∨ (out.length = n + 1 ∧ 10 ^ n ≤ digVal out)) → CutOk s.data.toList n out) := fun _ h1 h2 h3 => ⟨h1, h2, h3⟩
  generalize CutOk s.data.toList n = CK at *
  have HD := Lib.hid hd
  clear hd
  go_enter Tryz.func220, Tryz.ntmps220
  go_wp2_with fail
  go_loop [0] (fun v => ∃ (t : ByteArray) (j : Nat), v = .string t ∧ Hid (t.data.toList = s.data.toList ++ List.replicate j 48) ∧ t.size ≤ 40000 ∧ Hid (t.size = s.size + j ∧ (j = 0 ∨ s.size + j ≤ n))) (fun v => match v with | .string t => n - t.size | _ => 0)
  case atStart => exact ⟨s, 0, rfl, by show _ = _; simp, by omega, rfl, .inl rfl⟩
  case round =>
    obtain ⟨t, j, rfl, HT, htb, HJ⟩ := hrel
    by_cases hlt : t.size < n
    · have hI : (t.size : Int) < (n : Int) := by omega
      go_wp2_with fail
      go_round
      case rel =>
        have hJ := HJ.out
        refine ⟨_, j + 1, rfl, ?_, ?_, ?_, .inr (by omega)⟩
        · show _ = _
          rw [List.replicate_succ', ← List.append_assoc, ← HT.out]
          simp
        · rw [ByteArray.size_append]
          have : (⟨#[48]⟩ : ByteArray).size = 1 := rfl
          omega
        · rw [ByteArray.size_append]
          have : (⟨#[48]⟩ : ByteArray).size = 1 := rfl
          omega
      case measure =>
        show n - ByteArray.size _ < n - t.size
        rw [ByteArray.size_append]
        have : (⟨#[48]⟩ : ByteArray).size = 1 := rfl
        omega
    · obtain ⟨htj, hjn⟩ := HJ.out
      have hI : (n : Int) ≤ (t.size : Int) := by omega
      have hI2 : decide ((t.size : Int) < (n : Int)) = false := by simp; omega
      have hts : t.size = t.data.toList.length := by simp
      have hdt : Digits t.data.toList := by rw [HT.out]; exact digits_append HD.out (digits_zeros _)
      have hvt : digVal t.data.toList = digVal s.data.toList * 10 ^ (n - s.data.toList.length) := by
        rw [HT.out, digVal_app, digVal_noughts, List.length_replicate, Nat.add_zero]
        congr 2; omega
      have hln : t.data.toList.length - n = s.data.toList.length - n := by omega
      obtain ⟨r1, r2⟩ := round_up (n := n) hdt (by omega)
      rw [hln, hvt] at r1 r2
      rw [← hvt] at r1 r2
      have R1 := Lib.hid r1; have R2 := Lib.hid r2
      have HVt := Lib.hid hvt
      rw [← hvt] at HK
      have hal : (t.data.toList.take n).length = n := by rw [List.length_take]; omega
      have HAl := Lib.hid hal
      have HDt := Lib.hid hdt
      have hby : ∀ i, i < t.size → 48 ≤ byt t i ∧ byt t i ≤ 57 := fun i hi => by rw [byt_list (by omega)]; exact HDt.out _ (List.getElem_mem _)
      have HBy := Lib.hid hby
      have hex : (t.extract 0 n).data.toList = t.data.toList.take n := by rw [extract_list]; simp
      have hes : (t.extract 0 n).size = n := by rw [ByteArray.size_extract]; omega
      have HEx := Lib.hid hex
      have HEs := Lib.hid hes
      have HTs := Lib.hid hts
      -- does it count on
      have HUp : Hid (UpP t.data.toList n ↔ (n < t.size ∧ 53 ≤ byt t n ∧ (53 < byt t n ∨ (∃ j, n < j ∧ j < t.size ∧ byt t j ≠ 48) ∨ (0 < n ∧ byt t (n - 1) % 2 = 1)))) := by
        show _ ↔ _
        unfold UpP
        constructor
        · rintro ⟨h, h5, h6⟩
          rw [← byt_list h] at h5 h6
          rw [← byt_list (k := n - 1) (by omega)] at h6
          refine ⟨by omega, h5, h6.imp id (Or.imp ?_ id)⟩
          rintro ⟨i, hi, h1, h2⟩
          exact ⟨i, h1, by omega, by rw [byt_list hi]; exact h2⟩
        · rintro ⟨h, h5, h6⟩
          have h' : n < t.data.toList.length := by omega
          refine ⟨h', by rw [← byt_list h']; exact h5, ?_⟩
          rw [← byt_list h']
          rw [← byt_list (k := n - 1) (by omega)]
          refine h6.imp id (Or.imp ?_ id)
          rintro ⟨i, h1, hi, h2⟩
          exact ⟨i, by omega, h1, by rw [← byt_list]; exact h2⟩
      have hta : t.size ≤ 20000 := by omega
      clear hts hdt hvt hln r1 r2 hal hby hex hes HT htj hjn hlt hs hss HVt HD htb HJ
      obtain ⟨q0, hq0⟩ : ∃ q0, q0 = digVal (t.data.toList.take n) := ⟨_, rfl⟩
      rw [← hq0] at R1 R2
      have HQ0 : Hid (digVal (t.data.toList.take n) = q0) := hq0.symm
      clear hq0
      generalize rnd (digVal t.data.toList) (10 ^ (s.data.toList.length - n)) = q at *
      obtain ⟨A, hA⟩ : ∃ A, A = t.data.toList.take n := ⟨_, rfl⟩
      have HA := Lib.hid hA
      clear hA
      obtain ⟨m, hm⟩ : ∃ m, m = t.size := ⟨_, rfl⟩
      have HM := Lib.hid hm
      have hmI : (t.size : Int) = (m : Int) := by omega
      rw [← hm] at hI hI2 hta
      clear hm
      by_cases hnt : n < m
      · have hnI : (n : Int) < (m : Int) := by omega
        have hns : n < t.size := by rw [← HM.out]; exact hnt
        have hcc := byt_in hns
        have hcb := HBy.out n hns
        by_cases h5 : 53 ≤ byt t n
        · have h5I : (53 : Int) ≤ (byt t n : Int) := by omega
          obtain ⟨c, hc⟩ : ∃ c, c = byt t n := ⟨_, rfl⟩
          rw [← hc] at hcc hcb h5 h5I
          have HCn := Lib.hid hc
          clear hc
          go_wp2_with (refine wpList_bytesM _ rfl _ rfl (t.extract 0 n) (by simp [go_sem]) ?_; rw [HEx.out, HEs.out]; intro cap1 w1 hl1 hb1 hs1)
          have HL1 := Lib.hid hl1
          have HB1 := Lib.hid hb1
          obtain ⟨g, hg⟩ : ∃ g, g = w.heap.size := ⟨_, rfl⟩
          rw [← hg] at HL1
          rw [← hg]
          have HG := Lib.hid hg
          have hgl : g < w1.heap.size := by omega
          clear hl1 hb1 hs1 hg
          go_loop [7, 8] (fun rv iv => ∃ (r : Bool) (i : Nat), rv = .bool r ∧ iv = .int .i64 (i : Int) ∧ n < i ∧ i ≤ m ∧ Hid (r = true ↔ (53 < c ∨ ∃ j, n < j ∧ j < i ∧ byt t j ≠ 48))) (fun _ iv => m - (intOf iv).toNat)
          case atStart => exact ⟨decide (53 < c), n + 1, by first | rfl | (congr 1; simp [hcc]; omega), by go_num, by omega, by omega, by
            show _ ↔ _
            rw [decide_eq_true_iff]
            constructor
            · exact .inl
            · rintro (h | ⟨j, h1, h2, _⟩)
              · exact h
              · omega⟩
          case round =>
            obtain ⟨r, i, rfl, rfl, hni, him, HR0⟩ := hrel
            by_cases hit : i < m
            · have hiI : (i : Int) < (m : Int) := by omega
              have his : i < t.size := by rw [← HM.out]; exact hit
              have hci := byt_in his
              have HR1 : Hid ((r || !(byt t i == 48)) = true ↔ (53 < c ∨ ∃ j, n < j ∧ j < i + 1 ∧ byt t j ≠ 48)) := by
                show _ ↔ _
                rw [Bool.or_eq_true, HR0.out]
                constructor
                · rintro ((h | ⟨j, h1, h2, h3⟩) | h)
                  · exact .inl h
                  · exact .inr ⟨j, h1, by omega, h3⟩
                  · exact .inr ⟨i, hni, by omega, by simpa using h⟩
                · rintro (h | ⟨j, h1, h2, h3⟩)
                  · exact .inl (.inl h)
                  · rcases Nat.lt_or_ge j i with h4 | h4
                    · exact .inl (.inr ⟨j, h1, h4, h3⟩)
                    · obtain rfl : j = i := by omega
                      exact .inr (by simpa using h3)
              cases r
              · generalize byt t i = d at *
                by_cases h48 : d = 48
                · subst h48
                  clear HR0
                  go_wp2_with fail
                  go_round
                  case rel => exact ⟨false, i + 1, rfl, by go_num, by omega, by omega, HR1⟩
                  case measure => simp only [intOf]; omega
                · have hb1 : ((d : Int) != 48) = true := by rw [bne_iff_ne]; omega
                  have hb2 : (false || !(d == 48)) = true := by simp [h48]
                  rw [hb2] at HR1
                  clear HR0 hb2
                  go_wp2_with fail
                  go_round
                  case rel => exact ⟨true, i + 1, rfl, by go_num, by omega, by omega, HR1⟩
                  case measure => simp only [intOf]; omega
              · rw [Bool.true_or] at HR1
                clear HR0
                go_wp2_with fail
                go_round
                case rel => exact ⟨true, i + 1, rfl, by go_num, by omega, by omega, HR1⟩
                case measure => simp only [intOf]; omega
            · obtain rfl : i = m := by omega
              have hiI : (i : Int) ≤ (i : Int) := Int.le_refl _
              have HR1 : Hid (r = true ↔ (53 < byt t n ∨ ∃ j, n < j ∧ j < t.size ∧ byt t j ≠ 48)) := by
                show _ ↔ _
                rw [HR0.out, ← HM.out, HCn.out]
              have H5 : Hid (53 ≤ byt t n) := by rw [← HCn.out]; exact h5
              cases r
              · have hnr : ¬ (53 < byt t n ∨ ∃ j, n < j ∧ j < t.size ∧ byt t j ≠ 48) := fun h => by have := HR1.out.2 h; cases this
                rcases Nat.eq_zero_or_pos n with hn0 | hn0
                · have HNo : Hid (¬ (n < t.size ∧ 53 ≤ byt t n ∧ (53 < byt t n ∨ (∃ j, n < j ∧ j < t.size ∧ byt t j ≠ 48) ∨ (0 < n ∧ byt t (n - 1) % 2 = 1)))) := by
                    rintro ⟨_, _, h | h | h⟩
                    · exact hnr (.inl h)
                    · exact hnr (.inr h)
                    · omega
                  have hn0I : (n : Int) ≤ 0 := by omega
                  have hn0J : decide ((0 : Int) < (n : Int)) = false := by simp; omega
                  have hn0K : decide (0 < n) = false := by simp; omega
                  clear hnr HR0 HR1 hn0I
                  have HN0 := Lib.hid hn0
                  clear hn0
                  have HQ : Hid (q = q0) := R2.out (fun h => HNo.out (HUp.out.1 h))
                  have HCk : Hid (CK (t.data.toList.take n)) := HK.out _ (digits_take HDt.out _) (by show digVal _ = _; rw [HQ0.out, HQ.out]) (.inl HAl.out)
                  have hcs := fun j (hj : j < (t.data.toList.take n).length) => HL1.out.cell j hj
                  have HCs := Lib.hid hcs
                  clear hcs
                  go_wp2_with fail
                  go_loop [6, 9] (fun u v => u = .bool false ∧ ∃ z : Int, v = .int .i64 z ∧ z = (n : Int) - 1) (fun _ _ => 0)
                  case atStart => exact ⟨rfl, _, rfl, by omega⟩
                  case round =>
                    obtain ⟨rfl, z, rfl, hz⟩ := hrel
                    rcases Nat.eq_zero_or_pos n with hn9 | hn9
                    · obtain rfl : z = -1 := by omega
                      clear hz hn9
                      go_wp2_with (refine wpList_string _ rfl _ rfl g cap1 (t.data.toList.take n) (by rw [HAl.out]; simp [go_sem]) HCs.out ?_)
                      go_wp2_with fail
                      go_ret
                      exact ⟨_, rfl, HCk.out, HB1.out⟩
                    · have hz0 : 0 ≤ z := by omega
                      clear hz hn9
                      go_wp2_with (refine wpList_string _ rfl _ rfl g cap1 (t.data.toList.take n) (by rw [HAl.out]; simp [go_sem]) HCs.out ?_)
                      go_wp2_with fail
                      go_ret
                      exact ⟨_, rfl, HCk.out, HB1.out⟩
                · by_cases hodd : byt t (n - 1) % 2 = 1
                  · have HYes : Hid (n < t.size ∧ 53 ≤ byt t n ∧ (53 < byt t n ∨ (∃ j, n < j ∧ j < t.size ∧ byt t j ≠ 48) ∨ (0 < n ∧ byt t (n - 1) % 2 = 1))) := ⟨hns, H5.out, .inr (.inr ⟨hn0, hodd⟩)⟩
                    rw [show byt t (n - 1) = byt t (n - 1) from rfl] at hodd
                    have hlast : (t.data.toList.take n)[n - 1]'(by rw [HAl.out]; omega) = t.data.toList[n - 1]'(by have := HTs.out; omega) := List.getElem_take
                    have hcl := HL1.out.cell (n - 1) (by rw [HAl.out]; omega)
                    rw [hlast, ← byt_list] at hcl
                    have hfl := HL1.out.frozen (n - 1) (by rw [HAl.out]; omega)
                    have hlb := byt_lt t (n - 1)
                    have hn0I : (0 : Int) < (n : Int) := by omega
                    have hn0K : decide (0 < n) = true := by simp; omega
                    obtain ⟨p, hp⟩ : ∃ p, n = p + 1 := ⟨n - 1, by omega⟩
                    have hpe : n - 1 = p := by omega
                    have hpI : (n : Int) - 1 = (p : Int) := by omega
                    rw [hpe] at hcl hfl hlb hodd
                    generalize byt t p = d at *
                    have hdo : ((d : Int) % 2 == 1) = true := by rw [beq_iff_eq]; omega
                    clear hlast hp hnr HR0 HR1
                    have HQ : Hid (q = q0 + 1) := R1.out (HUp.out.2 HYes.out)
                    have HC0 : Hid (CarryR (t.data.toList.take n) n n q true) := ⟨digits_take HDt.out _, HAl.out, by rw [HQ0.out, HQ.out, Nat.sub_self]; rfl⟩
                    clear HYes
                    go_wp2_with fail
                    go_loopw [6, 9] (fun uv iv wr => ∃ (k : Nat) (u : Bool) (B : List UInt8) (z : Int), uv = .bool u ∧ iv = .int .i64 z ∧ z = (k : Int) - 1 ∧ k ≤ n ∧ Hid (CarryR B n k q u) ∧ Hid (RowM wr g B) ∧ Hid (Below w.heap.size w wr)) (fun _ iv _ => (intOf iv + 1).toNat)
                    case atStart => exact ⟨n, true, _, _, rfl, rfl, by omega, Nat.le_refl _, HC0, HL1, HB1⟩
                    case round =>
                      obtain ⟨k, u, B, z, rfl, rfl, hz, hk, HC, HR, HB⟩ := hrel
                      have hgl2 := HR.out.ltg
                      cases u
                      · have HCk : Hid (CK B) := HK.out _ HC.out.dig (by have := HC.out.val; simpa using this) (.inl HC.out.len)
                        have HCs := Lib.hid (fun j (hj : j < B.length) => HR.out.cell j hj)
                        have hbl := HC.out.len
                        have HBl := Lib.hid hbl
                        clear hbl
                        rcases Nat.eq_zero_or_pos k with hk9 | hk9
                        · obtain rfl : z = -1 := by omega
                          clear hz hk9
                          go_wp2_with (refine wpList_string _ rfl _ rfl g cap1 B (by rw [HBl.out]; simp [go_sem]) HCs.out ?_)
                          go_wp2_with fail
                          go_ret
                          exact ⟨_, rfl, HCk.out, HB.out⟩
                        · have hz0 : 0 ≤ z := by omega
                          clear hz hk9
                          go_wp2_with (refine wpList_string _ rfl _ rfl g cap1 B (by rw [HBl.out]; simp [go_sem]) HCs.out ?_)
                          go_wp2_with fail
                          go_ret
                          exact ⟨_, rfl, HCk.out, HB.out⟩
                      · cases k with
                        | zero =>
                          have hv := HC.out.val
                          rw [if_pos rfl, Nat.sub_zero] at hv
                          have hdv : digVal (49 :: B) = q := by
                            rw [digVal_cons, HC.out.len, show (UInt8.toNat 49 - 48) = 1 by decide]; omega
                          have HCk : Hid (CK (49 :: B)) := HK.out _ (fun c hc => by rcases List.mem_cons.1 hc with rfl | hc; exact ⟨by decide, by decide⟩; exact HC.out.dig c hc) hdv (.inr ⟨by simp [HC.out.len], by rw [hdv]; omega⟩)
                          have HCs := Lib.hid (fun j (hj : j < B.length) => HR.out.cell j hj)
                          have hbl := HC.out.len
                          have HBl := Lib.hid hbl
                          have hb9 : B.length ≤ 20000 := by omega
                          clear hbl hdv hv
                          obtain rfl : z = -1 := by omega
                          clear hz
                          go_wp2_with (refine wpList_string _ rfl _ rfl g cap1 B (by rw [HBl.out]; simp [go_sem]) HCs.out ?_)
                          go_wp2_with fail
                          go_ret
                          exact ⟨_, rfl, by have := HCk.out; simpa using this, HB.out⟩
                        | succ k =>
                          obtain rfl : z = (k : Int) := by omega
                          clear hz
                          have hkB : k < B.length := by rw [HC.out.len]; omega
                          have hc := HR.out.cell k hkB
                          have hf := HR.out.frozen k hkB
                          have hdd := HC.out.dig _ (List.getElem_mem hkB)
                          have HS1 : Hid ((B[k]).toNat ≠ 57 → CarryR (B.set k (UInt8.ofNat ((B[k]).toNat + 1))) n k q false ∧ RowM (wr.setCell ⟨g, k, none⟩ (.int .u8 (((B[k]).toNat : Int) + 1))) g (B.set k (UInt8.ofNat ((B[k]).toNat + 1)))) := fun h => ⟨carry_set HC.out hkB _ (by omega) false (.inl ⟨rfl, rfl⟩), HR.out.set k ((B[k]).toNat + 1) hkB (by omega)⟩
                          have HS2 : Hid ((B[k]).toNat = 57 → CarryR (B.set k (UInt8.ofNat 48)) n k q true ∧ RowM (wr.setCell ⟨g, k, none⟩ (.int .u8 ((48 : Nat) : Int))) g (B.set k (UInt8.ofNat 48))) := fun h => ⟨carry_set HC.out hkB 48 (by omega) true (.inr ⟨rfl, rfl, h⟩), HR.out.set k 48 hkB (by omega)⟩
                          have hkI : (k : Int) < (n : Int) := by omega
                          have hgw : g = w.heap.size := HG.out
                          generalize (B[k]).toNat = c at *
                          clear hkB HR HC
                          by_cases h57 : c = 57
                          · have h2 := HS2.out h57
                            have HC1 := Lib.hid h2.1; have HR1 := Lib.hid h2.2
                            subst h57
                            have hc' : wr.cell? ⟨g, k, none⟩ = some (.int .u8 57) := hc
                            clear h2 HS1 HS2 hc
                            have HB2 : Hid (Below w.heap.size w (wr.setCell ⟨g, k, none⟩ (.int .u8 48))) := HB.out.setCell (by rw [hgw]; exact Nat.le_refl _) _
                            clear hgw
                            go_wp2_with fail
                            go_roundw
                            case rel => exact ⟨k, true, _, _, rfl, rfl, by omega, by omega, HC1, HR1, HB2⟩
                            case measure => simp only [intOf]; omega
                          · have h2 := HS1.out h57
                            have HC1 := Lib.hid h2.1; have HR1 := Lib.hid h2.2
                            have hcl : decide ((c : Int) < 57) = true := by simp; omega
                            have HB2 : Hid (Below w.heap.size w (wr.setCell ⟨g, k, none⟩ (.int .u8 ((c : Int) + 1)))) := HB.out.setCell (by rw [hgw]; exact Nat.le_refl _) _
                            clear h2 HS1 HS2 hgw
                            go_wp2_with fail
                            go_roundw
                            case rel => exact ⟨k, false, _, _, rfl, rfl, by omega, by omega, HC1, HR1, HB2⟩
                            case measure => simp only [intOf]; omega
                  · have HNo : Hid (¬ (n < t.size ∧ 53 ≤ byt t n ∧ (53 < byt t n ∨ (∃ j, n < j ∧ j < t.size ∧ byt t j ≠ 48) ∨ (0 < n ∧ byt t (n - 1) % 2 = 1)))) := by
                      rintro ⟨_, _, h | h | h⟩
                      · exact hnr (.inl h)
                      · exact hnr (.inr h)
                      · exact hodd h.2
                    have hlast : (t.data.toList.take n)[n - 1]'(by rw [HAl.out]; omega) = t.data.toList[n - 1]'(by have := HTs.out; omega) := List.getElem_take
                    have hcl := HL1.out.cell (n - 1) (by rw [HAl.out]; omega)
                    rw [hlast, ← byt_list] at hcl
                    have hfl := HL1.out.frozen (n - 1) (by rw [HAl.out]; omega)
                    have hlb := byt_lt t (n - 1)
                    have hn0I : (0 : Int) < (n : Int) := by omega
                    have hn0K : decide (0 < n) = true := by simp; omega
                    obtain ⟨p, hp⟩ : ∃ p, n = p + 1 := ⟨n - 1, by omega⟩
                    have hpe : n - 1 = p := by omega
                    have hpI : (n : Int) - 1 = (p : Int) := by omega
                    rw [hpe] at hcl hfl hlb hodd
                    generalize byt t p = d at *
                    have hdo : ((d : Int) % 2 == 1) = false := beq_eq_false_iff_ne.2 (by omega)
                    clear hlast hp hnr HR0 HR1
                    have HQ : Hid (q = q0) := R2.out (fun h => HNo.out (HUp.out.1 h))
                    have HCk : Hid (CK (t.data.toList.take n)) := HK.out _ (digits_take HDt.out _) (by show digVal _ = _; rw [HQ0.out, HQ.out]) (.inl HAl.out)
                    have hcs := fun j (hj : j < (t.data.toList.take n).length) => HL1.out.cell j hj
                    have HCs := Lib.hid hcs
                    clear hcs
                    go_wp2_with fail
                    go_loop [6, 9] (fun u v => u = .bool false ∧ ∃ z : Int, v = .int .i64 z ∧ z = (n : Int) - 1) (fun _ _ => 0)
                    case atStart => exact ⟨rfl, _, rfl, by omega⟩
                    case round =>
                      obtain ⟨rfl, z, rfl, hz⟩ := hrel
                      rcases Nat.eq_zero_or_pos n with hn9 | hn9
                      · obtain rfl : z = -1 := by omega
                        clear hz hn9
                        go_wp2_with (refine wpList_string _ rfl _ rfl g cap1 (t.data.toList.take n) (by rw [HAl.out]; simp [go_sem]) HCs.out ?_)
                        go_wp2_with fail
                        go_ret
                        exact ⟨_, rfl, HCk.out, HB1.out⟩
                      · have hz0 : 0 ≤ z := by omega
                        clear hz hn9
                        go_wp2_with (refine wpList_string _ rfl _ rfl g cap1 (t.data.toList.take n) (by rw [HAl.out]; simp [go_sem]) HCs.out ?_)
                        go_wp2_with fail
                        go_ret
                        exact ⟨_, rfl, HCk.out, HB1.out⟩
              · have HYes : Hid (n < t.size ∧ 53 ≤ byt t n ∧ (53 < byt t n ∨ (∃ j, n < j ∧ j < t.size ∧ byt t j ≠ 48) ∨ (0 < n ∧ byt t (n - 1) % 2 = 1))) := ⟨hns, H5.out, (HR1.out.1 rfl).elim .inl (fun h => .inr (.inl h))⟩
                clear HR0 HR1
                have HQ : Hid (q = q0 + 1) := R1.out (HUp.out.2 HYes.out)
                have HC0 : Hid (CarryR (t.data.toList.take n) n n q true) := ⟨digits_take HDt.out _, HAl.out, by rw [HQ0.out, HQ.out, Nat.sub_self]; rfl⟩
                clear HYes
                go_wp2_with fail
                go_loopw [6, 9] (fun uv iv wr => ∃ (k : Nat) (u : Bool) (B : List UInt8) (z : Int), uv = .bool u ∧ iv = .int .i64 z ∧ z = (k : Int) - 1 ∧ k ≤ n ∧ Hid (CarryR B n k q u) ∧ Hid (RowM wr g B) ∧ Hid (Below w.heap.size w wr)) (fun _ iv _ => (intOf iv + 1).toNat)
                case atStart => exact ⟨n, true, _, _, rfl, rfl, by omega, Nat.le_refl _, HC0, HL1, HB1⟩
                case round =>
                  obtain ⟨k, u, B, z, rfl, rfl, hz, hk, HC, HR, HB⟩ := hrel
                  have hgl2 := HR.out.ltg
                  cases u
                  · have HCk : Hid (CK B) := HK.out _ HC.out.dig (by have := HC.out.val; simpa using this) (.inl HC.out.len)
                    have HCs := Lib.hid (fun j (hj : j < B.length) => HR.out.cell j hj)
                    have hbl := HC.out.len
                    have HBl := Lib.hid hbl
                    clear hbl
                    rcases Nat.eq_zero_or_pos k with hk9 | hk9
                    · obtain rfl : z = -1 := by omega
                      clear hz hk9
                      go_wp2_with (refine wpList_string _ rfl _ rfl g cap1 B (by rw [HBl.out]; simp [go_sem]) HCs.out ?_)
                      go_wp2_with fail
                      go_ret
                      exact ⟨_, rfl, HCk.out, HB.out⟩
                    · have hz0 : 0 ≤ z := by omega
                      clear hz hk9
                      go_wp2_with (refine wpList_string _ rfl _ rfl g cap1 B (by rw [HBl.out]; simp [go_sem]) HCs.out ?_)
                      go_wp2_with fail
                      go_ret
                      exact ⟨_, rfl, HCk.out, HB.out⟩
                  · cases k with
                    | zero =>
                      have hv := HC.out.val
                      rw [if_pos rfl, Nat.sub_zero] at hv
                      have hdv : digVal (49 :: B) = q := by
                        rw [digVal_cons, HC.out.len, show (UInt8.toNat 49 - 48) = 1 by decide]; omega
                      have HCk : Hid (CK (49 :: B)) := HK.out _ (fun c hc => by rcases List.mem_cons.1 hc with rfl | hc; exact ⟨by decide, by decide⟩; exact HC.out.dig c hc) hdv (.inr ⟨by simp [HC.out.len], by rw [hdv]; omega⟩)
                      have HCs := Lib.hid (fun j (hj : j < B.length) => HR.out.cell j hj)
                      have hbl := HC.out.len
                      have HBl := Lib.hid hbl
                      have hb9 : B.length ≤ 20000 := by omega
                      clear hbl hdv hv
                      obtain rfl : z = -1 := by omega
                      clear hz
                      go_wp2_with (refine wpList_string _ rfl _ rfl g cap1 B (by rw [HBl.out]; simp [go_sem]) HCs.out ?_)
                      go_wp2_with fail
                      go_ret
                      exact ⟨_, rfl, by have := HCk.out; simpa using this, HB.out⟩
                    | succ k =>
                      obtain rfl : z = (k : Int) := by omega
                      clear hz
                      have hkB : k < B.length := by rw [HC.out.len]; omega
                      have hc := HR.out.cell k hkB
                      have hf := HR.out.frozen k hkB
                      have hdd := HC.out.dig _ (List.getElem_mem hkB)
                      have HS1 : Hid ((B[k]).toNat ≠ 57 → CarryR (B.set k (UInt8.ofNat ((B[k]).toNat + 1))) n k q false ∧ RowM (wr.setCell ⟨g, k, none⟩ (.int .u8 (((B[k]).toNat : Int) + 1))) g (B.set k (UInt8.ofNat ((B[k]).toNat + 1)))) := fun h => ⟨carry_set HC.out hkB _ (by omega) false (.inl ⟨rfl, rfl⟩), HR.out.set k ((B[k]).toNat + 1) hkB (by omega)⟩
                      have HS2 : Hid ((B[k]).toNat = 57 → CarryR (B.set k (UInt8.ofNat 48)) n k q true ∧ RowM (wr.setCell ⟨g, k, none⟩ (.int .u8 ((48 : Nat) : Int))) g (B.set k (UInt8.ofNat 48))) := fun h => ⟨carry_set HC.out hkB 48 (by omega) true (.inr ⟨rfl, rfl, h⟩), HR.out.set k 48 hkB (by omega)⟩
                      have hkI : (k : Int) < (n : Int) := by omega
                      have hgw : g = w.heap.size := HG.out
                      generalize (B[k]).toNat = c at *
                      clear hkB HR HC
                      by_cases h57 : c = 57
                      · have h2 := HS2.out h57
                        have HC1 := Lib.hid h2.1; have HR1 := Lib.hid h2.2
                        subst h57
                        have hc' : wr.cell? ⟨g, k, none⟩ = some (.int .u8 57) := hc
                        clear h2 HS1 HS2 hc
                        have HB2 : Hid (Below w.heap.size w (wr.setCell ⟨g, k, none⟩ (.int .u8 48))) := HB.out.setCell (by rw [hgw]; exact Nat.le_refl _) _
                        clear hgw
                        go_wp2_with fail
                        go_roundw
                        case rel => exact ⟨k, true, _, _, rfl, rfl, by omega, by omega, HC1, HR1, HB2⟩
                        case measure => simp only [intOf]; omega
                      · have h2 := HS1.out h57
                        have HC1 := Lib.hid h2.1; have HR1 := Lib.hid h2.2
                        have hcl : decide ((c : Int) < 57) = true := by simp; omega
                        have HB2 : Hid (Below w.heap.size w (wr.setCell ⟨g, k, none⟩ (.int .u8 ((c : Int) + 1)))) := HB.out.setCell (by rw [hgw]; exact Nat.le_refl _) _
                        clear h2 HS1 HS2 hgw
                        go_wp2_with fail
                        go_roundw
                        case rel => exact ⟨k, false, _, _, rfl, rfl, by omega, by omega, HC1, HR1, HB2⟩
                        case measure => simp only [intOf]; omega
        · have HNo : Hid (¬ (n < t.size ∧ 53 ≤ byt t n ∧ (53 < byt t n ∨ (∃ j, n < j ∧ j < t.size ∧ byt t j ≠ 48) ∨ (0 < n ∧ byt t (n - 1) % 2 = 1)))) := fun h => h5 h.2.1
          generalize byt t n = c at *
          have h5I : (c : Int) < 53 := by omega
          have h5J : decide ((53 : Int) ≤ (c : Int)) = false := by simp; omega
          go_wp2_with (refine wpList_bytesM _ rfl _ rfl (t.extract 0 n) (by simp [go_sem]) ?_; rw [HEx.out, HEs.out]; intro cap1 w1 hl1 hb1 hs1)
          have HL1 := Lib.hid hl1
          have HB1 := Lib.hid hb1
          obtain ⟨g, hg⟩ : ∃ g, g = w.heap.size := ⟨_, rfl⟩
          rw [← hg] at HL1
          rw [← hg]
          have HG := Lib.hid hg
          have hgl : g < w1.heap.size := by omega
          clear hl1 hb1 hs1 hg
          have HQ : Hid (q = q0) := R2.out (fun h => HNo.out (HUp.out.1 h))
          have HCk : Hid (CK (t.data.toList.take n)) := HK.out _ (digits_take HDt.out _) (by show digVal _ = _; rw [HQ0.out, HQ.out]) (.inl HAl.out)
          have hcs := fun j (hj : j < (t.data.toList.take n).length) => HL1.out.cell j hj
          have HCs := Lib.hid hcs
          clear hcs
          go_wp2_with fail
          go_loop [6, 9] (fun u v => u = .bool false ∧ ∃ z : Int, v = .int .i64 z ∧ z = (n : Int) - 1) (fun _ _ => 0)
          case atStart => exact ⟨rfl, _, rfl, by omega⟩
          case round =>
            obtain ⟨rfl, z, rfl, hz⟩ := hrel
            rcases Nat.eq_zero_or_pos n with hn9 | hn9
            · obtain rfl : z = -1 := by omega
              clear hz hn9
              go_wp2_with (refine wpList_string _ rfl _ rfl g cap1 (t.data.toList.take n) (by rw [HAl.out]; simp [go_sem]) HCs.out ?_)
              go_wp2_with fail
              go_ret
              exact ⟨_, rfl, HCk.out, HB1.out⟩
            · have hz0 : 0 ≤ z := by omega
              clear hz hn9
              go_wp2_with (refine wpList_string _ rfl _ rfl g cap1 (t.data.toList.take n) (by rw [HAl.out]; simp [go_sem]) HCs.out ?_)
              go_wp2_with fail
              go_ret
              exact ⟨_, rfl, HCk.out, HB1.out⟩
      · have HNo : Hid (¬ (n < t.size ∧ 53 ≤ byt t n ∧ (53 < byt t n ∨ (∃ j, n < j ∧ j < t.size ∧ byt t j ≠ 48) ∨ (0 < n ∧ byt t (n - 1) % 2 = 1)))) := fun h => hnt (by rw [HM.out]; exact h.1)
        have hnI : decide ((n : Int) < (m : Int)) = false := by simp; omega
        have hnJ : decide (n < m) = false := by simp; omega
        have hnK : (m : Int) ≤ (n : Int) := by omega
        go_wp2_with (refine wpList_bytesM _ rfl _ rfl (t.extract 0 n) (by simp [go_sem]) ?_; rw [HEx.out, HEs.out]; intro cap1 w1 hl1 hb1 hs1)
        have HL1 := Lib.hid hl1
        have HB1 := Lib.hid hb1
        obtain ⟨g, hg⟩ : ∃ g, g = w.heap.size := ⟨_, rfl⟩
        rw [← hg] at HL1
        rw [← hg]
        have HG := Lib.hid hg
        have hgl : g < w1.heap.size := by omega
        clear hl1 hb1 hs1 hg
        have HQ : Hid (q = q0) := R2.out (fun h => HNo.out (HUp.out.1 h))
        have HCk : Hid (CK (t.data.toList.take n)) := HK.out _ (digits_take HDt.out _) (by show digVal _ = _; rw [HQ0.out, HQ.out]) (.inl HAl.out)
        have hcs := fun j (hj : j < (t.data.toList.take n).length) => HL1.out.cell j hj
        have HCs := Lib.hid hcs
        clear hcs
        go_wp2_with fail
        go_loop [6, 9] (fun u v => u = .bool false ∧ ∃ z : Int, v = .int .i64 z ∧ z = (n : Int) - 1) (fun _ _ => 0)
        case atStart => exact ⟨rfl, _, rfl, by omega⟩
        case round =>
          obtain ⟨rfl, z, rfl, hz⟩ := hrel
          rcases Nat.eq_zero_or_pos n with hn9 | hn9
          · obtain rfl : z = -1 := by omega
            clear hz hn9
            go_wp2_with (refine wpList_string _ rfl _ rfl g cap1 (t.data.toList.take n) (by rw [HAl.out]; simp [go_sem]) HCs.out ?_)
            go_wp2_with fail
            go_ret
            exact ⟨_, rfl, HCk.out, HB1.out⟩
          · have hz0 : 0 ≤ z := by omega
            clear hz hn9
            go_wp2_with (refine wpList_string _ rfl _ rfl g cap1 (t.data.toList.take n) (by rw [HAl.out]; simp [go_sem]) HCs.out ?_)
            go_wp2_with fail
            go_ret
            exact ⟨_, rfl, HCk.out, HB1.out⟩
end Go.Proofs.YtcmpdamfeoaapaaGreatDoor
