/- The document's numbers (thresherref02): Parse. -/
import Derived.Test.YtcmpdamfeoaapaaGreatDoorQ5
import Derived.Test.YtcmpdamfeoaapaaGreatDoorR14
namespace Go.Proofs.YtcmpdamfeoaapaaGreatDoor
open Go.RowKit
set_option linter.unusedVariables false

/-- a string's byte, or nought past its end -/
def byt (s : ByteArray) (k : Nat) : Nat := if h : k < s.size then s[k].toNat else 0
theorem byt_in {s : ByteArray} {k : Nat} (h : k < s.size) : s[k].toNat = byt s k := by unfold byt; rw [dif_pos h]
theorem byt_list {s : ByteArray} {k : Nat} (h : k < s.data.toList.length) : byt s k = (s.data.toList[k]).toNat := by
  have h2 : k < s.size := by simpa using h
  rw [← byt_in h2]; rfl
theorem digVal_chunk (l : List UInt8) (e f : Nat) (h : f ≤ e) : digVal (l.take e) = digVal (l.take f) * 10 ^ ((l.take e).drop f).length + digVal ((l.take e).drop f) := by
  rw [← digVal_app]
  congr 1
  have := (List.take_append_drop f (l.take e)).symm
  rwa [List.take_take, Nat.min_eq_left h] at this
theorem digVal_grow {l : List UInt8} {f i : Nat} (hf : f ≤ i) (hi : i < l.length) : digVal ((l.take (i + 1)).drop f) = 10 * digVal ((l.take i).drop f) + ((l[i]).toNat - 48) := by
  rw [List.take_succ_eq_append_getElem hi, List.drop_append_of_le_length (by simp; omega), digVal_snoc]

set_option maxRecDepth 100000 in
set_option maxHeartbeats 4000000 in
theorem Parse4_ok (s : ByteArray) (w : World) (hn : s.data.toList ≠ []) (hd : Digits s.data.toList) (hl : s.data.toList.length ≤ 100000) :
    Calls Tryz.prog 178 #[.string s] w fun e w' => ∃ v, e = .returned (.tuple #[v, .bool true]) ∧ NumV w' v (digVal s.data.toList) ∧ Below w.heap.size w w' := by
  have hne : s.toList.isEmpty = false := by
    rw [ByteArray.toList_eq]
    simpa using hn
  have hsz : s.size = s.data.toList.length := by simp
  have HDg : Hid (∀ k, k < s.size → 48 ≤ byt s k ∧ byt s k ≤ 57) := fun k hk => by rw [byt_list (by omega)]; exact hd _ (List.getElem_mem _)
  have HGr : Hid (∀ f i, f ≤ i → i < s.size → digVal ((s.data.toList.take (i + 1)).drop f) = 10 * digVal ((s.data.toList.take i).drop f) + (byt s i - 48)) := fun f i hf hi => by rw [byt_list (by omega)]; exact digVal_grow hf (by omega)
  have HLt : Hid (∀ f i, f ≤ i → i ≤ f + 4 → digVal ((s.data.toList.take i).drop f) < 10 ^ (i - f)) := fun f i hf hi => by
    refine Nat.lt_of_lt_of_le (digVal_lt (digits_drop (digits_take hd _) _)) (Nat.pow_le_pow_right (by decide) ?_)
    simp; omega
  have HCh : Hid (∀ e f, f ≤ e → e ≤ s.size → digVal (s.data.toList.take e) = digVal (s.data.toList.take f) * 10 ^ (e - f) + digVal ((s.data.toList.take e).drop f)) := fun e f hf he => by
    rw [digVal_chunk _ e f hf]; congr 3; simp; omega
  have H0 : Hid (digVal (s.data.toList.take s.size) = digVal s.data.toList) := by show _ = _; rw [List.take_of_length_le (by omega)]
  obtain ⟨n, hnn⟩ : ∃ n, n = s.size := ⟨_, rfl⟩
  have hl2 : n ≤ 100000 := by omega
  have HN := Lib.hid hnn
  have hnI : (s.size : Int) = (n : Int) := by omega
  clear hn hd hl hnn hsz
  go_enter Tryz.func178, Tryz.ntmps178
  go_wp2_with fail
  go_loop [4] (fun i => ∃ k : Nat, k ≤ n ∧ i = .int .i64 k) (fun i => n - (intOf i).toNat)
  case atStart => exact ⟨0, Nat.zero_le _, rfl⟩
  case round =>
    obtain ⟨k, hk, rfl⟩ := hrel
    by_cases hlt : k < n
    · have hks : k < s.size := by rw [← HN.out]; exact hlt
      have hcc := byt_in hks
      have hdd := HDg.out k hks
      have hI : (k : Int) < (n : Int) := by omega
      generalize byt s k = c at *
      have hd1 : ¬ ((c : Int) < 48) := by omega
      have hd2 : ¬ ((57 : Int) < (c : Int)) := by omega
      go_wp2_with fail
      go_round
      case rel => exact ⟨k + 1, by omega, by go_num⟩
      case measure => simp only [intOf]; omega
    · obtain rfl : k = n := by omega
      have hI : (k : Int) ≤ (k : Int) := Int.le_refl _
      go_wp2_with fail
      go_loopw [5, 6] (fun o x wr => ∃ (L : List Nat) (e : Nat) (E : Int), x = .int .i64 E ∧ (E = (e : Int) ∨ E ≤ 0 ∧ -4 < E ∧ e = 0) ∧ L.length + e ≤ k ∧ Hid (val4 L + B4 ^ L.length * digVal (s.data.toList.take e) = digVal s.data.toList) ∧ Hid (Own4 wr w.heap.size o L) ∧ Hid (Below w.heap.size w wr)) (fun _ x _ => (intOf x).toNat)
      case atStart => exact ⟨[], k, k, rfl, .inl rfl, by simp, (by show _ = _; rw [← H0.out, ← HN.out]; simp [val4]), Own4.nil _ _, Below.refl _ _⟩
      case round =>
        obtain ⟨L, e, E, rfl, hE, hLe, HV, HO, HB⟩ := hrel
        have hgs := HB.out.size
        by_cases hpos : 0 < E
        · obtain rfl : E = (e : Int) := by omega
          obtain ⟨f, hf⟩ : ∃ f, f = e - 4 := ⟨_, rfl⟩
          have hmx : max ((e : Int) - 4) 0 = (f : Int) := by omega
          have hfe : f ≤ e := by omega
          have hef : e ≤ f + 4 := by omega
          have hes : e ≤ s.size := by rw [← HN.out]; omega
          have hch := HCh.out e f hfe hes
          have hvl : digVal ((s.data.toList.take e).drop f) < 10000 := Nat.lt_of_lt_of_le (HLt.out f e hfe hef) (Nat.le_trans (Nat.pow_le_pow_right (by decide) (show e - f ≤ 4 by omega)) (by decide))
          have HV1 : Hid (val4 (L ++ [digVal ((s.data.toList.take e).drop f)]) + B4 ^ (L ++ [digVal ((s.data.toList.take e).drop f)]).length * digVal (s.data.toList.take f) = digVal s.data.toList) := by
            show _ = _
            rw [← HV.out, hch, val4_append]
            generalize digVal ((s.data.toList.take e).drop f) = v at *
            simp only [val4, Nat.mul_zero, Nat.add_zero, List.length_append, List.length_singleton, Nat.pow_succ]
            rcases Nat.lt_or_ge e 4 with h4 | h4
            · obtain rfl : f = 0 := by omega
              rw [show digVal (s.data.toList.take 0) = 0 from rfl]; simp
            · rw [show e - f = 4 by omega, Nat.mul_add, show (10 : Nat) ^ 4 = B4 by decide]
              rw [Nat.add_assoc, Nat.mul_assoc (B4 ^ L.length), Nat.mul_comm B4 (digVal _)]
              congr 1
              exact Nat.add_comm _ _
          have Hvl := Lib.hid hvl
          clear hvl hch hE HV
          obtain ⟨wo, rfl⟩ : ∃ wo : World, wo = wr := ⟨_, rfl⟩
          have hpI : (0 : Int) < (e : Int) := hpos
          have heI : (e : Int) ≤ 100000 := by omega
          go_wp2_with fail
          go_loop [7, 8] (fun v i => ∃ j : Nat, f ≤ j ∧ j ≤ e ∧ i = .int .i64 (j : Int) ∧ v = .int .i64 (digVal ((s.data.toList.take j).drop f) : Nat)) (fun _ i => e - (intOf i).toNat)
          case atStart => exact ⟨f, Nat.le_refl _, hfe, by first | rfl | exact congrArg (Value.int .i64) hmx | rw [hf], by rw [List.drop_of_length_le (by simp; omega)]; rfl⟩
          case round =>
            obtain ⟨j, hfj, hje, rfl, rfl⟩ := hrel
            by_cases hjl : j < e
            · have hjs : j < s.size := by omega
              have hcc := byt_in hjs
              have hdd := HDg.out j hjs
              have hgr := HGr.out f j hfj hjs
              have hlt2 := HLt.out f j hfj (by omega)
              have hlt3 : 10 ^ (j - f) ≤ 10 ^ 4 := Nat.pow_le_pow_right (by decide) (by omega)
              have hbv : digVal ((s.data.toList.take j).drop f) ≤ 10000 := by have : (10 : Nat) ^ 4 = 10000 := by decide
                                                                              omega
              have HGR := Lib.hid hgr
              clear hgr hlt2 hlt3
              generalize digVal ((s.data.toList.take j).drop f) = v at *
              generalize byt s j = c at *
              have hI : (j : Int) < (e : Int) := by omega
              have ed : IntKind.wrap .u8 ((c : Int) - 48) = ((c - 48 : Nat) : Int) := by rw [IntKind.wrap_u8]; omega
              have ed2 : ((c : Int) - 48) % 256 = ((c - 48 : Nat) : Int) := by omega
              have hd9 : c - 48 ≤ 9 := by omega
              generalize c - 48 = d at *
              go_wp2_with fail
              go_round
              case rel => exact ⟨j + 1, by omega, by omega, by go_num, by rw [HGR.out]; go_num⟩
              case measure => simp only [intOf]; omega
            · obtain rfl : j = e := by omega
              generalize digVal ((s.data.toList.take j).drop f) = v at *
              have hI : (j : Int) ≤ (j : Int) := Int.le_refl _
              go_wp2_with (
                at_builtin
                go_loud (refine wpList_app4 _ rfl _ _ rfl w.heap.size _ L rfl (Own4.alloc HO.out _) wo.heap.size v rfl (by simp [go_sem]) Hvl.out (by simp; omega) (by omega) ?_)
                intro v1 w1 hown1 hgr1
                have HO1 := Lib.hid hown1
                have HB1 := Lib.hid ((HB.out.alloc hgs _).grown hgr1 (by simp; omega) (fun x hx => (HO.out.own.lt x hx).1))
                clear hown1 hgr1)
              go_wp2_with fail
              go_roundw
              case rel => exact ⟨L ++ [v], f, _, rfl, by omega, by simp; omega, HV1, HO1, HB1⟩
              case measure => simp only [intOf]; omega
        · have he0 : e = 0 := by omega
          subst he0
          have hvv : val4 L = digVal s.data.toList := by
            rw [← HV.out, show digVal (s.data.toList.take 0) = 0 from rfl]; simp
          obtain ⟨ao, co, rfl, hli⟩ := HO.out.li4
          have HT := Lib.hid (trim4_any ao co L wr hli)
          have HR := Lib.hid (Own4.trimmed hli hvv)
          obtain ⟨ln, hln⟩ : ∃ ln, ln = L.length := ⟨_, rfl⟩
          rw [← hln] at HT
          rw [← hln]
          have hI2 : E ≤ 0 := by omega
          clear hli hvv hln hE hLe
          go_wp2_with fail
          refine HT.out.mono ?_
          rintro e _ ⟨rfl, rfl⟩
          go_wp2_with fail
          go_ret2
          exact ⟨_, rfl, HR.out, HB.out⟩
set_option maxRecDepth 100000 in
set_option maxHeartbeats 4000000 in
theorem Parse4_bad (s : ByteArray) (w : World) (h : s.data.toList = [] ∨ ¬ Digits s.data.toList) (hl : s.data.toList.length ≤ 100000) :
    Calls Tryz.prog 178 #[.string s] w fun e w' => e = .returned (.tuple #[.slice none 0 0, .bool false]) ∧ w = w' := by
  by_cases h0 : s.data.toList = []
  · have hne : s.toList = [] := by rw [ByteArray.toList_eq]; exact h0
    have hne2 : s.toList.isEmpty = true := by rw [hne]; rfl
    clear h h0 hl hne
    go_enter Tryz.func178, Tryz.ntmps178
    go_wp2_with fail
    go_ret2
    exact ⟨rfl, rfl⟩
  have hbad := h.resolve_left h0
  have hne : s.toList.isEmpty = false := by
    rw [ByteArray.toList_eq]
    simpa using h0
  have hsz : s.size = s.data.toList.length := by simp
  have HB : Hid (∃ m, m < s.size ∧ ¬ (48 ≤ byt s m ∧ byt s m ≤ 57)) := by
    show ∃ m, _
    refine Classical.byContradiction fun hc => hbad fun c hcm => ?_
    obtain ⟨i, hi, rfl⟩ := List.mem_iff_getElem.1 hcm
    rw [← byt_list hi]
    exact Classical.byContradiction fun hx => hc ⟨i, by omega, hx⟩
  obtain ⟨n, hnn⟩ : ∃ n, n = s.size := ⟨_, rfl⟩
  have hl2 : n ≤ 100000 := by omega
  have HN := Lib.hid hnn
  have hnI : (s.size : Int) = (n : Int) := by omega
  have h256 : ∀ k, byt s k < 256 := fun k => by
    unfold byt; split
    · exact UInt8.toNat_lt _
    · omega
  have H256 := Lib.hid h256
  clear h h0 hl hnn hsz hbad h256
  go_enter Tryz.func178, Tryz.ntmps178
  go_wp2_with fail
  go_loop [4] (fun i => ∃ k : Nat, i = .int .i64 k ∧ Hid (∃ m, k ≤ m ∧ m < n ∧ ¬ (48 ≤ byt s m ∧ byt s m ≤ 57))) (fun i => n - (intOf i).toNat)
  case atStart =>
    obtain ⟨m, h1, h2⟩ := HB.out
    exact ⟨0, rfl, m, Nat.zero_le _, by rw [HN.out]; exact h1, h2⟩
  case round =>
    obtain ⟨k, rfl, HM⟩ := hrel
    have hlt : k < n := by obtain ⟨m, h1, h2, _⟩ := HM.out; omega
    have hks : k < s.size := by rw [← HN.out]; exact hlt
    have hcc := byt_in hks
    have h256 := H256.out k
    have hI : (k : Int) < (n : Int) := by omega
    by_cases hc : 48 ≤ byt s k ∧ byt s k ≤ 57
    · have HM1 : Hid (∃ m, k + 1 ≤ m ∧ m < n ∧ ¬ (48 ≤ byt s m ∧ byt s m ≤ 57)) := by
        obtain ⟨m, h1, h2, h3⟩ := HM.out
        refine ⟨m, ?_, h2, h3⟩
        rcases Nat.lt_or_ge k m with h | h
        · exact h
        · obtain rfl : m = k := by omega
          exact absurd hc h3
      obtain ⟨hc1, hc2⟩ := hc
      generalize byt s k = c at *
      have hd1 : ¬ ((c : Int) < 48) := by omega
      have hd2 : ¬ ((57 : Int) < (c : Int)) := by omega
      clear HM
      go_wp2_with fail
      go_round
      case rel => exact ⟨k + 1, by go_num, HM1⟩
      case measure => simp only [intOf]; omega
    · generalize byt s k = c at *
      by_cases hc1 : c < 48
      · have hd1 : ((c : Int) < 48) := by omega
        clear HM hc
        go_wp2_with fail
        go_ret2
        exact ⟨rfl, rfl⟩
      · have hd1 : ¬ ((c : Int) < 48) := by omega
        have hd2 : ((57 : Int) < (c : Int)) := by omega
        clear HM hc
        go_wp2_with fail
        go_ret2
        exact ⟨rfl, rfl⟩
end Go.Proofs.YtcmpdamfeoaapaaGreatDoor
