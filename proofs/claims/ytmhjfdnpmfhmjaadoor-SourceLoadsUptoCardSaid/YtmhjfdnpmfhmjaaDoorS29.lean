/- thresherref19.directive, walked. -/
import Derived.Test.YtmhjfdnpmfhmjaaDoorS28
namespace Go.Proofs.YtmhjfdnpmfhmjaaDoor
open Go.RowKit
set_option linter.unusedVariables false

theorem isBl_nat (c : UInt8) : (decide (c.toNat = 32) || decide (c.toNat = 9)) = isBl c := by
  unfold isBl
  have h : ∀ d : UInt8, decide (c.toNat = d.toNat) = (c == d) := fun d => by
    by_cases e : c = d
    · subst e; simp
    · rw [decide_eq_false (fun x => e (UInt8.toNat_inj.1 x)), beq_eq_false_iff_ne.2 e]
  rw [← h 32, ← h 9]; rfl
theorem skipP_spec (p : UInt8 → Bool) (s : Str) : ∀ (m i : Nat), s.length - i = m → i ≤ s.length →
    i ≤ skipP p s i ∧ skipP p s i ≤ s.length ∧ (∀ j c, i ≤ j → j < skipP p s i → s[j]? = some c → p c = true) ∧ (∀ c, s[skipP p s i]? = some c → p c = false) := by
  intro m
  induction m with
  | zero =>
    intro i h1 h2
    rw [skipP_end (by omega)]
    exact ⟨Nat.le_refl _, h2, fun j c h3 h4 => absurd h4 (by omega), fun c hc => by rw [List.getElem?_eq_none (by omega)] at hc; cases hc⟩
  | succ m ih =>
    intro i h1 h2
    have hlt : i < s.length := by omega
    have hc : s[i]? = some s[i] := List.getElem?_eq_getElem hlt
    cases hp : p s[i] with
    | true =>
      rw [skipP_hit hc hp]
      obtain ⟨a, b, c, d⟩ := ih (i + 1) (by omega) (by omega)
      refine ⟨by omega, b, fun j x h3 h4 h5 => ?_, d⟩
      by_cases e : j = i
      · subst e; rw [hc] at h5; cases h5; exact hp
      · exact c j x (by omega) h4 h5
    | false =>
      rw [skipP_stop hc hp]
      exact ⟨Nat.le_refl _, h2, fun j c h3 h4 => absurd h4 (by omega), fun c h3 => by rw [hc] at h3; cases h3; exact hp⟩
theorem byteAt {s : ByteArray} {k : Nat} (h : k < s.size) : s.data.toList[k]? = some s[k] := by
  have hl : k < s.data.toList.length := by simpa using h
  rw [List.getElem?_eq_getElem hl]; rfl

set_option maxHeartbeats 16000000 in
set_option maxRecDepth 1000000 in
theorem directive19_any (s : ByteArray) (w : World) (hs : s.size ≤ 1000000) :
    Calls Tryd.prog 20 #[.string s] w fun e w' => e = .returned (.tuple #[.int .i64 ((refD s.data.toList).1 : Int), .string (B (refD s.data.toList).2)]) ∧ Below w.heap.size w w' := by
  have hsI : (s.size : Int) ≤ 1000000 := by omega
  have HSZ := Lib.hid (show s.data.toList.length = s.size by simp)
  have HBl := Lib.hid (fun (c : UInt8) W => (show Calls Tryd.prog 32 #[.int .u8 (c.toNat : Int)] W fun e w' => e = .returned (.bool (isBl c)) ∧ w' = W from by rw [← isBl_nat]; exact isBlank_any c.toNat W (UInt8.toNat_lt _)))
  obtain ⟨i, hi⟩ : ∃ i, i = skipP isBl s.data.toList 0 := ⟨_, rfl⟩
  obtain ⟨_, hin, hbl, hnb⟩ := skipP_spec isBl s.data.toList _ 0 rfl (Nat.zero_le _)
  rw [← hi] at hin hbl hnb
  rw [HSZ.out] at hin
  have HI := Lib.hid hi
  have HBL := Lib.hid hbl
  have HNB := Lib.hid hnb
  clear hi hbl hnb
  go_enter Tryd.func20, Tryd.ntmps20
  go_wp2_with fail
  go_loop [4] (fun v4 => ∃ k : Nat, v4 = .int .i64 (k : Int) ∧ k ≤ i) (fun v4 => s.size - natOf v4)
  case atStart => exact ⟨0, rfl, Nat.zero_le _⟩
  case round =>
    obtain ⟨k, rfl, hk⟩ := hrel
    by_cases hlt : k < i
    · have hltI : (k : Int) < (s.size : Int) := by omega
      have hks : k < s.size := by omega
      have hb : isBl s[k] = true := HBL.out k _ (Nat.zero_le _) hlt (byteAt hks)
      have HB := Lib.hid (HBl.out s[k])
      rw [hb] at HB
      clear hb
      go_wp2_with fail
      refine (HB.out _).mono ?_
      rintro e w' ⟨rfl, rfl⟩
      clear HB
      go_wp2_with fail
      go_round
      case rel => exact ⟨k + 1, rfl, by omega⟩
      case measure => simp only [natOf]; omega
    · obtain rfl : k = i := by omega
      clear hlt hk
      by_cases hkn : s.size ≤ k + 7
      · have hr : refD s.data.toList = (0, []) := by
          unfold refD
          rw [← HI.out]
          dsimp only
          rw [if_pos (.inl (by rw [HSZ.out]; omega))]
        have HR := Lib.hid hr
        clear hr
        have hd : ((s.size : Int) - (k : Int)) < 8 := by omega
        have hd0 : (0 : Int) ≤ ((s.size : Int) - (k : Int)) := by omega
        by_cases hks : k < s.size
        · have hltI : (k : Int) < (s.size : Int) := by omega
          have hb : isBl s[k] = false := HNB.out _ (byteAt hks)
          have HB := Lib.hid (HBl.out s[k])
          rw [hb] at HB
          clear hb
          go_wp2_with fail
          refine (HB.out _).mono ?_
          rintro e w' ⟨rfl, rfl⟩
          clear HB
          go_wp2_with fail
          go_ret2
          exact ⟨by rw [HR.out]; rfl, Below.refl _ _⟩
        · have hltI : (s.size : Int) ≤ (k : Int) := by omega
          go_wp2_with fail
          go_ret2
          exact ⟨by rw [HR.out]; rfl, Below.refl _ _⟩
      · have hks : k < s.size := by omega
        have hltI : (k : Int) < (s.size : Int) := by omega
        have hb : isBl s[k] = false := HNB.out _ (byteAt hks)
        have HB := Lib.hid (HBl.out s[k])
        rw [hb] at HB
        clear hb
        have hd : (8 : Int) ≤ ((s.size : Int) - (k : Int)) := by omega
        have hk8 : (k : Int) + 8 ≤ (s.size : Int) := by omega
        by_cases hw : seg s.data.toList k (k + 8) = incW
        · obtain ⟨f, hf⟩ : ∃ f, f = k + 8 := ⟨_, rfl⟩
          have hkf : (k : Int) + 8 = (f : Int) := by omega
          have hfn : f ≤ s.size := by omega
          have hfnI : (f : Int) ≤ (s.size : Int) := by omega
          have hq : ((s.extract k f).toList == [64, 105, 110, 99, 108, 117, 100, 101]) = true := by
            rw [seg_B, B_tl, hf, hw]; rfl
          have HF := Lib.hid hf
          have HW := Lib.hid (hf ▸ hw : seg s.data.toList k f = incW)
          -- what is said where the word stands and no letter behind it
          have HD : Hid ((f < s.size → letterB (((s.data.toList[f]?).getD 0).toNat) = false) → refD s.data.toList =
              (let q := skipP isBl s.data.toList f
               if q = f ∨ s.size ≤ q ∨ s.data.toList[q]? ≠ some 34 then (1, [])
               else
                let e := skipP (fun c => c != 34) s.data.toList (q + 1)
                if (s.data.toList.drop (e + 1)).all isBl = false ∨ s.size ≤ e then (1, [])
                else (2, seg s.data.toList (q + 1) e))) := by
            show _ → _
            intro hle
            unfold refD
            rw [← HI.out]
            dsimp only
            rw [if_neg, HSZ.out, ← HF.out]
            rw [HSZ.out, ← HF.out]
            intro h
            rcases h with h | h | ⟨h1, h2⟩
            · omega
            · exact h HW.out
            · rw [hle (by omega)] at h2; cases h2
          clear hf hw hk8
          by_cases hl : f < s.size
          · have hlI : (f : Int) < (s.size : Int) := by omega
            have hgt : (8 : Int) < (s.size : Int) - (k : Int) := by omega
            have hgc : (s.data.toList[f]?).getD 0 = s[f] := by rw [byteAt hl]; rfl
            rw [hgc] at HD
            have HLe := Lib.hid (fun W => letter_any (s[f]).toNat W (UInt8.toNat_lt _))
            clear hgc
            cases hlb : letterB (s[f]).toNat with
            | true =>
              have hr : refD s.data.toList = (0, []) := by
                unfold refD
                rw [← HI.out]
                dsimp only
                rw [if_pos (.inr (.inr ⟨by rw [HSZ.out]; omega, by rw [← HF.out, byteAt hl]; exact hlb⟩))]
              have HR := Lib.hid hr
              rw [hlb] at HLe
              clear hr hlb HD
              go_wp2_with fail
              refine (HB.out _).mono ?_
              rintro e w' ⟨rfl, rfl⟩
              clear HB
              go_wp2_with fail
              refine (HLe.out _).mono ?_
              rintro e w' ⟨rfl, rfl⟩
              clear HLe
              go_wp2_with fail
              go_ret2
              exact ⟨by rw [HR.out]; rfl, Below.refl _ _⟩
            | false =>
              have HR := Lib.hid (HD.out (fun _ => hlb))
              rw [hlb] at HLe
              clear hlb HD
              go_wp2_with fail
              refine (HB.out _).mono ?_
              rintro e w' ⟨rfl, rfl⟩
              clear HB
              go_wp2_with fail
              refine (HLe.out _).mono ?_
              rintro e w' ⟨rfl, rfl⟩
              clear HLe
              go_wp2_with fail
              obtain ⟨q, hq2⟩ : ∃ q, q = skipP isBl s.data.toList f := ⟨_, rfl⟩
              obtain ⟨hfq, hqn, hbl2, hnb2⟩ := skipP_spec isBl s.data.toList _ f rfl (by rw [HSZ.out]; omega)
              rw [← hq2] at hfq hqn hbl2 hnb2
              rw [HSZ.out] at hqn
              rw [← hq2] at HR
              have HBL2 := Lib.hid hbl2
              have HNB2 := Lib.hid hnb2
              clear hq2 hbl2 hnb2 hq
              go_loop [4] (fun v4 => ∃ j : Nat, v4 = .int .i64 (j : Int) ∧ f ≤ j ∧ j ≤ q) (fun v4 => s.size - natOf v4)
              case atStart => exact ⟨f, rfl, Nat.le_refl _, hfq⟩
              case round =>
                obtain ⟨j, rfl, hfj, hjq⟩ := hrel
                by_cases hlt2 : j < q
                · have hltJ : (j : Int) < (s.size : Int) := by omega
                  have hjs : j < s.size := by omega
                  have hb : isBl s[j] = true := HBL2.out j _ hfj hlt2 (byteAt hjs)
                  have HB := Lib.hid (HBl.out s[j])
                  rw [hb] at HB
                  clear hb
                  go_wp2_with fail
                  refine (HB.out _).mono ?_
                  rintro e w' ⟨rfl, rfl⟩
                  clear HB
                  go_wp2_with fail
                  go_round
                  case rel => exact ⟨j + 1, rfl, by omega, by omega⟩
                  case measure => simp only [natOf]; omega
                · obtain rfl : j = q := by omega
                  clear hlt2 hjq
                  by_cases hjf : j = f
                  · subst hjf
                    have hr : refD s.data.toList = (1, []) := by rw [HR.out, if_pos (.inl rfl)]
                    have HR1 := Lib.hid hr
                    have hb : isBl s[j] = false := HNB2.out _ (byteAt hl)
                    have HB := Lib.hid (HBl.out s[j])
                    rw [hb] at HB
                    clear hb hr HR
                    go_wp2_with fail
                    refine (HB.out _).mono ?_
                    rintro e w' ⟨rfl, rfl⟩
                    clear HB
                    go_wp2_with fail
                    go_ret2
                    exact ⟨by rw [HR1.out]; rfl, Below.refl _ _⟩
                  · have hjfI : ((j : Int) == (f : Int)) = false := beq_eq_false_iff_ne.2 (by omega)
                    by_cases hjs : j < s.size
                    · have hltJ : (j : Int) < (s.size : Int) := by omega
                      have hb : isBl s[j] = false := HNB2.out _ (byteAt hjs)
                      have HB := Lib.hid (HBl.out s[j])
                      rw [hb] at HB
                      clear hb
                      by_cases h34 : s[j] = 34
                      · have h34I : (((s[j]).toNat : Int) != 34) = false := by rw [h34]; rfl
                        have h34g : s.data.toList[j]? = some 34 := by rw [byteAt hjs, h34]
                        have hr : refD s.data.toList = (let e := skipP (fun c => c != 34) s.data.toList (j + 1)
                            if (s.data.toList.drop (e + 1)).all isBl = false ∨ s.size ≤ e then (1, [])
                            else (2, seg s.data.toList (j + 1) e)) := by
                          rw [HR.out, if_neg]
                          intro h
                          rcases h with h | h | h
                          · exact hjf h
                          · omega
                          · exact h h34g
                        obtain ⟨a, ha⟩ : ∃ a, a = j + 1 := ⟨_, rfl⟩
                        have hja : (j : Int) + 1 = (a : Int) := by omega
                        have hasz : a ≤ s.size := by omega
                        obtain ⟨e, he⟩ : ∃ e, e = skipP (fun c => c != 34) s.data.toList a := ⟨_, rfl⟩
                        obtain ⟨hae, hen, hbl3, hnb3⟩ := skipP_spec (fun c => c != 34) s.data.toList _ a rfl (by rw [HSZ.out]; omega)
                        dsimp only at hr
                        rw [← ha, ← he] at hr
                        rw [← he] at hae hen hbl3 hnb3
                        rw [HSZ.out] at hen
                        obtain ⟨b, hb2⟩ : ∃ b, b = e + 1 := ⟨_, rfl⟩
                        have heb : (e : Int) + 1 = (b : Int) := by omega
                        rw [← hb2] at hr
                        have HRr := Lib.hid hr
                        have HA := Lib.hid ha
                        have HB2 := Lib.hid hb2
                        have HBL3 := Lib.hid hbl3
                        have HNB3 := Lib.hid hnb3
                        clear hr ha he hb2 hbl3 hnb3 h34 h34g HR hjf HBL2 HNB2
                        go_wp2_with fail
                        refine (HB.out _).mono ?_
                        rintro e0 w' ⟨rfl, rfl⟩
                        clear HB
                        go_wp2_with fail
                        go_loop [6] (fun v6 => ∃ x : Nat, v6 = .int .i64 (x : Int) ∧ a ≤ x ∧ x ≤ e) (fun v6 => s.size - natOf v6)
                        case atStart => exact ⟨a, rfl, Nat.le_refl _, hae⟩
                        case round =>
                          obtain ⟨x, rfl, hax, hxe⟩ := hrel
                          by_cases hlt3 : x < e
                          · have hltX : (x : Int) < (s.size : Int) := by omega
                            have hxs : x < s.size := by omega
                            have hne : (((s[x]).toNat : Int) != 34) = true := by
                              have := HBL3.out x _ hax hlt3 (byteAt hxs)
                              rw [bne_iff_ne]; intro e0
                              have h3 : s[x] = 34 := UInt8.toNat_inj.1 (by show _ = 34; omega)
                              rw [h3] at this; cases this
                            go_wp2_with fail
                            go_round
                            case rel => exact ⟨x + 1, rfl, by omega, by omega⟩
                            case measure => simp only [natOf]; omega
                          · obtain rfl : x = e := by omega
                            clear hlt3 hxe
                            by_cases hxs : x < s.size
                            · have hltX : (x : Int) < (s.size : Int) := by omega
                              have hne : (((s[x]).toNat : Int) != 34) = false := by
                                have := HNB3.out _ (byteAt hxs)
                                have h3 : s[x] = 34 := by simpa using this
                                rw [h3]; rfl
                              have hbs : b ≤ s.size := by rw [HB2.out]; omega
                              go_wp2_with fail
                              obtain ⟨r, hr2⟩ : ∃ r, r = skipP isBl s.data.toList b := ⟨_, rfl⟩
                              obtain ⟨hbr, hrn, hbl4, hnb4⟩ := skipP_spec isBl s.data.toList _ b rfl (by rw [HSZ.out]; omega)
                              rw [← hr2] at hbr hrn hbl4 hnb4
                              rw [HSZ.out] at hrn
                              have HBL4 := Lib.hid hbl4
                              have HNB4 := Lib.hid hnb4
                              clear hr2 hbl4 hnb4
                              go_loop [7] (fun v7 => ∃ y : Nat, v7 = .int .i64 (y : Int) ∧ b ≤ y ∧ y ≤ r) (fun v7 => s.size - natOf v7)
                              case atStart => exact ⟨b, rfl, Nat.le_refl _, hbr⟩
                              case round =>
                                obtain ⟨y, rfl, hby, hyr⟩ := hrel
                                by_cases hys : y < s.size
                                · have hltY : (y : Int) < (s.size : Int) := by omega
                                  have HB := Lib.hid (HBl.out s[y])
                                  by_cases hlt4 : y < r
                                  · have hb : isBl s[y] = true := HBL4.out y _ hby hlt4 (byteAt hys)
                                    rw [hb] at HB
                                    clear hb
                                    go_wp2_with fail
                                    refine (HB.out _).mono ?_
                                    rintro e0 w' ⟨rfl, rfl⟩
                                    clear HB
                                    go_wp2_with fail
                                    go_round
                                    case rel => exact ⟨y + 1, rfl, by omega, by omega⟩
                                    case measure => simp only [natOf]; omega
                                  · obtain rfl : y = r := by omega
                                    have hb : isBl s[y] = false := HNB4.out _ (byteAt hys)
                                    rw [hb] at HB
                                    have hres : refD s.data.toList = (1, []) := by
                                      rw [HRr.out]
                                      refine if_pos (.inl ?_)
                                      rw [List.all_eq_false]
                                      refine ⟨s[y], ?_, by rw [hb]; decide⟩
                                      refine List.mem_iff_getElem?.2 ⟨y - b, ?_⟩
                                      rw [List.getElem?_drop, show b + (y - b) = y by omega]
                                      exact byteAt hys
                                    have HR5 := Lib.hid hres
                                    clear hb hres
                                    go_wp2_with fail
                                    refine (HB.out _).mono ?_
                                    rintro e0 w' ⟨rfl, rfl⟩
                                    clear HB
                                    go_wp2_with fail
                                    go_ret2
                                    exact ⟨by rw [HR5.out]; rfl, Below.refl _ _⟩
                                · have hltY : (s.size : Int) ≤ (y : Int) := by omega
                                  have hres : refD s.data.toList = (2, seg s.data.toList a x) := by
                                    rw [HRr.out]
                                    rw [if_neg]
                                    intro h
                                    rcases h with h | h
                                    · rw [List.all_eq_false] at h
                                      obtain ⟨c, hc, hcb⟩ := h
                                      obtain ⟨i, hi⟩ := List.mem_iff_getElem?.1 hc
                                      rw [List.getElem?_drop] at hi
                                      have hi2 := (List.getElem?_eq_some_iff.1 hi).1
                                      rw [HSZ.out] at hi2
                                      exact hcb (HBL4.out (b + i) c (by omega) (by omega) hi)
                                    · omega
                                  have HR5 := Lib.hid hres
                                  have haxI : (a : Int) ≤ (x : Int) := by omega
                                  have hxnI : (x : Int) ≤ (s.size : Int) := by omega
                                  clear hres
                                  go_wp2_with fail
                                  go_region
                                  all_goals go_wp2_with fail
                                  all_goals go_ret2
                                  all_goals refine ⟨?_, (Below.refl _ _).drew⟩
                                  all_goals (rw [HR5.out, ← seg_B]; rfl)
                            · obtain rfl : x = s.size := by omega
                              have hres : refD s.data.toList = (1, []) := by
                                rw [HRr.out]
                                rw [if_pos (.inr (Nat.le_refl _))]
                              have HR5 := Lib.hid hres
                              have hbI : (s.size : Int) ≤ (b : Int) := by omega
                              clear hres
                              go_wp2_with fail
                              go_loop [7] (fun v7 => v7 = .int .i64 (b : Int)) (fun v7 => 0)
                              case atStart => rfl
                              case round =>
                                obtain rfl := hrel
                                go_wp2_with fail
                                go_ret2
                                exact ⟨by rw [HR5.out]; rfl, Below.refl _ _⟩
                      · have h34I : (((s[j]).toNat : Int) != 34) = true := by
                          rw [bne_iff_ne]; intro e; exact h34 (UInt8.toNat_inj.1 (by show _ = 34; omega))
                        have hr : refD s.data.toList = (1, []) := by rw [HR.out, if_pos (.inr (.inr (by rw [byteAt hjs]; simpa using h34)))]
                        have HR1 := Lib.hid hr
                        clear hr HR h34
                        go_wp2_with fail
                        refine (HB.out _).mono ?_
                        rintro e w' ⟨rfl, rfl⟩
                        clear HB
                        go_wp2_with fail
                        go_ret2
                        exact ⟨by rw [HR1.out]; rfl, Below.refl _ _⟩
                    · have hltJ : (s.size : Int) ≤ (j : Int) := by omega
                      have hr : refD s.data.toList = (1, []) := by rw [HR.out, if_pos (.inr (.inl (by omega)))]
                      have HR1 := Lib.hid hr
                      clear hr HR
                      go_wp2_with fail
                      go_ret2
                      exact ⟨by rw [HR1.out]; rfl, Below.refl _ _⟩
          · obtain rfl : f = s.size := by omega
            have hgt : (s.size : Int) - (k : Int) = 8 := by omega
            have hr : refD s.data.toList = (1, []) := by
              rw [HD.out (fun h => absurd h hl), skipP_end (by rw [HSZ.out]; exact Nat.le_refl _)]
              dsimp only
              rw [if_pos (.inl rfl)]
            have HR := Lib.hid hr
            clear hr HD
            go_wp2_with fail
            refine (HB.out _).mono ?_
            rintro e w' ⟨rfl, rfl⟩
            clear HB
            go_wp2_with fail
            go_loop [4] (fun v4 => v4 = .int .i64 (s.size : Int)) (fun v4 => 0)
            case atStart => rfl
            case round =>
              obtain rfl := hrel
              go_wp2_with fail
              go_ret2
              exact ⟨by rw [HR.out]; rfl, Below.refl _ _⟩
        · have hr : refD s.data.toList = (0, []) := by
            unfold refD
            rw [← HI.out]
            dsimp only
            rw [if_pos (.inr (.inl hw))]
          have HR := Lib.hid hr
          clear hr
          have hq : ((s.extract k (k + 8)).toList == incW) = false := by
            rw [seg_B, B_tl]; exact beq_eq_false_iff_ne.2 hw
          unfold incW at hq
          clear hw
          go_wp2_with fail
          refine (HB.out _).mono ?_
          rintro e w' ⟨rfl, rfl⟩
          clear HB
          go_wp2_with fail
          go_ret2
          exact ⟨by rw [HR.out]; rfl, Below.refl _ _⟩
end Go.Proofs.YtmhjfdnpmfhmjaaDoor
