/- thresherlaw20.LexLines, walked. -/
import Derived.Test.YtkaelmbgfcehhaaDoorY15
set_option linter.unusedVariables false
set_option linter.unusedSimpArgs false
namespace Go.Proofs.YtkaelmbgfcehhaaDoor
open Go.RowKit
set_option linter.unusedVariables false
set_option linter.unusedSimpArgs false

theorem scan_len {lit : List UInt8 → Nat × Nat} (hl : LitOk lit) : ∀ (n : Nat) (R : List UInt8) (line : Nat) (toks L : List TokT), scanR lit n R line toks = .ok L → L.length ≤ toks.length + R.length + 1
  | 0, R, line, toks, L, h => by cases h
  | n + 1, R, line, toks, L, h => by
    by_cases hR : R = []
    · rw [scanR, if_pos hR] at h
      injection h with h
      rw [← h, List.length_append]
      simp
    · rw [scanR_step hR] at h
      cases hs : stepR lit R toks.getLast? with
      | bad e => rw [hs] at h; cases h
      | go k l tok =>
        rw [hs] at h
        obtain ⟨g1, g2, _⟩ := step_lines hl hs
        have ih := scan_len hl n _ _ _ _ h
        have hm := more_len toks line tok
        rw [List.length_drop] at ih
        omega
theorem lines_facts {n : Nat} {R : List UInt8} {L : List TokT} (h : scanR litL n R 1 [] = .ok L) :
    (∀ i t, L[i]? = some t → 1 ≤ t.2.2.2 ∧ t.2.2.2 ≤ 1 + R.count 10 ∧ (t.1 = 9 ↔ i + 1 = L.length)) ∧ (∀ i t u, L[i]? = some t → L[i + 1]? = some u → t.2.2.2 ≤ u.2.2.2) ∧
    (L.filter fun m => m.1 == 8).length ≤ R.count 10 ∧ (∃ t, L[L.length - 1]? = some t ∧ t.2.2.2 = 1 + R.count 10) ∧ 0 < L.length := by
  obtain ⟨M, rfl, h1, h2, h3⟩ := scan_lines litL_ok _ _ _ _ _ h
  rw [List.nil_append]
  refine ⟨fun i t hi => ?_, fun i t u hi hu => ?_, ?_, ⟨(9, [], 0, 1 + R.count 10), by simp, rfl⟩, by simp⟩
  · rcases Nat.lt_or_ge i M.length with hlt | hge
    · rw [List.getElem?_append_left hlt] at hi
      have hm := List.mem_of_getElem? hi
      obtain ⟨a1, a2, a3, a4⟩ := h1 t hm
      refine ⟨a3, a4, ?_⟩
      constructor
      · intro e; omega
      · intro e; simp at e; omega
    · rw [List.getElem?_append_right hge] at hi
      have hi0 : i - M.length = 0 := by
        rcases Nat.eq_zero_or_pos (i - M.length) with e | e
        · exact e
        · rw [List.getElem?_eq_none (by simp; omega)] at hi; cases hi
      rw [hi0] at hi
      have e : t = (9, [], 0, 1 + R.count 10) := by simpa using hi.symm
      subst e
      refine ⟨by show 1 ≤ 1 + _; omega, Nat.le_refl _, ?_⟩
      constructor
      · intro _; simp; omega
      · intro _; rfl
  · rcases Nat.lt_or_ge (i + 1) M.length with hlt | hge
    · rw [List.getElem?_append_left (by omega)] at hi
      rw [List.getElem?_append_left hlt] at hu
      obtain ⟨p1, e1⟩ := List.getElem?_eq_some_iff.1 hi
      obtain ⟨p2, e2⟩ := List.getElem?_eq_some_iff.1 hu
      have := List.pairwise_iff_getElem.1 h2 i (i + 1) p1 p2 (by omega)
      rw [e1, e2] at this
      exact this
    · rw [List.getElem?_append_right hge] at hu
      have hi0 : i + 1 - M.length = 0 := by
        rcases Nat.eq_zero_or_pos (i + 1 - M.length) with e | e
        · exact e
        · rw [List.getElem?_eq_none (by simp; omega)] at hu; cases hu
      rw [hi0] at hu
      have e : u = (9, [], 0, 1 + R.count 10) := by simpa using hu.symm
      subst e
      rw [List.getElem?_append_left (by omega)] at hi
      exact (h1 t (List.mem_of_getElem? hi)).2.2.2
  · rw [List.filter_append, List.length_append]
    have : ([((9 : Nat), ([] : List UInt8), (0 : Nat), 1 + R.count 10)].filter fun m => m.1 == 8) = [] := rfl
    rw [this]
    simpa using h3
theorem RowK.at_ {w : World} {a : Option Addr} {L : List TokT} (h : RowK w a L) {i : Nat} {t : TokT} (hi : L[i]? = some t) : ∃ g off, a = some ⟨g, off, none⟩ ∧ g < w.heap.size ∧ w.cell? ⟨g, off + i * 4, none⟩ = some (.int .i64 (t.1 : Int)) ∧ w.cell? ⟨g, off + i * 4 + 1, none⟩ = some (.string (bs t.2.1)) ∧
    w.cell? ⟨g, off + i * 4 + 2, none⟩ = some (.float .f64 t.2.2.1) ∧ w.cell? ⟨g, off + i * 4 + 3, none⟩ = some (.int .i64 (t.2.2.2 : Int)) := by
  obtain ⟨g, off, h1, h2, h3⟩ := h i t hi
  exact ⟨g, off, h1, h2, h3 0 (by decide), h3 1 (by decide), h3 2 (by decide), h3 3 (by decide)⟩

set_option maxHeartbeats 16000000 in
set_option maxRecDepth 100000 in
theorem lexLines_any (s : ByteArray) (w : World) (hM : MaxOk w) (hs : s.size ≤ 140737488351232) :
    Calls Tryd.prog 5 #[.string s] w fun e w' => e = .returned (.bool true) ∧ Below w.heap.size w w' := by
  have HF := Lib.hid (fixed20_any w hM)
  have HM := Lib.hid hM
  have hMl := hM.lt
  clear hM
  by_cases hbig : 20000 < s.size
  · have hI : (20000 : Int) < (s.size : Int) := by omega
    go_enter Tryd.func5, Tryd.ntmps5
    go_wp2_with fail
    refine HF.out.mono ?_
    rintro e w1 ⟨rfl, hb1⟩
    have HB1 := Lib.hid hb1
    clear hb1
    go_wp2_with fail
    go_ret
    exact ⟨rfl, HB1.out⟩
  have hI : (s.size : Int) ≤ 20000 := by omega
  have hId : decide ((20000 : Int) < (s.size : Int)) = false := decide_eq_false (by omega)
  have hsl : s.data.toList.length = s.size := (size_list s).symm
  obtain ⟨E, hE⟩ : ∃ E, E = s.data.toList.count 10 := ⟨_, rfl⟩
  have hEB : E ≤ 20000 := by rw [hE]; have := List.count_le_length (a := (10 : UInt8)) (l := s.data.toList); omega
  have HE := Lib.hid hE
  have HSc := Lib.hid (fun W hW => scan_any s W hW (by omega))
  obtain ⟨E1, hE1⟩ : ∃ E1, E1 = E + 1 := ⟨_, rfl⟩
  have eE : (E : Int) + 1 = (E1 : Int) := by omega
  have eEw := wrapN E1 (by omega)
  have HE1 := Lib.hid hE1
  clear hE hE1
  cases hres : scanR litL (s.data.toList.length + 1) s.data.toList 1 [] with
  | error q =>
    obtain ⟨ln, er⟩ := q
    obtain ⟨b1, b2, b3⟩ := scan_bad litL_ok _ _ _ _ _ _ (by omega) hres
    rw [hres] at HSc
    have hl1 : (1 : Int) ≤ (ln : Int) := by omega
    have hl2 : (ln : Int) ≤ (E1 : Int) := by have h1 := HE.out; have h2 := HE1.out; omega
    have hen : ((er : Int) != 0) = true := by rcases b3 with rfl | rfl | rfl <;> rfl
    have hen2 : ¬ (er : Int) = 0 := by rcases b3 with rfl | rfl | rfl <;> decide
    have hen3 : ¬ er = 0 := by omega
    clear b1 b2 b3 hres
    go_enter Tryd.func5, Tryd.ntmps5
    go_wp2_with fail
    refine HF.out.mono ?_
    rintro e w1 ⟨rfl, hb1⟩
    have HB1 := Lib.hid hb1
    have HM1 := Lib.hid (HM.out.below hb1 hMl)
    have hz1 := hb1.size
    clear hb1 HF
    go_wp2_with fail
    refine (HSc.out _ HM1.out).mono ?_
    rintro e w2 ⟨rfl, hb2⟩
    have HB2 := Lib.hid (HB1.out.trans (hb2.mono hz1))
    clear hb2 HSc
    go_wp2_with fail
    go_loop [6, 8] (fun ev iv => ∃ c i : Nat, ev = .int .i64 (c : Int) ∧ iv = .int .i64 (i : Int) ∧ i ≤ s.size ∧ c ≤ i ∧ Hid (c = (s.data.toList.take i).count 10)) (fun _ iv => s.size - (intOf iv).toNat)
    case atStart => exact ⟨0, 0, rfl, rfl, Nat.zero_le _, Nat.zero_le _, by show _ = _; simp⟩
    case round =>
      obtain ⟨c, i, rfl, rfl, hi, hci, HC⟩ := hrel
      rcases Nat.lt_or_ge i s.size with hlt | hge
      · have hltI : (i : Int) < (s.size : Int) := by omega
        have htk : s.data.toList.take (i + 1) = s.data.toList.take i ++ [s[i]] := by
          rw [List.take_add_one, List.getElem?_eq_getElem (by omega)]
          rfl
        generalize hx : s[i] = x at *
        have eiw := wrapN (i + 1) (by omega)
        by_cases h10 : x = 10
        · subst h10
          have HC2 : Hid (c + 1 = (s.data.toList.take (i + 1)).count 10) := by show _ = _; rw [htk, List.count_append, ← HC.out]; rfl
          clear htk
          go_wp2_with fail
          go_round
          case rel => exact ⟨c + 1, i + 1, rfl, rfl, by omega, by omega, HC2⟩
          case measure => simp only [intOf]; omega
        · have HC2 : Hid (c = (s.data.toList.take (i + 1)).count 10) := by
            show _ = _
            rw [htk, List.count_append, ← HC.out, List.count_singleton]
            simp [h10]
          have hxn : ((x.toNat : Int) == 10) = false := beq_eq_false_iff_ne.2 (fun e => h10 (UInt8.toNat_inj.1 (by show x.toNat = 10; omega)))
          clear htk
          go_wp2_with fail
          go_round
          case rel => exact ⟨c, i + 1, rfl, rfl, by omega, by omega, HC2⟩
          case measure => simp only [intOf]; omega
      · have hgeI : (s.size : Int) ≤ (i : Int) := by omega
        obtain rfl : c = E := by rw [HC.out, HE.out, List.take_of_length_le (by omega)]
        go_wp2_with fail
        go_ret
        exact ⟨rfl, HB2.out⟩
  | ok L =>
    obtain ⟨f1, f2, f3, ⟨tl, f4, f5⟩, f6⟩ := lines_facts hres
    have hlen := scan_len litL_ok _ _ _ _ _ hres
    rw [hres] at HSc
    obtain ⟨N, hN⟩ : ∃ N, N = L.length := ⟨_, rfl⟩
    have HN : Hid (L.length = N) := hN.symm
    have hNB : N ≤ 20001 := by rw [hN]; simp at hlen; omega
    obtain ⟨N0, hN0⟩ : ∃ N0, N = N0 + 1 := ⟨N - 1, by omega⟩
    have eN : (N : Int) - 1 = (N0 : Int) := by omega
    have eNw := wrapN N0 (by omega)
    rw [← hN] at f4 f6
    rw [show N - 1 = N0 by omega] at f4
    have HF1 := Lib.hid f1
    have HF2 := Lib.hid f2
    have HF3 := Lib.hid f3
    have HF4 := Lib.hid f4
    have HF5 := Lib.hid f5
    have HN0 := Lib.hid hN0
    have hNp : (0 : Int) < (N : Int) := by omega
    clear f1 f2 f3 f4 f5 f6 hlen hres hN hN0
    go_enter Tryd.func5, Tryd.ntmps5
    go_wp2_with fail
    refine HF.out.mono ?_
    rintro e w1 ⟨rfl, hb1⟩
    have HB1 := Lib.hid hb1
    have HM1 := Lib.hid (HM.out.below hb1 hMl)
    have hz1 := hb1.size
    clear hb1 HF
    go_wp2_with fail
    refine (HSc.out _ HM1.out).mono ?_
    rintro e w2 ⟨lv, rfl, hown, hb2⟩
    obtain ⟨a, cc, rfl, hrow⟩ := RowK.of_own hown
    rw [HN.out]
    have HB2 := Lib.hid (HB1.out.trans (hb2.mono hz1))
    have HRow := Lib.hid hrow
    have hz2 : w.heap.size ≤ w2.heap.size := HB2.out.size
    clear hb2 HSc hown hrow
    go_wp2_with fail
    go_loop [6, 8] (fun ev iv => ∃ c i : Nat, ev = .int .i64 (c : Int) ∧ iv = .int .i64 (i : Int) ∧ i ≤ s.size ∧ c ≤ i ∧ Hid (c = (s.data.toList.take i).count 10)) (fun _ iv => s.size - (intOf iv).toNat)
    case atStart => exact ⟨0, 0, rfl, rfl, Nat.zero_le _, Nat.zero_le _, by show _ = _; simp⟩
    case round =>
      obtain ⟨c, i, rfl, rfl, hi, hci, HC⟩ := hrel
      rcases Nat.lt_or_ge i s.size with hlt | hge
      · have hltI : (i : Int) < (s.size : Int) := by omega
        have htk : s.data.toList.take (i + 1) = s.data.toList.take i ++ [s[i]] := by
          rw [List.take_add_one, List.getElem?_eq_getElem (by omega)]
          rfl
        generalize hx : s[i] = x at *
        have eiw := wrapN (i + 1) (by omega)
        by_cases h10 : x = 10
        · subst h10
          have HC2 : Hid (c + 1 = (s.data.toList.take (i + 1)).count 10) := by show _ = _; rw [htk, List.count_append, ← HC.out]; rfl
          clear htk
          go_wp2_with fail
          go_round
          case rel => exact ⟨c + 1, i + 1, rfl, rfl, by omega, by omega, HC2⟩
          case measure => simp only [intOf]; omega
        · have HC2 : Hid (c = (s.data.toList.take (i + 1)).count 10) := by
            show _ = _
            rw [htk, List.count_append, ← HC.out, List.count_singleton]
            simp [h10]
          have hxn : ((x.toNat : Int) == 10) = false := beq_eq_false_iff_ne.2 (fun e => h10 (UInt8.toNat_inj.1 (by show x.toNat = 10; omega)))
          clear htk
          go_wp2_with fail
          go_round
          case rel => exact ⟨c, i + 1, rfl, rfl, by omega, by omega, HC2⟩
          case measure => simp only [intOf]; omega
      · have hgeI : (s.size : Int) ≤ (i : Int) := by omega
        obtain rfl : c = E := by rw [HC.out, HE.out, List.take_of_length_le (by omega)]
        clear HC
        go_wp2_with fail
        go_loopw [7, 51] (fun nv iv wr => ∃ cnt i : Nat, nv = .int .i64 (cnt : Int) ∧ iv = .int .i64 (i : Int) ∧ i ≤ N ∧ Hid (cnt = ((L.take i).filter fun m => m.1 == 8).length) ∧ cnt ≤ i ∧ Hid (Below w2.heap.size w2 wr)) (fun _ iv _ => N - (intOf iv).toNat)
        case atStart => exact ⟨0, 0, rfl, rfl, Nat.zero_le _, by show _ = _; simp, Nat.zero_le _, Below.refl _ _⟩
        case round =>
          obtain ⟨cnt, i, rfl, rfl, hi, HC, hci, HB⟩ := hrel
          rcases Nat.lt_or_ge i N with hlt | hge
          · have hltI : (i : Int) < (N : Int) := by omega
            obtain ⟨t, ht⟩ : ∃ t, L[i]? = some t := ⟨_, List.getElem?_eq_getElem (by rw [HN.out]; exact hlt)⟩
            obtain ⟨p1, p2, p3⟩ := HF1.out i t ht
            have hrow := HRow.out.below HB.out
            have hHC := HC.out
            have htk : L.take (i + 1) = L.take i ++ [t] := by rw [List.take_add_one, ht]; rfl
            obtain ⟨g, off, rfl, hg, d0, d1, d2, d3⟩ := hrow.at_ ht
            have HBn : Hid (∀ o q, Below w2.heap.size w2 ((wr.alloc o).drewN q)) := fun o q => (HB.out.alloc HB.out.size o).drewN q
            have hprev : ∀ j, i = j + 1 → ∃ lp : Nat, wr.cell? ⟨g, off + j * 4 + 3, none⟩ = some (.int .i64 (lp : Int)) ∧ lp ≤ t.2.2.2 := fun j hj => by
              obtain ⟨u, hu⟩ : ∃ u, L[j]? = some u := ⟨_, List.getElem?_eq_getElem (by rw [HN.out]; omega)⟩
              obtain ⟨g', off', e, _, _, _, _, k3⟩ := hrow.at_ hu
              cases e
              exact ⟨_, k3, HF2.out j u t hu (by rw [← hj]; exact ht)⟩
            obtain ⟨kd, tx, x, ln⟩ := t
            have l1 : 1 ≤ ln := p1
            have l2 : ln ≤ 1 + s.data.toList.count 10 := p2
            have l3 : kd = 9 ↔ i + 1 = N := by rw [← HN.out]; exact p3
            have hl1 : decide ((ln : Int) < 1) = false := decide_eq_false (by omega)
            have hl2 : decide ((E1 : Int) < (ln : Int)) = false := decide_eq_false (by have h1 := HE.out; have h2 := HE1.out; omega)
            have hl2n : decide (E1 < ln) = false := decide_eq_false (by have h1 := HE.out; have h2 := HE1.out; omega)
            have hl1n : ¬ ln = 0 := by omega
            obtain ⟨i1, hi1⟩ : ∃ i1, i1 = i + 1 := ⟨_, rfl⟩
            have ei : (i : Int) + 1 = (i1 : Int) := by omega
            have eiw := wrapN i1 (by omega)
            obtain ⟨cn, hcn⟩ : ∃ cn, cn = cnt + 1 := ⟨_, rfl⟩
            have ec : (cnt : Int) + 1 = (cn : Int) := by omega
            have ecw := wrapN cn (by omega)
            have HI1 : Hid (i1 ≤ N ∧ N - i1 < N - i ∧ cn ≤ i1 ∧ cnt ≤ i1) := ⟨by omega, by omega, by omega, by omega⟩
            have HC8 : Hid (kd = 8 → cn = ((L.take i1).filter fun m => m.1 == 8).length) := fun e => by rw [hi1, htk, List.filter_append, List.length_append, ← hHC, hcn, e]; rfl
            have HCn : Hid (kd ≠ 8 → cnt = ((L.take i1).filter fun m => m.1 == 8).length) := fun e => by
              rw [hi1, htk, List.filter_append, List.length_append, ← hHC]
              have : ([(kd, tx, x, ln)].filter fun m => m.1 == 8) = [] := by simp [e]
              rw [this]
              rfl
            have HPv := Lib.hid hprev
            have HL3 := Lib.hid l3
            clear hHC htk ht hrow hprev hi1 hcn HC l1 l2 l3 p1 p2 p3
            by_cases hlast : i = N0
            · have hk9 : kd = 9 := HL3.out.2 (by have := HN0.out; omega)
              subst hk9
              subst hlast
              have HCf := Lib.hid (HCn.out (by decide))
              clear HC8 HCn HL3
              rcases Nat.eq_zero_or_pos i with hi0 | hi0
              · subst hi0
                obtain rfl : i1 = 1 := by omega
                simp only [Nat.zero_mul, Nat.add_zero] at d0 d1 d2 d3
                clear HPv ei eiw
                go_wp2_with fail
                go_quiet (fail)
                go_wp2_with fail
                go_roundw
                case rel => exact ⟨cnt, _, rfl, rfl, HI1.out.1, HCf, HI1.out.2.2.2, HBn.out _ _⟩
                case measure => simp only [intOf]; exact HI1.out.2.1
              · obtain ⟨j, hj⟩ : ∃ j, i = j + 1 := ⟨i - 1, by omega⟩
                obtain ⟨lp, k3, hlp⟩ := HPv.out j hj
                have hlp : lp ≤ ln := hlp
                have hipos : (0 : Int) < (i : Int) := by omega
                have ej : (i : Int) - 1 = (j : Int) := by omega
                have ejw := wrapN j (by omega)
                have hjN : (j : Int) < (N : Int) := by omega
                have hlpd : decide ((ln : Int) < (lp : Int)) = false := decide_eq_false (by omega)
                have hlpn : decide (ln < lp) = false := decide_eq_false (by omega)
                clear HPv hj
                go_wp2_with fail
                go_quiet (fail)
                go_wp2_with fail
                go_roundw
                case rel => exact ⟨cnt, _, rfl, rfl, HI1.out.1, HCf, HI1.out.2.2.2, HBn.out _ _⟩
                case measure => simp only [intOf]; exact HI1.out.2.1
            · have hk9 : kd ≠ 9 := fun e => hlast (by have := HL3.out.1 e; have := HN0.out; omega)
              have hk9d : ((kd : Int) == 9) = false := beq_eq_false_iff_ne.2 (by omega)
              have hiN : ((i : Int) == (N0 : Int)) = false := beq_eq_false_iff_ne.2 (by omega)
              have hiNn : decide (i = N0) = false := decide_eq_false hlast
              have hiNb : (i == N0) = false := beq_eq_false_iff_ne.2 hlast
              clear HL3
              by_cases hk8 : kd = 8
              · subst hk8
                have HCf := Lib.hid (HC8.out rfl)
                clear HC8 HCn
                rcases Nat.eq_zero_or_pos i with hi0 | hi0
                · subst hi0
                  obtain rfl : i1 = 1 := by omega
                  simp only [Nat.zero_mul, Nat.add_zero] at d0 d1 d2 d3
                  clear HPv ei eiw
                  go_wp2_with fail
                  go_quiet (fail)
                  go_wp2_with fail
                  go_roundw
                  case rel => exact ⟨cn, _, rfl, rfl, HI1.out.1, HCf, HI1.out.2.2.1, HBn.out _ _⟩
                  case measure => simp only [intOf]; exact HI1.out.2.1
                · obtain ⟨j, hj⟩ : ∃ j, i = j + 1 := ⟨i - 1, by omega⟩
                  obtain ⟨lp, k3, hlp⟩ := HPv.out j hj
                  have hlp : lp ≤ ln := hlp
                  have hipos : (0 : Int) < (i : Int) := by omega
                  have ej : (i : Int) - 1 = (j : Int) := by omega
                  have ejw := wrapN j (by omega)
                  have hjN : (j : Int) < (N : Int) := by omega
                  have hlpd : decide ((ln : Int) < (lp : Int)) = false := decide_eq_false (by omega)
                  have hlpn : decide (ln < lp) = false := decide_eq_false (by omega)
                  clear HPv hj
                  go_wp2_with fail
                  go_quiet (fail)
                  go_wp2_with fail
                  go_roundw
                  case rel => exact ⟨cn, _, rfl, rfl, HI1.out.1, HCf, HI1.out.2.2.1, HBn.out _ _⟩
                  case measure => simp only [intOf]; exact HI1.out.2.1
              · have hk8d : ((kd : Int) == 8) = false := beq_eq_false_iff_ne.2 (by omega)
                have HCf := Lib.hid (HCn.out hk8)
                clear HC8 HCn
                rcases Nat.eq_zero_or_pos i with hi0 | hi0
                · subst hi0
                  obtain rfl : i1 = 1 := by omega
                  simp only [Nat.zero_mul, Nat.add_zero] at d0 d1 d2 d3
                  clear HPv ei eiw
                  go_wp2_with fail
                  go_quiet (fail)
                  go_wp2_with fail
                  go_roundw
                  case rel => exact ⟨cnt, _, rfl, rfl, HI1.out.1, HCf, HI1.out.2.2.2, HBn.out _ _⟩
                  case measure => simp only [intOf]; exact HI1.out.2.1
                · obtain ⟨j, hj⟩ : ∃ j, i = j + 1 := ⟨i - 1, by omega⟩
                  obtain ⟨lp, k3, hlp⟩ := HPv.out j hj
                  have hlp : lp ≤ ln := hlp
                  have hipos : (0 : Int) < (i : Int) := by omega
                  have ej : (i : Int) - 1 = (j : Int) := by omega
                  have ejw := wrapN j (by omega)
                  have hjN : (j : Int) < (N : Int) := by omega
                  have hlpd : decide ((ln : Int) < (lp : Int)) = false := decide_eq_false (by omega)
                  have hlpn : decide (ln < lp) = false := decide_eq_false (by omega)
                  clear HPv hj
                  go_wp2_with fail
                  go_quiet (fail)
                  go_wp2_with fail
                  go_roundw
                  case rel => exact ⟨cnt, _, rfl, rfl, HI1.out.1, HCf, HI1.out.2.2.2, HBn.out _ _⟩
                  case measure => simp only [intOf]; exact HI1.out.2.1
          · have hgeI : (N : Int) ≤ (i : Int) := by omega
            have hgeD : decide ((i : Int) < (N : Int)) = false := decide_eq_false (by omega)
            have hcE : (cnt : Int) ≤ (c : Int) := by
              have h1 := HC.out
              have h2 := HF3.out
              have h3 := HE.out
              rw [List.take_of_length_le (by rw [HN.out]; exact hge)] at h1
              omega
            have hrow := HRow.out.below HB.out
            obtain ⟨g, off, rfl, hg, d0, d1, d2, d3⟩ := hrow.at_ HF4.out
            have hlE : tl.2.2.2 = E1 := by have h1 := HF5.out; have h2 := HE.out; have h3 := HE1.out; omega
            rw [hlE] at d3
            have HBf := Lib.hid (HB2.out.trans (HB.out.mono hz2))
            have hN0I : (N0 : Int) < (N : Int) := by have := HN0.out; omega
            clear hrow d0 d1 d2 HC
            go_wp2_with fail
            go_ret
            exact ⟨by simp, HBf.out⟩
end Go.Proofs.YtkaelmbgfcehhaaDoor
