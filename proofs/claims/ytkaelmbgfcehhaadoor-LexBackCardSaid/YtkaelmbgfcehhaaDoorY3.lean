/- Package lex: Word, Builtin, word. -/
import Derived.Test.YtkaelmbgfcehhaaDoorM4
import Derived.Test.YtkaelmbgfcehhaaDoorY0
set_option linter.unusedVariables false
set_option linter.unusedSimpArgs false
namespace Go.Proofs.YtkaelmbgfcehhaaDoor
open Go.RowKit
set_option linter.unusedVariables false
set_option linter.unusedSimpArgs false

/-- bytealg.MaxLen holds some int -/
def MaxOk (w : World) : Prop := ∃ m : Int, w.cell? ⟨1, 0, none⟩ = some (.int .i64 m)
theorem MaxOk.lt {w : World} (h : MaxOk w) : 1 < w.heap.size := by
  obtain ⟨m, h⟩ := h
  rcases Nat.lt_or_ge 1 w.heap.size with h' | h'
  · exact h'
  · unfold World.cell? at h; rw [Array.getElem?_eq_none (by simpa using h')] at h; cases h
theorem MaxOk.below {w w' : World} (h : MaxOk w) {D : Nat} (hb : Below D w w') (hD : 1 < D) : MaxOk w' := by
  obtain ⟨m, h⟩ := h
  exact ⟨m, (hb.cell (p := ⟨1, 0, none⟩) hD).trans h⟩
theorem bs_inj {a b : List UInt8} (h : bs a = bs b) : a = b := by
  have := congrArg (fun x : ByteArray => x.data.toList) h
  simpa [bs] using this
theorem contains_bs (l : List (List UInt8)) (s : ByteArray) : Lib.containsS (l.map bs) s = l.contains s.data.toList := by
  rw [Bool.eq_iff_iff, Lib.containsS_iff, List.contains_iff_mem, List.mem_map]
  constructor
  · rintro ⟨a, ha, rfl⟩
    simpa [bs] using ha
  · intro h
    exact ⟨_, h, bs_list s⟩
theorem row_cells (w w' : World) (l : List (List UInt8)) (h : w' = w.alloc (.cells ((l.map bs).map Value.string).toArray 9)) :
    ∀ j, j < (l.map bs).length → w'.cell? ⟨w.heap.size, 0 + j, none⟩ = some (.string ((l.map bs).getD j ByteArray.empty)) := by
  intro j hj
  have hh : w'.heap[w.heap.size]? = some (.cells ((l.map bs).map Value.string).toArray 9 (0, 0)) := by rw [h]; exact heap_alloc_at w _
  rw [Nat.zero_add, Lib.cell_of_heap hh]
  have hj2 : j < l.length := by simpa using hj
  simp [List.getD_eq_getElem?_getD, hj2]
set_option maxRecDepth 100000 in
set_option maxHeartbeats 4000000 in
theorem Builtin_any (t : ByteArray) (w : World) (hM : MaxOk w) :
    Calls Tryd.prog 37 #[.string t] w fun e w' => e = .returned (.bool (builtinsL.contains t.data.toList)) ∧ Below w.heap.size w w' := by
  obtain ⟨m, hm⟩ := hM
  have h1 := Tryd.strings_Split builtinsS ⟨#[32]⟩ m w (by decide) hm (by decide)
  rw [cut_builtins.1, cut_builtins.2] at h1
  have HSp := Lib.hid h1
  have HC : Hid (∀ w', w' = w.alloc (.cells ((builtinsL.map bs).map Value.string).toArray 9) → Calls Tryd.prog 38 #[.slice (some ⟨w.heap.size, 0, none⟩) (30 + 1) (30 + 1), .string t] w' fun e w'' => e = .returned (.bool (builtinsL.contains t.data.toList)) ∧ w'' = w') := fun w' hw' => by
    have h2 := Tryd.slices_Contains_string w.heap.size 0 (30 + 1) (30 + 1) (builtinsL.map bs) t w' (by decide) (by decide) (row_cells w w' builtinsL hw')
    rw [List.take_of_length_le (by decide), contains_bs] at h2
    exact h2
  clear h1 hm
  generalize builtinsL.contains t.data.toList = r at *
  go_enter Tryd.func37, Tryd.ntmps37
  go_wp2_with fail
  refine HSp.out.mono ?_
  rintro e w1 ⟨rfl, hw1⟩
  have HB : Hid (Below w.heap.size w w1) := by rw [hw1]; exact (Below.refl _ _).alloc (Nat.le_refl _) _
  have HC1 := Lib.hid (HC.out w1 hw1)
  clear hw1 HC HSp
  go_wp2_with fail
  refine HC1.out.mono ?_
  rintro e w2 ⟨rfl, rfl⟩
  go_wp2_with fail
  go_ret
  exact ⟨rfl, HB.out⟩
set_option maxRecDepth 100000 in
set_option maxHeartbeats 4000000 in
theorem Word_any (t : ByteArray) (w : World) (hM : MaxOk w) :
    Calls Tryd.prog 29 #[.string t] w fun e w' => e = .returned (.bool (isWordL t.data.toList)) ∧ Below w.heap.size w w' := by
  have HBu := Lib.hid (Builtin_any t w hM)
  have HM := Lib.hid hM
  have hlt := hM.lt
  have he : isWordL t.data.toList = (builtinsL.contains t.data.toList || wordsL.contains t.data.toList) := rfl
  generalize isWordL t.data.toList = res at *
  generalize builtinsL.contains t.data.toList = r at *
  clear hM
  cases r with
  | true =>
    rw [Bool.true_or] at he
    subst he
    go_enter Tryd.func29, Tryd.ntmps29
    go_wp2_with fail
    refine HBu.out.mono ?_
    rintro e w1 ⟨rfl, hb1⟩
    have HB1 := Lib.hid hb1
    clear hb1
    go_wp2_with fail
    go_ret
    exact ⟨rfl, HB1.out⟩
  | false =>
    rw [Bool.false_or] at he
    go_enter Tryd.func29, Tryd.ntmps29
    go_wp2_with fail
    refine HBu.out.mono ?_
    rintro e w1 ⟨rfl, hb1⟩
    have HB1 := Lib.hid hb1
    have hz1 := hb1.size
    obtain ⟨m, hm⟩ := HM.out.below hb1 hlt
    have h1 := Tryd.strings_Split wordsS ⟨#[32]⟩ m w1 (by decide) hm (by decide)
    rw [cut_words.1, cut_words.2] at h1
    have HSp := Lib.hid h1
    have HC : Hid (∀ w', w' = w1.alloc (.cells ((wordsL.map bs).map Value.string).toArray 9) → Calls Tryd.prog 38 #[.slice (some ⟨w1.heap.size, 0, none⟩) (24 + 1) (24 + 1), .string t] w' fun e w'' => e = .returned (.bool (wordsL.contains t.data.toList)) ∧ w'' = w') := fun w' hw' => by
      have h2 := Tryd.slices_Contains_string w1.heap.size 0 (24 + 1) (24 + 1) (wordsL.map bs) t w' (by decide) (by decide) (row_cells w1 w' wordsL hw')
      rw [List.take_of_length_le (by decide), contains_bs] at h2
      exact h2
    rw [← he] at HC
    clear h1 hm hb1 he
    go_wp2_with fail
    refine HSp.out.mono ?_
    rintro e w2 ⟨rfl, hw2⟩
    have HB2 : Hid (Below w.heap.size w w2) := by rw [hw2]; exact HB1.out.alloc hz1 _
    have HC1 := Lib.hid (HC.out w2 hw2)
    clear hw2 HC HSp
    go_wp2_with fail
    refine HC1.out.mono ?_
    rintro e w3 ⟨rfl, rfl⟩
    go_wp2_with fail
    go_ret
    exact ⟨rfl, HB2.out⟩

/-! a word's length -/
theorem pre_colons (Z : List UInt8) : Lib.hasPrefix Z [58, 58] = true → ∃ T, Z = 58 :: 58 :: T := by
  intro h
  obtain ⟨T, hT⟩ := List.isPrefixOf_iff_prefix.1 h
  exact ⟨T, hT.symm⟩
theorem word_no {R : List UInt8} (h : Lib.hasPrefix (R.drop (nameN R)) [58, 58] = false) : wordN R = nameN R := by
  unfold wordN
  split
  · rename_i c T e
    rw [e] at h
    simp [Lib.hasPrefix, List.isPrefixOf] at h
  · rfl
theorem word_end {R : List UInt8} (h : (R.drop (nameN R)).length ≤ 2) : wordN R = nameN R := by
  unfold wordN
  split
  · rename_i c T e
    rw [e] at h
    simp only [List.length_cons] at h
    omega
  · rfl
theorem word_on {R : List UInt8} {c : UInt8} {T : List UInt8} (h : R.drop (nameN R) = 58 :: 58 :: c :: T) : wordN R = if firstC c then nameN R + 2 + nameN (c :: T) else nameN R := by
  unfold wordN
  rw [h]
  rfl
theorem head_40 (Z : List UInt8) : Lib.hasPrefix Z [40] = decide (Z.head? = some 40) := by
  cases Z with
  | nil => rfl
  | cons c T =>
    rw [Bool.eq_iff_iff]
    simp [Lib.hasPrefix, List.isPrefixOf]
    exact eq_comm

set_option maxRecDepth 100000 in
set_option maxHeartbeats 16000000 in
theorem lexWord_any (D b : Nat) (s : ByteArray) (p l : Nat) (v : Value) (L : List TokT) (w : World) (h : Sc w D b s p l v L) (hp : p < s.size) (hs : s.size ≤ 1000000) (hL : L.length ≤ 1000000000) (hM : MaxOk w) (hMD : 1 < D) (hD : D ≤ w.heap.size) :
    Calls Tryd.prog 19 #[.pointer (some ⟨b, 0, none⟩)] w fun e w' => e = .returned (.tuple #[]) ∧
      (∃ v', Sc w' D b s (p + wordN (s.data.toList.drop p)) l v' (L ++ [((if isWordL ((s.data.toList.drop p).take (wordN (s.data.toList.drop p))) then 6 else if ((s.data.toList.drop p).drop (wordN (s.data.toList.drop p))).head? = some 40 then 2 else 1), (s.data.toList.drop p).take (wordN (s.data.toList.drop p)), 0, l)])) ∧ Below D w w' := by
  obtain ⟨q, hq0⟩ : ∃ q, q = p + wordN (s.data.toList.drop p) := ⟨_, rfl⟩
  obtain ⟨t, ht⟩ : ∃ t, t = (s.data.toList.drop p).take (wordN (s.data.toList.drop p)) := ⟨_, rfl⟩
  have hl : s.size = s.data.toList.length := size_list s
  have hwl := (word_lines (s.data.toList.drop p)).2
  rw [List.length_drop] at hwl
  have hq : q ≤ s.size := by omega
  have htl : t.length = wordN (s.data.toList.drop p) := by rw [ht, List.length_take, List.length_drop]; omega
  have hnd : (s.data.toList.drop p).drop (wordN (s.data.toList.drop p)) = s.data.toList.drop q := by rw [List.drop_drop, hq0]
  rw [hnd, ← hq0, ← ht]
  obtain ⟨kd, hkd⟩ : ∃ kd, kd = (if isWordL t = true then 6 else if (s.data.toList.drop q).head? = some 40 then 2 else 1) := ⟨_, rfl⟩
  rw [← hkd]
  have HKD := Lib.hid hkd
  clear hkd
  obtain ⟨S, hS⟩ : ∃ S, S = bs t := ⟨_, rfl⟩
  have HSt : Hid (bs t = S) := hS.symm
  have hsz : S.size = wordN (s.data.toList.drop p) := by rw [hS, bs_size, htl]
  have hqI : (p : Int) + ((wordN (s.data.toList.drop p) : Nat) : Int) = (q : Int) := by omega
  have hN1 := Lib.hid (name_any D b s p l v L p w h (by omega) hs)
  have HP := Lib.hid (fun q W => Tryd.strings_HasPrefix (s.extract q s.size) ⟨#[58, 58]⟩ W)
  have HW : Hid (∀ W, Below D w W → Calls Tryd.prog 29 #[.string S] W fun e w' => e = .returned (.bool (isWordL t)) ∧ Below W.heap.size W w') := fun W hW => by
    have h1 := Word_any S W (hM.below hW hMD)
    rw [hS] at h1
    rw [hS]
    have e : (bs t).data.toList = t := by simp [bs]
    rw [e] at h1
    exact h1
  have c0 := h.c0
  have c1 := h.c1
  have f1 := h.f 1
  have HS1 := Lib.hid (h.setAt q)
  have HB1 : Hid (Below D w (w.setCell ⟨b, 1, none⟩ (.int .i64 (q : Int)))) := (Below.refl _ _).setCell (p := ⟨b, 1, none⟩) h.lo _
  have HS := Lib.hid h
  have hb : b < w.heap.size := h.lt
  obtain ⟨N, hN⟩ : ∃ N, N = nameN (s.data.toList.drop p) := ⟨_, rfl⟩
  have hNl : p + N ≤ q := by omega
  have hz2 : s.data.toList.drop (p + N) = (s.data.toList.drop p).drop (nameN (s.data.toList.drop p)) := by rw [List.drop_drop, hN]
  have HP1 := Lib.hid (HP.out (p + N))
  rw [ext_drop] at HP1
  obtain ⟨S1, hS1⟩ : ∃ S1, S1 = bs ((s.data.toList.drop p).take (nameN (s.data.toList.drop p))) := ⟨_, rfl⟩
  rw [← hS1] at hN1
  have hsz1 : S1.size = N := by rw [hS1, bs_size, List.length_take, List.length_drop]; omega
  obtain ⟨r, hr⟩ : ∃ r, r = p + N := ⟨_, rfl⟩
  have hrI : (p : Int) + (N : Int) = (r : Int) := by omega
  have hrs : (r : Int) ≤ (s.size : Int) := by omega
  rw [← hr] at HP1 hz2 hNl
  have hpI : (p : Int) ≤ 1000000 := by omega
  have hNI : (N : Int) ≤ 1000000 := by omega
  have hrB : (r : Int) ≤ 1000000 := by omega
  have hWI : ((wordN (s.data.toList.drop p) : Nat) : Int) ≤ 1000000 := by omega
  have hqB : (q : Int) ≤ 1000000 := by omega
  have hqW := wrapN q (by omega)
  have hrW := wrapN r (by omega)
  clear h hM HP
  cases hpre : Lib.hasPrefix (s.data.toList.drop r) [58, 58] with
  | false =>
    have hw := word_no (R := s.data.toList.drop p) (by rw [← hz2]; exact hpre)
    have hSS : S1 = S := by rw [hS1, hS, ht, hw]
    subst hSS
    rw [hpre] at HP1
    have hwN : wordN (s.data.toList.drop p) = N := by rw [hw, hN]
    rw [hwN] at *
    obtain rfl : q = r := by omega
    clear hr hqI hw hpre hz2 hnd hwl hq0 ht hS hS1 hN htl hl
    go_enter Tryd.func19, Tryd.ntmps19
    go_wp2_with fail
    refine hN1.out.mono ?_
    rintro e w1 ⟨rfl, rfl⟩
    go_wp2_with fail
    refine (HP1.out _).mono ?_
    rintro e w1 ⟨rfl, rfl⟩
    go_wp2_with fail
    refine (HW.out _ HB1.out).mono ?_
    rintro e w2 ⟨rfl, hb2⟩
    have HS2 := Lib.hid (HS1.out.below hb2)
    have HB2 := Lib.hid (HB1.out.trans (hb2.mono (Nat.le_trans hD HB1.out.size)))
    have c2 := HS2.out.c2
    clear hb2 HW HS1
    cases hwd : isWordL t with
    | true =>
      go_wp2_with fail
      have hadd := add_any D b s q l v L 6 t 0 l _ HS2.out hL
      rw [HSt.out] at hadd
      refine hadd.mono ?_
      rintro e w3 ⟨rfl, hs3, hb3⟩
      have HS3 := Lib.hid hs3
      have HB3 := Lib.hid (HB2.out.trans hb3)
      clear hs3 hb3
      go_wp2_with fail
      go_end0
      have hk : kd = 6 := by rw [HKD.out, if_pos hwd]
      rw [hk]
      exact ⟨rfl, HS3.out, HB3.out⟩
    | false =>
      go_wp2_with fail
      refine (see_any D b s ⟨#[40]⟩ q l v L _ HS2.out hq).mono ?_
      rintro e w3 ⟨rfl, hb3⟩
      have HS3 := Lib.hid (HS2.out.below hb3)
      have HB3 := Lib.hid (HB2.out.trans (hb3.mono (Nat.le_trans hD HB2.out.size)))
      rw [head_40]
      clear c2
      have c2 := HS3.out.c2
      clear hb3 HS2
      by_cases hh : (s.data.toList.drop q).head? = some 40
      · rw [decide_eq_true hh]
        go_wp2_with fail
        have hadd := add_any D b s q l v L 2 t 0 l _ HS3.out hL
        rw [HSt.out] at hadd
        refine hadd.mono ?_
        rintro e w4 ⟨rfl, hs4, hb4⟩
        have HS4 := Lib.hid hs4
        have HB4 := Lib.hid (HB3.out.trans hb4)
        clear hs4 hb4
        go_wp2_with fail
        go_end0
        have hk : kd = 2 := by rw [HKD.out, if_neg (by rw [hwd]; exact Bool.false_ne_true), if_pos hh]
        rw [hk]
        exact ⟨rfl, HS4.out, HB4.out⟩
      · rw [decide_eq_false hh]
        go_wp2_with fail
        have hadd := add_any D b s q l v L 1 t 0 l _ HS3.out hL
        rw [HSt.out] at hadd
        refine hadd.mono ?_
        rintro e w4 ⟨rfl, hs4, hb4⟩
        have HS4 := Lib.hid hs4
        have HB4 := Lib.hid (HB3.out.trans hb4)
        clear hs4 hb4
        go_wp2_with fail
        go_end0
        have hk : kd = 1 := by rw [HKD.out, if_neg (by rw [hwd]; exact Bool.false_ne_true), if_neg hh]
        rw [hk]
        exact ⟨rfl, HS4.out, HB4.out⟩
  | true =>
    rw [hpre] at HP1
    rcases Nat.lt_or_ge (r + 2) s.size with hlt | hge
    · obtain ⟨T, hT⟩ := pre_colons _ hpre
      obtain ⟨r2, hr2⟩ : ∃ r2, r2 = r + 2 := ⟨_, rfl⟩
      rw [← hr2] at hlt
      have hd2 : s.data.toList.drop r2 = T := by rw [hr2, show r + 2 = r + 1 + 1 by omega, ← List.drop_drop, ← List.drop_drop, hT]; rfl
      have hd3 := drop_byte hlt
      rw [hd2] at hd3
      have hw := word_on (R := s.data.toList.drop p) (c := s[r2]) (T := s.data.toList.drop (r2 + 1)) (by rw [← hz2, hT, hd3])
      rw [← hd3, ← hd2] at hw
      have HF := Lib.hid (first_any s[r2] w)
      have hltI : (r2 : Int) < (s.size : Int) := by omega
      have e2 : (r : Int) + 2 = (r2 : Int) := by omega
      have hrW2 := wrapN r2 (by omega)
      have hN2 := Lib.hid (name_any D b s p l v L r2 w HS.out (by omega) hs)
      have hM2 := (name_lines (s.data.toList.drop r2)).2
      have hcat : (s.data.toList.drop p).take (nameN (s.data.toList.drop p)) ++ ([58, 58] ++ (s.data.toList.drop r2).take (nameN (s.data.toList.drop r2))) = (s.data.toList.drop p).take (nameN (s.data.toList.drop p) + 2 + nameN (s.data.toList.drop r2)) := by
        rw [Nat.add_assoc, List.take_add, ← hz2, hT, hd2, show 2 + nameN T = nameN T + 1 + 1 by omega, List.take_succ_cons, List.take_succ_cons]
        rfl
      generalize hC : s[r2] = c at *
      cases hc : firstC c with
      | false =>
        rw [hc, if_neg Bool.false_ne_true] at hw
        rw [hc] at HF
        have hSS : S1 = S := by rw [hS1, hS, ht, hw]
        subst hSS
        have hwN : wordN (s.data.toList.drop p) = N := by rw [hw, hN]
        rw [hwN] at *
        obtain rfl : q = r := by omega
        clear hr hqI hw hpre hz2 hnd hwl hq0 ht hS hS1 hN htl hl hT hd2 hd3 hN2 hM2 hc hcat hr2
        go_enter Tryd.func19, Tryd.ntmps19
        go_wp2_with fail
        refine hN1.out.mono ?_
        rintro e w1 ⟨rfl, rfl⟩
        go_wp2_with fail
        refine (HP1.out _).mono ?_
        rintro e w1 ⟨rfl, rfl⟩
        go_wp2_with fail
        refine HF.out.mono ?_
        rintro e w1 ⟨rfl, rfl⟩
        go_wp2_with fail
        refine (HW.out _ HB1.out).mono ?_
        rintro e w2 ⟨rfl, hb2⟩
        have HS2 := Lib.hid (HS1.out.below hb2)
        have HB2 := Lib.hid (HB1.out.trans (hb2.mono (Nat.le_trans hD HB1.out.size)))
        have c2 := HS2.out.c2
        clear hb2 HW HS1
        cases hwd : isWordL t with
        | true =>
          go_wp2_with fail
          have hadd := add_any D b s q l v L 6 t 0 l _ HS2.out hL
          rw [HSt.out] at hadd
          refine hadd.mono ?_
          rintro e w3 ⟨rfl, hs3, hb3⟩
          have HS3 := Lib.hid hs3
          have HB3 := Lib.hid (HB2.out.trans hb3)
          clear hs3 hb3
          go_wp2_with fail
          go_end0
          have hk : kd = 6 := by rw [HKD.out, if_pos hwd]
          rw [hk]
          exact ⟨rfl, HS3.out, HB3.out⟩
        | false =>
          go_wp2_with fail
          refine (see_any D b s ⟨#[40]⟩ q l v L _ HS2.out hq).mono ?_
          rintro e w3 ⟨rfl, hb3⟩
          have HS3 := Lib.hid (HS2.out.below hb3)
          have HB3 := Lib.hid (HB2.out.trans (hb3.mono (Nat.le_trans hD HB2.out.size)))
          rw [head_40]
          clear c2
          have c2 := HS3.out.c2
          clear hb3 HS2
          by_cases hh : (s.data.toList.drop q).head? = some 40
          · rw [decide_eq_true hh]
            go_wp2_with fail
            have hadd := add_any D b s q l v L 2 t 0 l _ HS3.out hL
            rw [HSt.out] at hadd
            refine hadd.mono ?_
            rintro e w4 ⟨rfl, hs4, hb4⟩
            have HS4 := Lib.hid hs4
            have HB4 := Lib.hid (HB3.out.trans hb4)
            clear hs4 hb4
            go_wp2_with fail
            go_end0
            have hk : kd = 2 := by rw [HKD.out, if_neg (by rw [hwd]; exact Bool.false_ne_true), if_pos hh]
            rw [hk]
            exact ⟨rfl, HS4.out, HB4.out⟩
          · rw [decide_eq_false hh]
            go_wp2_with fail
            have hadd := add_any D b s q l v L 1 t 0 l _ HS3.out hL
            rw [HSt.out] at hadd
            refine hadd.mono ?_
            rintro e w4 ⟨rfl, hs4, hb4⟩
            have HS4 := Lib.hid hs4
            have HB4 := Lib.hid (HB3.out.trans hb4)
            clear hs4 hb4
            go_wp2_with fail
            go_end0
            have hk : kd = 1 := by rw [HKD.out, if_neg (by rw [hwd]; exact Bool.false_ne_true), if_neg hh]
            rw [hk]
            exact ⟨rfl, HS4.out, HB4.out⟩
      | true =>
        rw [hc, if_pos rfl] at hw
        rw [hc] at HF
        obtain ⟨S2, hS2⟩ : ∃ S2, S2 = bs ((s.data.toList.drop r2).take (nameN (s.data.toList.drop r2))) := ⟨_, rfl⟩
        rw [← hS2] at hN2
        obtain ⟨M, hM⟩ : ∃ M, S2.size = M := ⟨_, rfl⟩
        have hMB : M ≤ 1000000 := by rw [← hM, hS2, bs_size, List.length_take]; rw [List.length_drop] at hM2 ⊢; omega
        have hSS : S1 ++ (⟨#[58, 58]⟩ ++ S2) = S := by
          rw [hS1, hS2, hS, ht, hw, show (⟨#[58, 58]⟩ : ByteArray) = bs [58, 58] from rfl, bs_app, bs_app, hcat]
        clear hr hw hpre hz2 hnd hwl hq0 ht hS hS1 hN htl hl hT hd2 hd3 hc hS2 hM2 hcat hr2
        go_enter Tryd.func19, Tryd.ntmps19
        go_wp2_with fail
        refine hN1.out.mono ?_
        rintro e w1 ⟨rfl, rfl⟩
        go_wp2_with fail
        refine (HP1.out _).mono ?_
        rintro e w1 ⟨rfl, rfl⟩
        go_wp2_with fail
        refine HF.out.mono ?_
        rintro e w1 ⟨rfl, rfl⟩
        go_wp2_with fail
        refine hN2.out.mono ?_
        rintro e w1 ⟨rfl, rfl⟩
        go_wp2_with fail
        refine (HW.out _ HB1.out).mono ?_
        rintro e w2 ⟨rfl, hb2⟩
        have HS2 := Lib.hid (HS1.out.below hb2)
        have HB2 := Lib.hid (HB1.out.trans (hb2.mono (Nat.le_trans hD HB1.out.size)))
        have c2 := HS2.out.c2
        clear hb2 HW HS1
        cases hwd : isWordL t with
        | true =>
          go_wp2_with fail
          have hadd := add_any D b s q l v L 6 t 0 l _ HS2.out hL
          rw [HSt.out] at hadd
          refine hadd.mono ?_
          rintro e w3 ⟨rfl, hs3, hb3⟩
          have HS3 := Lib.hid hs3
          have HB3 := Lib.hid (HB2.out.trans hb3)
          clear hs3 hb3
          go_wp2_with fail
          go_end0
          have hk : kd = 6 := by rw [HKD.out, if_pos hwd]
          rw [hk]
          exact ⟨rfl, HS3.out, HB3.out⟩
        | false =>
          go_wp2_with fail
          refine (see_any D b s ⟨#[40]⟩ q l v L _ HS2.out hq).mono ?_
          rintro e w3 ⟨rfl, hb3⟩
          have HS3 := Lib.hid (HS2.out.below hb3)
          have HB3 := Lib.hid (HB2.out.trans (hb3.mono (Nat.le_trans hD HB2.out.size)))
          rw [head_40]
          clear c2
          have c2 := HS3.out.c2
          clear hb3 HS2
          by_cases hh : (s.data.toList.drop q).head? = some 40
          · rw [decide_eq_true hh]
            go_wp2_with fail
            have hadd := add_any D b s q l v L 2 t 0 l _ HS3.out hL
            rw [HSt.out] at hadd
            refine hadd.mono ?_
            rintro e w4 ⟨rfl, hs4, hb4⟩
            have HS4 := Lib.hid hs4
            have HB4 := Lib.hid (HB3.out.trans hb4)
            clear hs4 hb4
            go_wp2_with fail
            go_end0
            have hk : kd = 2 := by rw [HKD.out, if_neg (by rw [hwd]; exact Bool.false_ne_true), if_pos hh]
            rw [hk]
            exact ⟨rfl, HS4.out, HB4.out⟩
          · rw [decide_eq_false hh]
            go_wp2_with fail
            have hadd := add_any D b s q l v L 1 t 0 l _ HS3.out hL
            rw [HSt.out] at hadd
            refine hadd.mono ?_
            rintro e w4 ⟨rfl, hs4, hb4⟩
            have HS4 := Lib.hid hs4
            have HB4 := Lib.hid (HB3.out.trans hb4)
            clear hs4 hb4
            go_wp2_with fail
            go_end0
            have hk : kd = 1 := by rw [HKD.out, if_neg (by rw [hwd]; exact Bool.false_ne_true), if_neg hh]
            rw [hk]
            exact ⟨rfl, HS4.out, HB4.out⟩
    · have hw := word_end (R := s.data.toList.drop p) (by rw [← hz2, List.length_drop]; omega)
      have hSS : S1 = S := by rw [hS1, hS, ht, hw]
      subst hSS
      have hwN : wordN (s.data.toList.drop p) = N := by rw [hw, hN]
      rw [hwN] at *
      obtain rfl : q = r := by omega
      have hgeI : (s.size : Int) ≤ (q : Int) + 2 := by omega
      have hgeD : decide ((q : Int) + 2 < (s.size : Int)) = false := decide_eq_false (by omega)
      have hgW := wrapN (q + 2) (by omega)
      clear hr hqI hw hpre hz2 hnd hwl hq0 ht hS hS1 hN htl hl hge
      go_enter Tryd.func19, Tryd.ntmps19
      go_wp2_with fail
      refine hN1.out.mono ?_
      rintro e w1 ⟨rfl, rfl⟩
      go_wp2_with fail
      refine (HP1.out _).mono ?_
      rintro e w1 ⟨rfl, rfl⟩
      go_wp2_with fail
      refine (HW.out _ HB1.out).mono ?_
      rintro e w2 ⟨rfl, hb2⟩
      have HS2 := Lib.hid (HS1.out.below hb2)
      have HB2 := Lib.hid (HB1.out.trans (hb2.mono (Nat.le_trans hD HB1.out.size)))
      have c2 := HS2.out.c2
      clear hb2 HW HS1
      cases hwd : isWordL t with
      | true =>
        go_wp2_with fail
        have hadd := add_any D b s q l v L 6 t 0 l _ HS2.out hL
        rw [HSt.out] at hadd
        refine hadd.mono ?_
        rintro e w3 ⟨rfl, hs3, hb3⟩
        have HS3 := Lib.hid hs3
        have HB3 := Lib.hid (HB2.out.trans hb3)
        clear hs3 hb3
        go_wp2_with fail
        go_end0
        have hk : kd = 6 := by rw [HKD.out, if_pos hwd]
        rw [hk]
        exact ⟨rfl, HS3.out, HB3.out⟩
      | false =>
        go_wp2_with fail
        refine (see_any D b s ⟨#[40]⟩ q l v L _ HS2.out hq).mono ?_
        rintro e w3 ⟨rfl, hb3⟩
        have HS3 := Lib.hid (HS2.out.below hb3)
        have HB3 := Lib.hid (HB2.out.trans (hb3.mono (Nat.le_trans hD HB2.out.size)))
        rw [head_40]
        clear c2
        have c2 := HS3.out.c2
        clear hb3 HS2
        by_cases hh : (s.data.toList.drop q).head? = some 40
        · rw [decide_eq_true hh]
          go_wp2_with fail
          have hadd := add_any D b s q l v L 2 t 0 l _ HS3.out hL
          rw [HSt.out] at hadd
          refine hadd.mono ?_
          rintro e w4 ⟨rfl, hs4, hb4⟩
          have HS4 := Lib.hid hs4
          have HB4 := Lib.hid (HB3.out.trans hb4)
          clear hs4 hb4
          go_wp2_with fail
          go_end0
          have hk : kd = 2 := by rw [HKD.out, if_neg (by rw [hwd]; exact Bool.false_ne_true), if_pos hh]
          rw [hk]
          exact ⟨rfl, HS4.out, HB4.out⟩
        · rw [decide_eq_false hh]
          go_wp2_with fail
          have hadd := add_any D b s q l v L 1 t 0 l _ HS3.out hL
          rw [HSt.out] at hadd
          refine hadd.mono ?_
          rintro e w4 ⟨rfl, hs4, hb4⟩
          have HS4 := Lib.hid hs4
          have HB4 := Lib.hid (HB3.out.trans hb4)
          clear hs4 hb4
          go_wp2_with fail
          go_end0
          have hk : kd = 1 := by rw [HKD.out, if_neg (by rw [hwd]; exact Bool.false_ne_true), if_neg hh]
          rw [hk]
          exact ⟨rfl, HS4.out, HB4.out⟩
end Go.Proofs.YtkaelmbgfcehhaaDoor
