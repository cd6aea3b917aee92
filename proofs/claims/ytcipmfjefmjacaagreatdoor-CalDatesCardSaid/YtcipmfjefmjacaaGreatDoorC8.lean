/- Package cal: Parse, of six right words. -/
import Derived.Test.YtcipmfjefmjacaaGreatDoorC3
import Derived.Test.YtcipmfjefmjacaaGreatDoorC7
import Derived.Laws.FloatArith
namespace Go.Proofs.YtcipmfjefmjacaaGreatDoor
open Go.RowKit
set_option linter.unusedVariables false

/-- a word that is a number -/
structure Word (s : ByteArray) (v : Int) : Prop where
  pb : floatToIntVal .f64 (prefB s.data.toList) .i64 = some v
  pn : prefN s.data.toList = s.size
  dig : Digits s.data.toList
  len : s.size ≤ 7
  v1 : -1000000 ≤ v
  v2 : v ≤ 1000000
theorem plus_keeps {l : List UInt8} (h : Digits l) : Lib.trimLeftS l [43, 45] = l := by
  unfold Lib.trimLeftS
  cases l with
  | nil => rfl
  | cons c r =>
    have h1 := h c (List.mem_cons_self ..)
    rw [List.dropWhile_cons_of_neg]
    have h43 : c ≠ 43 := by rintro rfl; have := h1.1; revert this; decide
    have h45 : c ≠ 45 := by rintro rfl; have := h1.1; revert this; decide
    simp [h43, h45]

/-- what blank makes of a rune -/
def blankF (x : Int) : Int := if x = 13 ∨ x = 12 ∨ x = 11 ∨ x = 133 ∨ 127 < x then 120 else x
theorem blank_any (x : Nat) (w : World) (hx : x ≤ 1114111) : Calls Tryz.prog 26 #[.int .i32 x] w fun e w' => e = .returned (.int .i32 (blankF x)) ∧ w' = w := by
  obtain ⟨X, hX⟩ : ∃ X : Int, X = (x : Int) := ⟨_, rfl⟩
  rw [← hX]
  have hb : Hid (blankF X = if X = 13 ∨ X = 12 ∨ X = 11 ∨ X = 133 ∨ 127 < X then 120 else X) := rfl
  have hx1 : 0 ≤ X := by omega
  have hx2 : X ≤ 1114111 := by omega
  generalize blankF X = B at *
  clear hX hx
  go_enter Tryz.func26, Tryz.ntmps26
  by_cases h1 : X = 13
  · subst h1
    have hB : B = 120 := by rw [hb.out, if_pos (.inl rfl)]
    subst hB
    clear hb
    go_wp2_with fail
    go_ret
    exact ⟨rfl, rfl⟩
  by_cases h2 : X = 12
  · subst h2
    have hB : B = 120 := by rw [hb.out, if_pos (.inr (.inl rfl))]
    subst hB
    clear hb
    go_wp2_with fail
    go_ret
    exact ⟨rfl, rfl⟩
  by_cases h3 : X = 11
  · subst h3
    have hB : B = 120 := by rw [hb.out, if_pos (.inr (.inr (.inl rfl)))]
    subst hB
    clear hb
    go_wp2_with fail
    go_ret
    exact ⟨rfl, rfl⟩
  by_cases h4 : X = 133
  · subst h4
    have hB : B = 120 := by rw [hb.out, if_pos (.inr (.inr (.inr (.inl rfl))))]
    subst hB
    clear hb
    go_wp2_with fail
    go_ret
    exact ⟨rfl, rfl⟩
  have n1 : (X == 13) = false := beq_eq_false_iff_ne.2 h1
  have n2 : (X == 12) = false := beq_eq_false_iff_ne.2 h2
  have n3 : (X == 11) = false := beq_eq_false_iff_ne.2 h3
  have n4 : (X == 133) = false := beq_eq_false_iff_ne.2 h4
  rcases Int.lt_or_le 127 X with h5 | h5
  · have hB : B = 120 := by rw [hb.out, if_pos (.inr (.inr (.inr (.inr h5))))]
    subst hB
    clear hb h1 h2 h3 h4
    go_wp2_with fail
    go_ret
    exact ⟨rfl, rfl⟩
  · have hB : B = X := by rw [hb.out, if_neg (by omega)]
    subst hB
    clear hb h1 h2 h3 h4
    go_wp2_with fail
    go_ret
    exact ⟨rfl, rfl⟩
theorem blank_gives (w : World) : MapAtRunes Tryz.prog 26 #[] blankF w := by
  intro W x hx hb
  refine (blank_any x W hx).mono ?_
  rintro e w' ⟨rfl, rfl⟩
  exact ⟨rfl, 0, rfl⟩
theorem blankF_ok (x : Nat) (hx : x ≤ 1114111) : 0 ≤ blankF x ∧ blankF x ≤ 2147483647 := by
  unfold blankF
  split <;> omega
theorem Map_blank (s : ByteArray) (w : World) (hs : s.size ≤ 1000) (hT : Tabs w) (hm : Lib.mapD blankF s.data.toList = s.data.toList) :
    Calls Tryz.prog 25 #[.func (.func 26) #[] #[], .string s] w fun e w' => e = .returned (.string s) ∧ Below w.heap.size w w' := by
  have h := Tryz.strings_Map_runes 26 #[] (Go.Proofs.enters_of Tryz.func26 (by kernel_rfl) rfl) blankF s w (by omega) (blank_gives w) blankF_ok hT.u8
  rw [hm] at h
  exact h

theorem TrimLeft_plus (s : ByteArray) (w : World) (hd : Digits s.data.toList) :
    Calls Tryz.prog 29 #[.string s, .string ⟨#[43, 45]⟩] w fun e w' => e = .returned (.string s) ∧ Below w.heap.size w w' := by
  have h := Any.strings_TrimLeft_laid Tryz.lays161 (by kernel_rfl) s ⟨#[43, 45]⟩ w (by decide) (ascii_of_all (by decide))
  rw [show (⟨#[43, 45]⟩ : ByteArray).data.toList = [43, 45] from rfl, plus_keeps hd] at h
  exact h
theorem Trim_word (s : ByteArray) (w : World) (hs : s.size ≤ 7) (hd : Digits s.data.toList) :
    Calls Tryz.prog 28 #[.string s, .string ⟨#[48, 49, 50, 51, 52, 53, 54, 55, 56, 57]⟩] w fun e w' => e = .returned (.string ⟨#[]⟩) ∧ Below w.heap.size w w' := by
  have h := Trim_digs s w (by omega)
  rw [trimS_digits hd] at h
  exact h

set_option maxRecDepth 100000 in
set_option maxHeartbeats 8000000 in
theorem Parse_ok (s s0 s1 s2 s3 s4 s5 : ByteArray) (v0 v1 v2 v3 v4 v5 : Int) (w : World) (hT : Tabs w) (hs : s.size ≤ 1000) (hm : Lib.mapD blankF s.data.toList = s.data.toList)
    (ha : ∀ (j : Nat) b, s.data.toList[j]? = some b → b.toNat < 128) (hf : (Lib.fields s.data.toList).map (fun l => Value.string ⟨l.toArray⟩) = [.string s0, .string s1, .string s2, .string s3, .string s4, .string s5])
    (h0 : Word s0 v0) (h1 : Word s1 v1) (h2 : Word s2 v2) (h3 : Word s3 v3) (h4 : Word s4 v4) (h5 : Word s5 v5)
    (ht1 : -62135596800 ≤ atL v0 v1 v2 v3 v4 v5) (ht2 : atL v0 v1 v2 v3 v4 v5 ≤ 253402300799) :
    Calls Tryz.prog 16 #[.string s] w fun e w' => e = .returned (.int .i64 (atL v0 v1 v2 v3 v4 v5)) ∧ Below w.heap.size w w' := by
  have HM := Lib.hid (Map_blank s w hs hT hm)
  have HFd := Lib.hid (fun W (hW : Tabs W) => Tryz.strings_Fields s W (by omega) ha hW.sp)
  have hl : (Lib.fields s.data.toList).length = 6 := by
    have := congrArg List.length hf
    rw [List.length_map] at this
    exact this
  rw [hl, hf] at HFd
  have HAt := Lib.hid (fun W => At_ok v0 v1 v2 v3 v4 v5 0 0 W h0.v1 h0.v2 h1.v1 h1.v2 h2.v1 h2.v2 h3.v1 h3.v2 h4.v1 h4.v2 h5.v1 h5.v2 ht1 ht2)
  obtain ⟨A, hA⟩ : ∃ A, A = atL v0 v1 v2 v3 v4 v5 := ⟨_, rfl⟩
  rw [← hA] at HAt ⊢
  have HT := Lib.hid hT
  have H0 := Lib.hid h0
  have H1 := Lib.hid h1
  have H2 := Lib.hid h2
  have H3 := Lib.hid h3
  have H4 := Lib.hid h4
  have H5 := Lib.hid h5
  clear hm ha hf hl hA hT h0 h1 h2 h3 h4 h5 ht1 ht2
  go_enter Tryz.func16, Tryz.ntmps16
  go_wp2_with fail
  refine HM.out.mono ?_
  rintro e w1 ⟨rfl, hb1⟩
  have HB1 := Lib.hid hb1
  have hs1 := hb1.size
  have HT1 := Lib.hid (HT.out.below hb1)
  clear hb1 HM
  go_wp2_with fail
  refine (HFd.out w1 HT1.out).mono ?_
  rintro e w2 ⟨rfl, hw2⟩
  clear HFd
  subst hw2
  go_wp2_with fail
  obtain ⟨sF, hsF⟩ : ∃ sF : Nat → ByteArray, sF = fun j => match j with | 0 => s0 | 1 => s1 | 2 => s2 | 3 => s3 | 4 => s4 | _ => s5 := ⟨_, rfl⟩
  obtain ⟨vF, hvF⟩ : ∃ vF : Nat → Int, vF = fun j => match j with | 0 => v0 | 1 => v1 | 2 => v2 | 3 => v3 | 4 => v4 | _ => v5 := ⟨_, rfl⟩
  have HW : Hid (∀ j, j < 6 → Word (sF j) (vF j)) := by
    show ∀ _, _
    intro j hj
    rw [hsF, hvF]
    have hj6 : j = 0 ∨ j = 1 ∨ j = 2 ∨ j = 3 ∨ j = 4 ∨ j = 5 := by omega
    rcases hj6 with rfl | rfl | rfl | rfl | rfl | rfl
    · exact H0.out
    · exact H1.out
    · exact H2.out
    · exact H3.out
    · exact H4.out
    · exact H5.out
  clear H0 H1 H2 H3 H4 H5
  obtain ⟨N, hN⟩ : ∃ N, N = w1.heap.size := ⟨_, rfl⟩
  rw [← hN]
  have hNw : w.heap.size ≤ N := by omega
  go_loopw [19] (fun kv wr => ∃ (k : Nat), kv = .int .i64 k ∧ k ≤ 6 ∧ Hid (∀ j, j < 6 → wr.cell? ⟨N, j, none⟩ = some (.string (sF j))) ∧ Hid (∀ j, j < 6 → wr.cell? ⟨N + 1, j, none⟩ = some (.int .i64 (if j < k then vF j else 0))) ∧ Hid (∀ j, wr.frozen? ⟨N + 1, j, none⟩ = false) ∧ Hid (Below w.heap.size w wr) ∧ N + 2 ≤ wr.heap.size) (fun kv _ => 6 - (intOf kv).toNat)
  case atStart =>
    refine ⟨0, rfl, by decide, ?_, ?_, ?_, ?_, by rw [hN]; simp⟩
    · show ∀ _, _
      intro j hj
      rw [hN, World.cell?_alloc_old _ _ _ (by simp), World.cell?_alloc_new, hsF]
      have hj6 : j = 0 ∨ j = 1 ∨ j = 2 ∨ j = 3 ∨ j = 4 ∨ j = 5 := by omega
      rcases hj6 with rfl | rfl | rfl | rfl | rfl | rfl <;> rfl
    · show ∀ _, _
      intro j hj
      have h := World.cell?_alloc_new (w1.alloc (.cells #[.string s0, .string s1, .string s2, .string s3, .string s4, .string s5] 9)) (#[.int .i64 0, .int .i64 0, .int .i64 0, .int .i64 0, .int .i64 0, .int .i64 0]) 46 j
      rw [World.size_alloc, ← hN] at h
      rw [h, if_neg (Nat.not_lt_zero _)]
      have hj6 : j = 0 ∨ j = 1 ∨ j = 2 ∨ j = 3 ∨ j = 4 ∨ j = 5 := by omega
      rcases hj6 with rfl | rfl | rfl | rfl | rfl | rfl <;> rfl
    · show ∀ _, _
      intro j
      exact World.frozen?_alloc_at _ _ _ _ (by rw [hN]; simp)
    · show Below _ _ _
      exact (HB1.out.alloc hs1 _).alloc (by simp; omega) _
  case round =>
    have HNN := Lib.hid hN
    clear HB1 HT1 hN
    obtain ⟨k, rfl, hk, HC, HV, HFz, HB, hsz⟩ := hrel
    rcases Nat.lt_or_ge k 6 with hlt | hge
    · obtain ⟨x, hx⟩ : ∃ x, x = sF k := ⟨_, rfl⟩
      obtain ⟨v, hv⟩ : ∃ v, v = vF k := ⟨_, rfl⟩
      have hword : Word x v := by rw [hx, hv]; exact HW.out k hlt
      have hxl := hword.len
      have c1 : wr.cell? ⟨N, k, none⟩ = some (.string x) := by rw [hx]; exact HC.out k hlt
      have HP := Lib.hid (fun W => Prefix_any x W (by omega))
      rw [hword.pn] at HP
      have HTL := Lib.hid (fun W => TrimLeft_plus x W hword.dig)
      have HTR := Lib.hid (fun W => Trim_word x W hword.len hword.dig)
      have hcv : ∀ w, (convert 55 3 (.float .f64 (prefB x.data.toList))).run Tryz.prog w = .ok (.int .i64 v) w := fun w => run_convert_float_int w 55 3 .f64 .i64 _ v (by rw [Tryz.underlying55]; rfl) Tryz.underlying3 hword.pb
      have HVk := Lib.hid hv
      generalize prefB x.data.toList = F at *
      clear hx hv hword
      have hxl2 : (x.size : Int) ≤ 7 := by omega
      have hkI : (k : Int) < 6 := by omega
      go_wp2_with fail
      refine (HP.out _).mono ?_
      rintro e w3 ⟨rfl, hb3⟩
      have HB3 := Lib.hid hb3
      have hs3 := hb3.size
      clear hb3 HP
      go_wp2_with fail
      refine (HTL.out _).mono ?_
      rintro e w4 ⟨rfl, hb4⟩
      have HB4 := Lib.hid (HB3.out.trans (hb4.mono hs3))
      have hs4 := hb4.size
      clear hb4 HTL HB3
      go_wp2_with fail
      refine (HTR.out _).mono ?_
      rintro e w5 ⟨rfl, hb5⟩
      have HB5 := Lib.hid (HB4.out.trans (hb5.mono (by omega)))
      have hs5 := hb5.size
      clear hb5 HTR HB4
      have c2 : w5.cell? ⟨N + 1, k, none⟩ = some (.int .i64 0) := by
        rw [HB5.out.cell (p := ⟨N + 1, k, none⟩) (by show N + 1 < _; omega), HV.out k hlt, if_neg (Nat.lt_irrefl k)]
      have c3 : w5.frozen? ⟨N + 1, k, none⟩ = false := by
        rw [HB5.out.frozen (p := ⟨N + 1, k, none⟩) (by show N + 1 < _; omega)]
        exact HFz.out k
      go_wp2_with (simp only [hcv])
      go_roundw
      case rel =>
        refine ⟨k + 1, rfl, hlt, ?_, ?_, ?_, ?_, by simp; omega⟩
        · show ∀ _, _
          intro j hj
          rw [World.cell?_setCell_other _ _ _ _ (by intro h; injection h with h1; omega), HB5.out.cell (p := ⟨N, j, none⟩) (by show N < _; omega)]
          exact HC.out j hj
        · show ∀ _, _
          intro j hj
          rcases Nat.lt_trichotomy j k with hjk | hjk | hjk
          · rw [World.cell?_setCell_other _ _ _ _ (by intro h; injection h with _ h1; omega), HB5.out.cell (p := ⟨N + 1, j, none⟩) (by show N + 1 < _; omega), HV.out j hj, if_pos hjk, if_pos (by omega)]
          · subst hjk
            rw [World.cell?_setCell_same _ _ _ c2, if_pos (by omega), HVk.out]
          · rw [World.cell?_setCell_other _ _ _ _ (by intro h; injection h with _ h1; omega), HB5.out.cell (p := ⟨N + 1, j, none⟩) (by show N + 1 < _; omega), HV.out j hj, if_neg (by omega), if_neg (by omega)]
        · show ∀ _, _
          intro j
          rw [World.frozen?_setCell, HB5.out.frozen (p := ⟨N + 1, j, none⟩) (by show N + 1 < _; omega)]
          exact HFz.out j
        · show Below _ _ _
          exact (HB.out.trans (HB5.out.mono (by omega))).setCell (p := ⟨N + 1, k, none⟩) (by show w.heap.size ≤ N + 1; omega) _
      case measure => simp only [intOf]; omega
    · have hk6 : k = 6 := by omega
      subst hk6
      have a0 : wr.cell? ⟨N + 1, 0, none⟩ = some (.int .i64 v0) := by rw [HV.out 0 (by decide), if_pos (by decide), hvF]; rfl
      have a1 : wr.cell? ⟨N + 1, 1, none⟩ = some (.int .i64 v1) := by rw [HV.out 1 (by decide), if_pos (by decide), hvF]; rfl
      have a2 : wr.cell? ⟨N + 1, 2, none⟩ = some (.int .i64 v2) := by rw [HV.out 2 (by decide), if_pos (by decide), hvF]; rfl
      have a3 : wr.cell? ⟨N + 1, 3, none⟩ = some (.int .i64 v3) := by rw [HV.out 3 (by decide), if_pos (by decide), hvF]; rfl
      have a4 : wr.cell? ⟨N + 1, 4, none⟩ = some (.int .i64 v4) := by rw [HV.out 4 (by decide), if_pos (by decide), hvF]; rfl
      have a5 : wr.cell? ⟨N + 1, 5, none⟩ = some (.int .i64 v5) := by rw [HV.out 5 (by decide), if_pos (by decide), hvF]; rfl
      have hd : dateV v0 v1 v2 v3 v4 v5 0 0 = .agg #[.int .i64 v0, .int .i64 v1, .int .i64 v2, .int .i64 v3, .int .i64 v4, .int .i64 v5, .int .i64 0, .int .i64 0] := rfl
      rw [hd] at HAt
      clear hsF hvF HW HC HV HFz hd
      go_wp2_with fail
      refine (HAt.out _).mono ?_
      rintro e w3 ⟨rfl, hb3⟩
      have HB3 := Lib.hid (HB.out.trans (hb3.mono (by omega)))
      clear hb3 HB HAt
      go_wp2_with fail
      go_ret
      exact ⟨rfl, HB3.out⟩
end Go.Proofs.YtcipmfjefmjacaaGreatDoor
