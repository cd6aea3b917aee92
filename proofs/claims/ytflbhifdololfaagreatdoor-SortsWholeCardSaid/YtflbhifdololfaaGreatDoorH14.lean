/- thresherlaw07.SortsKeys, walked. -/
import Derived.Test.YtflbhifdololfaaGreatDoorH13
import Derived.Deep.QuietTactic
import Derived.BigQuiet
namespace Go.Proofs.YtflbhifdololfaaGreatDoor
open Go.RowKit
set_option linter.unusedVariables false

theorem cmpB_le : ∀ a b : List UInt8, Lib.compareBytes a b ≤ 0 → a < b ∨ a = b
  | [], [], _ => .inr rfl
  | [], b :: m, _ => .inl (List.nil_lt_cons b m)
  | _ :: _, [], h => absurd h (by show ¬ ((1 : Int) ≤ 0); decide)
  | a :: l, b :: m, h => by
    have ih := cmpB_le l m
    have e : Lib.compareBytes (a :: l) (b :: m) = (if a < b then (-1 : Int) else if b < a then 1 else Lib.compareBytes l m) := rfl
    rw [e] at h
    by_cases h1 : a < b
    · exact .inl (List.cons_lt_cons_iff.2 (.inl h1))
    · rw [if_neg h1] at h
      by_cases h2 : b < a
      · rw [if_pos h2] at h; omega
      · rw [if_neg h2] at h
        have h3 : a = b := UInt8.toNat_inj.1 (by
          have h4 : ¬ a.toNat < b.toNat := fun h => h1 (UInt8.lt_iff_toNat_lt.2 h)
          have h5 : ¬ b.toNat < a.toNat := fun h => h2 (UInt8.lt_iff_toNat_lt.2 h)
          omega)
        subst h3
        rcases ih h with h4 | h4
        · exact .inl (List.cons_lt_cons_iff.2 (.inr ⟨rfl, h4⟩))
        · exact .inr (by rw [h4])
theorem not_gt {a b : ByteArray} (h : Lib.compareBytes a.data.toList b.data.toList ≤ 0) (h1 : (!Op.bytesLess a.toList b.toList) = true) (h2 : (!a.toList == b.toList) = true) : False := by
  rw [Lib.toList_data, Lib.toList_data, Proofs.bytesLess_eq] at h1
  rw [Lib.toList_data, Lib.toList_data] at h2
  rcases cmpB_le _ _ h with h3 | h3
  · rw [decide_eq_true h3] at h1; cases h1
  · rw [h3] at h2; simp at h2
set_option maxHeartbeats 16000000 in
set_option maxRecDepth 100000 in
theorem skeys_any {w : World} {a : Option Addr} {n c : Nat} {L : List En} (hL : ItemsR w a n L) (hn : n ≤ 9223372036854775807) (hOk : ∀ e ∈ L, e.Ok) :
    Calls Tryz.prog 9 #[.slice a n c] w fun e w' => e = .returned (.bool true) ∧ Below w.heap.size w w' := by
  have HF := Lib.hid (fixed7_any w)
  have HL := Lib.hid hL
  have HOk := Lib.hid hOk
  clear hL hOk
  by_cases hbig : 300 < n
  · have hbigI : (300 : Int) < (n : Int) := by omega
    go_enter Tryz.func9, Tryz.ntmps9
    go_wp2_with fail
    refine HF.out.mono ?_
    rintro e w1 ⟨rfl, hb⟩
    have HB := Lib.hid hb
    clear hb HF
    go_wp2_with fail
    go_ret
    exact ⟨rfl, HB.out⟩
  have hbigI : (n : Int) ≤ 300 := by omega
  go_enter Tryz.func9, Tryz.ntmps9
  go_wp2_with fail
  refine HF.out.mono ?_
  rintro e w1 ⟨rfl, hb⟩
  have HB1 := Lib.hid hb
  have HL1 := Lib.hid (HL.out.below hb (Nat.le_refl _))
  clear hb HF
  go_wp2_with fail
  refine (made7_any HL1.out (by omega) (fun e he => (HOk.out e he).bits)).mono ?_
  rintro e w2 ⟨⟨v, rfl, hown⟩, hb2⟩
  obtain ⟨ea, ec, rfl, hE⟩ := EntsR.ofOwn hown HL1.out.1
  have HE := Lib.hid hE
  have HB2 := Lib.hid (HB1.out.trans (hb2.mono HB1.out.size))
  have HN := Lib.hid HL1.out.1
  clear hown hb2 hE HL1 HB1 HL
  have HO := Lib.hid (keys_pre.ord HOk.out)
  have H1 := Lib.hid (Order_by cut_ok (how := s_isa) (conv := ⟨#[37, 46, 54, 103]⟩) (c := ec) HE.out (by omega) (by decide) by_isa HO.out (cmp5_keys _))
  go_wp2_with fail
  refine H1.out.mono ?_
  rintro e w3 ⟨⟨v1, rfl, ho1⟩, hb3⟩
  have hol : (H.order (ltL cKeys false L) n).length = n := H.order_len (ord_of HO.out HN.out)
  have HI1 := Lib.hid (own_len ho1 hol)
  have HE3 := Lib.hid (HE.out.below hb3 (Nat.le_refl _))
  have HB3 := Lib.hid (HB2.out.trans (hb3.mono HB2.out.size))
  have HP := Lib.hid (H.order_ok (ord_of (fl := false) HO.out HN.out))
  obtain ⟨O, hO⟩ : ∃ O, O = H.order (ltL cKeys false L) n := ⟨_, rfl⟩
  rw [← hO] at HI1 HP hol
  have HOl := Lib.hid hol
  clear ho1 hb3 H1 HE HB2 hO hol
  obtain ⟨oa, oc, hv1, hoc⟩ := HI1.out
  subst hv1
  rw [HOl.out] at hoc ⊢
  have HC3 := Lib.hid hoc
  clear hoc HI1
  go_wp2_with fail
  refine (Order_uns ea n ec ⟨#[37, 46, 54, 103]⟩ w3 (by omega)).mono ?_
  rintro e w4 ⟨⟨v2, rfl, ho2⟩, hb4⟩
  have hI2 := own_len ho2 (List.length_range)
  obtain ⟨ra, rc, hv2, hrc⟩ := hI2
  subst hv2
  rw [List.length_range] at hrc ⊢
  have HR4 := Lib.hid hrc
  have HE4 := Lib.hid (HE3.out.below hb4 (Nat.le_refl _))
  have HB4 := Lib.hid (HB3.out.trans (hb4.mono HB3.out.size))
  have hH4 := hb4
  have HK4 := Lib.hid hb4
  clear hrc ho2 hb4 hH4 HE3 HB3
  rcases Nat.eq_zero_or_pos n with hn0 | hn0
  · subst hn0
    go_wp2_with fail
    go_loop [48] (fun v48 => v48 = .int .i64 0) (fun _ => 0)
    case atStart => rfl
    case round =>
      obtain rfl := hrel
      go_wp2_with fail
      go_ret
      exact ⟨rfl, HB4.out⟩
  obtain ⟨og, oo, rfl, hog, hoc⟩ := HC3.out hn0
  obtain ⟨rg, ro, rfl, hrg, hrc⟩ := HR4.out hn0
  obtain ⟨eg, eo, rfl, heg, hec⟩ := HE4.out.2 hn0
  have HOc := Lib.hid hoc
  have HRc := Lib.hid hrc
  have HEc := Lib.hid hec
  clear hoc hrc hec HC3 HR4
  go_wp2_with fail
  go_loopw [48] (fun v48 wr => ∃ k : Nat, v48 = .int .i64 (k : Int) ∧ k ≤ n ∧ Hid (Below w4.heap.size w4 wr)) (fun v48 _ => n - natI v48)
  case atStart => exact ⟨0, rfl, Nat.zero_le _, Below.refl _ _⟩
  case round =>
    obtain ⟨k, rfl, hk, HBr⟩ := hrel
    by_cases hlt : k < n
    · have hltI : (k : Int) < (n : Int) := by omega
      obtain ⟨x, hx⟩ : ∃ x, O[k]? = some x := ⟨_, List.getElem?_eq_getElem (by rw [HOl.out]; exact hlt)⟩
      have hxn : x < n := List.mem_range.1 (HP.out.1.mem_iff.1 (List.mem_of_getElem? hx))
      have hxI : (x : Int) < (n : Int) := by omega
      obtain ⟨ex, hex⟩ : ∃ e, L[x]? = some e := ⟨_, List.getElem?_eq_getElem (by rw [← HN.out]; exact hxn)⟩
      have ck := (HBr.out.cell (p := ⟨rg, ro + k, none⟩) hrg).trans (HRc.out k k (by simp [hlt]))
      have hH4 := HK4.out.size
      have co := ((HK4.out.trans (HBr.out.mono hH4)).cell (p := ⟨og, oo + k, none⟩) hog).trans (HOc.out k x hx)
      have ce := (HBr.out.cell (p := ⟨eg, eo + x * 5 + 0, none⟩) heg).trans (HEc.out x ex hex 0 _ rfl)
      simp only [Nat.add_zero] at ce
      obtain ⟨kx, hkx⟩ : ∃ kx, kx = ex.key := ⟨_, rfl⟩
      rw [← hkx] at ce
      rcases Nat.eq_zero_or_pos k with hk0 | hk0
      · obtain ⟨K, hKk⟩ : ∃ K : Int, K = (k : Int) := ⟨_, rfl⟩
        have hkt : K.toNat = k := by omega
        have c03 : decide (0 < K) = false := by simp; omega
        have hKn : 0 ≤ K := by omega
        have hKl : K < (n : Int) := by omega
        obtain ⟨X, hXx⟩ : ∃ X : Int, X = (x : Int) := ⟨_, rfl⟩
        have hxt : X.toNat = x := by omega
        have c01 : decide (X < 0) = false := by simp; omega
        have c02 : decide ((n : Int) ≤ X) = false := by simp; omega
        rw [← hKk] at ck
        rw [← hkt] at ck co
        rw [← hXx] at co
        rw [← hKk]
        have HKk := Lib.hid hKk
        clear hH4 hx hex hkx hk0 hkt hKk hltI hxt hXx hxI ce
        go_wp2_with fail
        go_big_quiet (fail)
        go_wp2_with fail
        exact ⟨⟨k + 1, by rw [HKk.out]; go_num, by omega, HBr.out.drewN _⟩, by have := HKk.out; simp only [natI]; omega⟩
      · obtain ⟨j, hj⟩ : ∃ j, k = j + 1 := ⟨k - 1, by omega⟩
        obtain ⟨y, hy⟩ : ∃ y, O[j]? = some y := ⟨_, List.getElem?_eq_getElem (by rw [HOl.out]; omega)⟩
        have hyn : y < n := List.mem_range.1 (HP.out.1.mem_iff.1 (List.mem_of_getElem? hy))
        have hyI : (y : Int) < (n : Int) := by omega
        obtain ⟨ey, hey⟩ : ∃ e, L[y]? = some e := ⟨_, List.getElem?_eq_getElem (by rw [← HN.out]; exact hyn)⟩
        have cj := ((HK4.out.trans (HBr.out.mono hH4)).cell (p := ⟨og, oo + j, none⟩) hog).trans (HOc.out j y hy)
        have cy := (HBr.out.cell (p := ⟨eg, eo + y * 5 + 0, none⟩) heg).trans (HEc.out y ey hey 0 _ rfl)
        simp only [Nat.add_zero] at cy
        obtain ⟨ky, hky⟩ : ∃ ky, ky = ey.key := ⟨_, rfl⟩
        rw [← hky] at cy
        have hle : Lib.compareBytes ky.data.toList kx.data.toList ≤ 0 := by
          have hjl : j < O.length := by rw [HOl.out]; omega
          have hkl : k < O.length := by rw [HOl.out]; omega
          have h := List.pairwise_iff_getElem.1 HP.out.2 j k hjl hkl (by omega)
          rw [List.getElem?_eq_getElem hjl] at hy
          rw [List.getElem?_eq_getElem hkl] at hx
          cases hy
          cases hx
          rw [le_iff HO.out hey hex] at h
          have h1 := h.1
          simp only [Bool.false_eq_true, if_false] at h1
          rw [hky, hkx]; exact h1
        have HGT := Lib.hid hle
        have hjn : (j : Int) < (n : Int) := by omega
        have hj1 : (0 : Int) < (k : Int) := by omega
        have hjs : (k : Int) - 1 = (j : Int) := by omega
        have hjw : IntKind.i64.wrap ((k : Int) - 1) = (j : Int) := (IntWalk.i64_in _ (by omega)).trans hjs
        clear hH4 hx hex hkx hy hey hky hle hj hjs
        go_wp2_with fail
        go_quiet (fail)
        go_wp2_with fail
        · exfalso
          rename_i h
          rcases h with (h | h) | ⟨h1, h2⟩
          · omega
          · omega
          · exact not_gt HGT.out h1 h2
        · exact ⟨⟨k + 1, by go_num, by omega, HBr.out.drewN _⟩, by simp only [natI]; omega⟩
    · obtain rfl : k = n := by omega
      have hltI : (k : Int) ≤ (k : Int) := Int.le_refl _
      go_wp2_with fail
      go_ret
      exact ⟨rfl, HB4.out.trans (HBr.out.mono HB4.out.size)⟩
end Go.Proofs.YtflbhifdololfaaGreatDoor
