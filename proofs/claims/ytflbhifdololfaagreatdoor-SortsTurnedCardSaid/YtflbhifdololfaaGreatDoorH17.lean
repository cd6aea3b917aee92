/- thresherlaw07.SortsTurned, walked. -/
import Derived.Test.YtflbhifdololfaaGreatDoorH16
namespace Go.Proofs.YtflbhifdololfaaGreatDoor
open Go.RowKit
set_option linter.unusedVariables false

def keyAt (L : List En) (i : Nat) : ByteArray := (L[i]?.map (·.key)).getD ⟨#[]⟩
theorem keyAt_of {L : List En} {i : Nat} {x : En} (h : L[i]? = some x) : keyAt L i = x.key := by unfold keyAt; rw [h]; rfl
theorem unlike_of {L : List En} {n : Nat} (hn : n = L.length) (h : ∀ i j, j < i → i < n → keyAt L i ≠ keyAt L j) : Unlike L := by
  intro i j x y hij hx hy
  have hj := (List.getElem?_eq_some_iff.1 hy).1
  have := h j i hij (by omega)
  rw [keyAt_of hx, keyAt_of hy] at this
  exact this.symm
theorem ba_toList {a b : ByteArray} (h : a ≠ b) : (a.toList == b.toList) = false := by
  rw [Lib.toList_data, Lib.toList_data]
  refine beq_eq_false_iff_ne.2 fun e => h ?_
  cases a; cases b
  simpa using e
theorem by_c (nums fl : Bool) : byO ((if nums then kn1 else kn0) ++ (if fl then desc else asc)) = (some (if nums then .numbers else .keys), fl) := by
  cases nums <;> cases fl <;> kernel_rfl
theorem size_c (nums fl : Bool) : ((if nums then kn1 else kn0) ++ (if fl then desc else asc)).size ≤ 9223372036854775807 := by
  cases nums <;> cases fl <;> exact of_decide_eq_true (by kernel_rfl)
/-- both orders of entries with unlike keys -/
theorem both {w : World} {a : Option Addr} {n c : Nat} {L : List En} (nums fl : Bool) (hL : EntsR w a n L) (hn : n ≤ 800000) (hOk : ∀ e ∈ L, e.Ok) :
    Calls Tryz.prog 27 #[.slice a n c, .string ((if nums then kn1 else kn0) ++ (if fl then desc else asc)), .string ⟨#[]⟩] w fun e w' => (∃ v, e = .returned (.tuple #[v, .int .i64 0]) ∧ w'.ownsRow w.heap.size 3 1 v n (cellsH (H.order (ltL (if nums then cNums else cKeys) fl L) n))) ∧ Below w.heap.size w w' := by
  have hb := by_c nums fl
  cases nums
  · exact Order_by cut_ok hL hn (size_c false fl) hb (keys_pre.ord hOk) (cmp5_keys _)
  · exact Order_by cut_ok hL hn (size_c true fl) hb (nums_pre.ord hOk) (cmp5_nums _ hOk)
theorem cmp_ord (nums : Bool) {L : List En} (hOk : ∀ e ∈ L, e.Ok) : CmpOrd (if nums then cNums else cKeys) L := by
  cases nums
  · exact keys_pre.ord hOk
  · exact nums_pre.ord hOk
theorem cmp_ne (nums : Bool) (x y : En) (h : x.key ≠ y.key) : (if nums then cNums else cKeys) x y ≠ 0 := by
  cases nums
  · exact keys_ne x y h
  · exact nums_ne x y h
set_option maxHeartbeats 16000000 in
set_option maxRecDepth 100000 in
theorem turned_any {w : World} {a : Option Addr} {n c : Nat} {L : List En} (nums : Bool) (hL : ItemsR w a n L) (hn : n ≤ 9223372036854775807) (hOk : ∀ e ∈ L, e.Ok) :
    Calls Tryz.prog 8 #[.slice a n c, .bool nums] w fun e w' => e = .returned (.bool true) ∧ Below w.heap.size w w' := by
  have HF := Lib.hid (fixed7_any w)
  have HL := Lib.hid hL
  have HOk := Lib.hid hOk
  clear hL hOk
  by_cases hbig : 300 < n
  · have hbigI : (300 : Int) < (n : Int) := by omega
    go_enter Tryz.func8, Tryz.ntmps8
    go_wp2_with fail
    refine HF.out.mono ?_
    rintro e w1 ⟨rfl, hb⟩
    have HB := Lib.hid hb
    clear hb HF
    go_wp2_with fail
    go_ret
    exact ⟨rfl, HB.out⟩
  have hbigI : (n : Int) ≤ 300 := by omega
  go_enter Tryz.func8, Tryz.ntmps8
  go_wp2_with fail
  refine HF.out.mono ?_
  rintro e w1 ⟨rfl, hb⟩
  have HB1 := Lib.hid hb
  have HL1 := Lib.hid (HL.out.below hb (Nat.le_refl _))
  clear hb HF
  go_wp2_with fail
  refine (made7_any HL1.out (by omega) (fun e he => (HOk.out e he).bits)).mono ?_
  rintro e w2 ⟨⟨v, rfl, hown⟩, hb2⟩
  obtain ⟨ea, ec, rfl, hE⟩ := EntsR.ofOwn hown HL1.out.1
  have HE := Lib.hid hE
  have HB2 := Lib.hid (HB1.out.trans (hb2.mono HB1.out.size))
  have HN := Lib.hid HL1.out.1
  clear hown hb2 hE HL1 HB1 HL
  obtain ⟨eg, eo, hge⟩ : ∃ g o, 0 < n → ea = some ⟨g, o, none⟩ ∧ g < w2.heap.size ∧ ∀ (j : Nat) e, L[j]? = some e → ∀ (i : Nat) u, e.cells[i]? = some u → w2.cell? ⟨g, o + j * 5 + i, none⟩ = some u := by
    rcases Nat.eq_zero_or_pos n with h | h
    · exact ⟨0, 0, fun h2 => by omega⟩
    · obtain ⟨g, o, x⟩ := HE.out.2 h
      exact ⟨g, o, fun _ => x⟩
  have HGe := Lib.hid hge
  clear hge
  have tail : ∀ (W : World) (act : Act), True := fun _ _ => trivial
  clear tail
  rcases Nat.eq_zero_or_pos n with hn0 | hn0
  · subst hn0
    clear HGe
    go_wp2_with fail
    go_loop [23] (fun v23 => v23 = .int .i64 0) (fun _ => 0)
    case atStart => rfl
    case round =>
      obtain rfl := hrel
      cases nums
      · have HO := Lib.hid (cmp_ord false HOk.out)
        simp only [if_true, if_false, Bool.false_eq_true] at HO
        have H1 := Lib.hid (both (c := ec) false false HE.out (by omega) HOk.out)
        simp only [if_true, if_false, Bool.false_eq_true, kn0, asc] at H1
        have o1 : (H.order (ltL cKeys false L) 0).length = 0 := H.order_len (ord_of HO.out HN.out)
        have o2 : (H.order (ltL cKeys true L) 0).length = 0 := H.order_len (ord_of HO.out HN.out)
        have O1 := Lib.hid o1
        have O2 := Lib.hid o2
        clear o1 o2
        go_wp2_with fail
        refine H1.out.mono ?_
        rintro e w3 ⟨⟨v1, rfl, ho1⟩, hb3⟩
        obtain ⟨oa, oc, hv1, _⟩ := own_len ho1 O1.out
        subst hv1
        rw [O1.out]
        have HB3 := Lib.hid (HB2.out.trans (hb3.mono HB2.out.size))
        have HE3 := Lib.hid (HE.out.below hb3 (Nat.le_refl _))
        clear ho1 hb3 H1
        have H2 := Lib.hid (both (c := ec) false true HE3.out (by omega) HOk.out)
        simp only [if_true, if_false, Bool.false_eq_true, kn0, desc] at H2
        go_wp2_with fail
        refine H2.out.mono ?_
        rintro e w4 ⟨⟨v2, rfl, ho2⟩, hb4⟩
        obtain ⟨ra, rc, hv2, _⟩ := own_len ho2 O2.out
        subst hv2
        rw [O2.out]
        have HB4 := Lib.hid (HB3.out.trans (hb4.mono HB3.out.size))
        clear ho2 hb4 H2 HB3 HE3
        go_wp2_with fail
        go_loop [80] (fun v80 => v80 = .int .i64 0) (fun _ => 0)
        case atStart => rfl
        case round =>
          obtain rfl := hrel
          go_wp2_with fail
          go_ret
          exact ⟨rfl, HB4.out⟩
      · have HO := Lib.hid (cmp_ord true HOk.out)
        simp only [if_true, if_false, Bool.false_eq_true] at HO
        have H1 := Lib.hid (both (c := ec) true false HE.out (by omega) HOk.out)
        simp only [if_true, if_false, Bool.false_eq_true, kn1, asc] at H1
        have o1 : (H.order (ltL cNums false L) 0).length = 0 := H.order_len (ord_of HO.out HN.out)
        have o2 : (H.order (ltL cNums true L) 0).length = 0 := H.order_len (ord_of HO.out HN.out)
        have O1 := Lib.hid o1
        have O2 := Lib.hid o2
        clear o1 o2
        go_wp2_with fail
        refine H1.out.mono ?_
        rintro e w3 ⟨⟨v1, rfl, ho1⟩, hb3⟩
        obtain ⟨oa, oc, hv1, _⟩ := own_len ho1 O1.out
        subst hv1
        rw [O1.out]
        have HB3 := Lib.hid (HB2.out.trans (hb3.mono HB2.out.size))
        have HE3 := Lib.hid (HE.out.below hb3 (Nat.le_refl _))
        clear ho1 hb3 H1
        have H2 := Lib.hid (both (c := ec) true true HE3.out (by omega) HOk.out)
        simp only [if_true, if_false, Bool.false_eq_true, kn1, desc] at H2
        go_wp2_with fail
        refine H2.out.mono ?_
        rintro e w4 ⟨⟨v2, rfl, ho2⟩, hb4⟩
        obtain ⟨ra, rc, hv2, _⟩ := own_len ho2 O2.out
        subst hv2
        rw [O2.out]
        have HB4 := Lib.hid (HB3.out.trans (hb4.mono HB3.out.size))
        clear ho2 hb4 H2 HB3 HE3
        go_wp2_with fail
        go_loop [80] (fun v80 => v80 = .int .i64 0) (fun _ => 0)
        case atStart => rfl
        case round =>
          obtain rfl := hrel
          go_wp2_with fail
          go_ret
          exact ⟨rfl, HB4.out⟩
  obtain ⟨rfl, heg, hec⟩ := HGe.out hn0
  have HEc := Lib.hid hec
  clear hec HGe
  go_wp2_with fail
  go_loopw [23] (fun v23 wr => ∃ k : Nat, v23 = .int .i64 (k : Int) ∧ k ≤ n ∧ Hid (Below w2.heap.size w2 wr) ∧ Hid (∀ i j, j < i → i < k → keyAt L i ≠ keyAt L j)) (fun v23 _ => n - natI v23)
  case atStart => exact ⟨0, rfl, Nat.zero_le _, Below.refl _ _, fun i j _ h => absurd h (by omega)⟩
  case round =>
    obtain ⟨k, rfl, hk, HBr, HU⟩ := hrel
    obtain ⟨wo, hwo⟩ : ∃ wo : World, wo = wr := ⟨_, rfl⟩
    subst hwo
    by_cases hlt : k < n
    · have hltI : (k : Int) < (n : Int) := by omega
      obtain ⟨x, hx⟩ : ∃ x, L[k]? = some x := ⟨_, List.getElem?_eq_getElem (by rw [← HN.out]; exact hlt)⟩
      have HX := Lib.hid hx
      clear hx
      go_wp2_with fail
      go_loopw [7] (fun v7 wr2 => ∃ m : Nat, v7 = .int .i64 (m : Int) ∧ m ≤ k ∧ Hid (Below w2.heap.size w2 wr2) ∧ Hid (∀ j, j < m → keyAt L k ≠ keyAt L j)) (fun v7 _ => k - natI v7)
      case atStart => exact ⟨0, rfl, Nat.zero_le _, HBr, fun j h => absurd h (by omega)⟩
      case round =>
        obtain ⟨m, rfl, hm, HB3, HU2⟩ := hrel
        by_cases hmk : m < k
        · have hmkI : (m : Int) < (k : Int) := by omega
          have hmn : (m : Int) < (n : Int) := by omega
          obtain ⟨y, hy⟩ : ∃ y, L[m]? = some y := ⟨_, List.getElem?_eq_getElem (by rw [← HN.out]; omega)⟩
          have cx := (HB3.out.cell (p := ⟨eg, eo + k * 5 + 0, none⟩) heg).trans (HEc.out k x HX.out 0 _ rfl)
          have cy := (HB3.out.cell (p := ⟨eg, eo + m * 5 + 0, none⟩) heg).trans (HEc.out m y hy 0 _ rfl)
          simp only [Nat.add_zero] at cx cy
          have kx := keyAt_of HX.out
          have ky := keyAt_of hy
          obtain ⟨bx, hbx⟩ : ∃ b, b = x.key := ⟨_, rfl⟩
          obtain ⟨by', hby⟩ : ∃ b, b = y.key := ⟨_, rfl⟩
          rw [← hbx] at cx kx
          rw [← hby] at cy ky
          have KX := Lib.hid kx
          have KY := Lib.hid ky
          clear hy kx ky hbx hby
          by_cases he : bx = by'
          · subst he
            have hee : (bx.toList == bx.toList) = true := by simp
            go_wp2_with fail
            go_big_quiet (fail)
            go_wp2_with fail
            go_ret
            exact ⟨rfl, HB2.out.trans ((HB3.out.drewN _).mono HB2.out.size)⟩
          · have hee := ba_toList he
            have HNe : Hid (∀ j, j < m + 1 → keyAt L k ≠ keyAt L j) := by
              intro j hj
              rcases Nat.lt_or_ge j m with h | h
              · exact HU2.out j h
              · obtain rfl : j = m := by omega
                rw [KX.out, KY.out]; exact he
            clear he
            go_wp2_with fail
            go_big_quiet (fail)
            go_wp2_with fail
            go_roundw
            case rel => exact ⟨m + 1, by go_num, by omega, HB3.out.drewN _, HNe⟩
            case measure => simp only [natI]; omega
        · obtain rfl : m = k := by omega
          have hmkI : (m : Int) ≤ (m : Int) := Int.le_refl _
          have HUk : Hid (∀ i j, j < i → i < m + 1 → keyAt L i ≠ keyAt L j) := by
            intro i j hji hi
            rcases Nat.lt_or_ge i m with h | h
            · exact HU.out i j hji h
            · obtain rfl : i = m := by omega
              exact HU2.out j hji
          go_wp2_with fail
          go_roundw
          case rel => exact ⟨m + 1, by go_num, by omega, HB3, HUk⟩
          case measure => simp only [natI]; omega
    · obtain rfl : k = n := by omega
      have hltI : (k : Int) ≤ (k : Int) := Int.le_refl _
      cases nums
      · have HO := Lib.hid (cmp_ord false HOk.out)
        simp only [if_true, if_false, Bool.false_eq_true] at HO
        have HT := Lib.hid (turned7 (n := k) HO.out HN.out (fun x _ y _ h => by have := cmp_ne false x y h; simpa using this) (unlike_of HN.out HU.out))
        have HEw := Lib.hid (HE.out.below HBr.out (Nat.le_refl _))
        have H1 := Lib.hid (both (c := ec) false false HEw.out (by omega) HOk.out)
        simp only [if_true, if_false, Bool.false_eq_true, kn0, asc] at H1
        have HBw := Lib.hid (HB2.out.trans (HBr.out.mono HB2.out.size))
        have hol : (H.order (ltL cKeys false L) k).length = k := H.order_len (ord_of HO.out HN.out)
        have HP := Lib.hid (H.order_ok (ord_of (fl := false) HO.out HN.out))
        obtain ⟨O, hO⟩ : ∃ O, O = H.order (ltL cKeys false L) k := ⟨_, rfl⟩
        rw [← hO] at H1 HP hol HT
        have HOl := Lib.hid hol
        clear hO hol
        go_wp2_with fail
        refine H1.out.mono ?_
        rintro e w3 ⟨⟨v1, rfl, ho1⟩, hb3⟩
        obtain ⟨oa, oc, hv1, hoc⟩ := own_len ho1 HOl.out
        subst hv1
        rw [HOl.out] at hoc ⊢
        have HC3 := Lib.hid hoc
        have HB3 := Lib.hid (HBw.out.trans (hb3.mono HBw.out.size))
        have HE3 := Lib.hid (HEw.out.below hb3 (Nat.le_refl _))
        clear ho1 hb3 hoc H1 HEw HBw
        have H2 := Lib.hid (both (c := ec) false true HE3.out (by omega) HOk.out)
        simp only [if_true, if_false, Bool.false_eq_true, kn0, desc] at H2
        rw [HT.out] at H2
        go_wp2_with fail
        refine H2.out.mono ?_
        rintro e w4 ⟨⟨v2, rfl, ho2⟩, hb4⟩
        have hrl : O.reverse.length = k := by rw [List.length_reverse, HOl.out]
        obtain ⟨ra, rc, hv2, hrc⟩ := own_len ho2 hrl
        subst hv2
        rw [hrl] at hrc ⊢
        have HR4 := Lib.hid hrc
        have HB4 := Lib.hid (HB3.out.trans (hb4.mono HB3.out.size))
        have HK4 := Lib.hid hb4
        clear ho2 hb4 hrl hrc H2 HB3 HE3
        obtain ⟨og, oo, rfl, hog, hoc⟩ := HC3.out (by omega)
        obtain ⟨rg, ro, rfl, hrg, hrc⟩ := HR4.out (by omega)
        have HOc := Lib.hid hoc
        have HRc := Lib.hid hrc
        clear hoc hrc HC3 HR4
        go_wp2_with fail
        go_loopw [80] (fun v80 wr => ∃ i : Nat, v80 = .int .i64 (i : Int) ∧ i ≤ k ∧ Hid (Below w4.heap.size w4 wr)) (fun v80 _ => k - natI v80)
        case atStart => exact ⟨0, rfl, Nat.zero_le _, Below.refl _ _⟩
        case round =>
          obtain ⟨i, rfl, hi, HBi⟩ := hrel
          by_cases hil : i < k
          · have hilI : (i : Int) < (k : Int) := by omega
            obtain ⟨x, hx⟩ : ∃ x, O[i]? = some x := ⟨_, List.getElem?_eq_getElem (by rw [HOl.out]; exact hil)⟩
            obtain ⟨q, hq⟩ : ∃ q, q = k - 1 - i := ⟨_, rfl⟩
            have hxr : O.reverse[q]? = some x := by
              rw [List.getElem?_reverse (by rw [HOl.out]; omega), HOl.out, hq, show k - 1 - (k - 1 - i) = i by omega]; exact hx
            have hH4 := HK4.out.size
            have co := ((HK4.out.trans (HBi.out.mono hH4)).cell (p := ⟨og, oo + i, none⟩) hog).trans (HOc.out i x hx)
            have cr := (HBi.out.cell (p := ⟨rg, ro + q, none⟩) hrg).trans (HRc.out q x hxr)
            have h1w : IntKind.i64.wrap ((k : Int) - 1) = (k : Int) - 1 := IntWalk.i64_in _ (by omega)
            have h2w : IntKind.i64.wrap ((k : Int) - 1 - (i : Int)) = (q : Int) := (IntWalk.i64_in _ (by omega)).trans (by omega)
            have hqk : (q : Int) < (k : Int) := by omega
            clear hx hxr hH4 hq
            go_wp2_with fail
            go_big_quiet (fail)
            go_wp2_with fail
            go_roundw
            case rel => exact ⟨i + 1, by go_num, by omega, HBi.out.drewN _⟩
            case measure => simp only [natI]; omega
          · obtain rfl : i = k := by omega
            have hilI : (i : Int) ≤ (i : Int) := Int.le_refl _
            go_wp2_with fail
            go_ret
            exact ⟨rfl, HB4.out.trans (HBi.out.mono HB4.out.size)⟩
      · have HO := Lib.hid (cmp_ord true HOk.out)
        simp only [if_true, if_false, Bool.false_eq_true] at HO
        have HT := Lib.hid (turned7 (n := k) HO.out HN.out (fun x _ y _ h => by have := cmp_ne true x y h; simpa using this) (unlike_of HN.out HU.out))
        have HEw := Lib.hid (HE.out.below HBr.out (Nat.le_refl _))
        have H1 := Lib.hid (both (c := ec) true false HEw.out (by omega) HOk.out)
        simp only [if_true, if_false, Bool.false_eq_true, kn1, asc] at H1
        have HBw := Lib.hid (HB2.out.trans (HBr.out.mono HB2.out.size))
        have hol : (H.order (ltL cNums false L) k).length = k := H.order_len (ord_of HO.out HN.out)
        have HP := Lib.hid (H.order_ok (ord_of (fl := false) HO.out HN.out))
        obtain ⟨O, hO⟩ : ∃ O, O = H.order (ltL cNums false L) k := ⟨_, rfl⟩
        rw [← hO] at H1 HP hol HT
        have HOl := Lib.hid hol
        clear hO hol
        go_wp2_with fail
        refine H1.out.mono ?_
        rintro e w3 ⟨⟨v1, rfl, ho1⟩, hb3⟩
        obtain ⟨oa, oc, hv1, hoc⟩ := own_len ho1 HOl.out
        subst hv1
        rw [HOl.out] at hoc ⊢
        have HC3 := Lib.hid hoc
        have HB3 := Lib.hid (HBw.out.trans (hb3.mono HBw.out.size))
        have HE3 := Lib.hid (HEw.out.below hb3 (Nat.le_refl _))
        clear ho1 hb3 hoc H1 HEw HBw
        have H2 := Lib.hid (both (c := ec) true true HE3.out (by omega) HOk.out)
        simp only [if_true, if_false, Bool.false_eq_true, kn1, desc] at H2
        rw [HT.out] at H2
        go_wp2_with fail
        refine H2.out.mono ?_
        rintro e w4 ⟨⟨v2, rfl, ho2⟩, hb4⟩
        have hrl : O.reverse.length = k := by rw [List.length_reverse, HOl.out]
        obtain ⟨ra, rc, hv2, hrc⟩ := own_len ho2 hrl
        subst hv2
        rw [hrl] at hrc ⊢
        have HR4 := Lib.hid hrc
        have HB4 := Lib.hid (HB3.out.trans (hb4.mono HB3.out.size))
        have HK4 := Lib.hid hb4
        clear ho2 hb4 hrl hrc H2 HB3 HE3
        obtain ⟨og, oo, rfl, hog, hoc⟩ := HC3.out (by omega)
        obtain ⟨rg, ro, rfl, hrg, hrc⟩ := HR4.out (by omega)
        have HOc := Lib.hid hoc
        have HRc := Lib.hid hrc
        clear hoc hrc HC3 HR4
        go_wp2_with fail
        go_loopw [80] (fun v80 wr => ∃ i : Nat, v80 = .int .i64 (i : Int) ∧ i ≤ k ∧ Hid (Below w4.heap.size w4 wr)) (fun v80 _ => k - natI v80)
        case atStart => exact ⟨0, rfl, Nat.zero_le _, Below.refl _ _⟩
        case round =>
          obtain ⟨i, rfl, hi, HBi⟩ := hrel
          by_cases hil : i < k
          · have hilI : (i : Int) < (k : Int) := by omega
            obtain ⟨x, hx⟩ : ∃ x, O[i]? = some x := ⟨_, List.getElem?_eq_getElem (by rw [HOl.out]; exact hil)⟩
            obtain ⟨q, hq⟩ : ∃ q, q = k - 1 - i := ⟨_, rfl⟩
            have hxr : O.reverse[q]? = some x := by
              rw [List.getElem?_reverse (by rw [HOl.out]; omega), HOl.out, hq, show k - 1 - (k - 1 - i) = i by omega]; exact hx
            have hH4 := HK4.out.size
            have co := ((HK4.out.trans (HBi.out.mono hH4)).cell (p := ⟨og, oo + i, none⟩) hog).trans (HOc.out i x hx)
            have cr := (HBi.out.cell (p := ⟨rg, ro + q, none⟩) hrg).trans (HRc.out q x hxr)
            have h1w : IntKind.i64.wrap ((k : Int) - 1) = (k : Int) - 1 := IntWalk.i64_in _ (by omega)
            have h2w : IntKind.i64.wrap ((k : Int) - 1 - (i : Int)) = (q : Int) := (IntWalk.i64_in _ (by omega)).trans (by omega)
            have hqk : (q : Int) < (k : Int) := by omega
            clear hx hxr hH4 hq
            go_wp2_with fail
            go_big_quiet (fail)
            go_wp2_with fail
            go_roundw
            case rel => exact ⟨i + 1, by go_num, by omega, HBi.out.drewN _⟩
            case measure => simp only [natI]; omega
          · obtain rfl : i = k := by omega
            have hilI : (i : Int) ≤ (i : Int) := Int.le_refl _
            go_wp2_with fail
            go_ret
            exact ⟨rfl, HB4.out.trans (HBi.out.mono HB4.out.size)⟩
end Go.Proofs.YtflbhifdololfaaGreatDoor
