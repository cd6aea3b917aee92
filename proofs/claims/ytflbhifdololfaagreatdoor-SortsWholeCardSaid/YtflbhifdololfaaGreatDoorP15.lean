/- Package format: sci. -/
import Derived.Test.YtflbhifdololfaaGreatDoorP14
import Derived.Test.YtflbhifdololfaaGreatDoorP5
import Derived.Test.YtflbhifdololfaaGreatDoorShelf
import Derived.Lib.AppendIntMem
namespace Go.Proofs.YtflbhifdololfaaGreatDoor
open Go.RowKit
set_option linter.unusedVariables false

/-- the library's table of powers -/
def PowOk (w : World) : Prop := Lib.TabIs Tryz.prog w "internal/strconv.uint64pow10" .u64 Lib.pow10Tab
theorem PowOk.below {w w' : World} (h : PowOk w) (hb : Below w.heap.size w w') : PowOk w' := Lib.tabBelow_of_tabIs h w' hb
theorem itoa_325 : ((List.range 326).all fun n => decide ((Lib.itoa (n : Int)).length ≤ 10)) = true := by kernel_rfl
theorem itoa_short {n : Nat} (h : n ≤ 325) : (Lib.itoa (n : Int)).length ≤ 10 := by
  have := List.all_eq_true.1 itoa_325 n (List.mem_range.2 (by omega))
  simpa using this

/-- a float with one digit ahead of the point, and a power -/
noncomputable def sciO (b p : Nat) (alt : Bool) : ByteArray :=
  let D : ByteArray := ⟨(sciD b p).toArray⟩
  let s := if 0 < p ∨ alt = true then D.extract 0 1 ++ ⟨#[46]⟩ else D.extract 0 1
  let s := s ++ (D.extract 1 D.size ++ ⟨#[101]⟩)
  let s := if sciE b p < 0 then s ++ ⟨#[45]⟩ else s ++ ⟨#[43]⟩
  let s := if (sciE b p).natAbs < 10 then s ++ ⟨#[48]⟩ else s
  s ++ ⟨(Lib.itoa ((sciE b p).natAbs : Int)).toArray⟩

set_option maxHeartbeats 8000000 in
set_option maxRecDepth 1000000 in
theorem sci_any (b p : Nat) (alt : Bool) (w : World) (hb : b < 18446744073709551616) (hf : fin b = true) (hp : p ≤ 200) (hT : PowOk w) :
    Calls Tryz.prog 83 #[.float .f64 b, .int .i64 p, .bool alt] w fun e w' => e = .returned (.string (sciO b p alt)) ∧ Below w.heap.size w w' := by
  have HS := Lib.hid (fun W => Sci_det b p W hb hf hp)
  have HT := Lib.hid hT
  have hO : sciO b p alt = (let D : ByteArray := ⟨(sciD b p).toArray⟩
    let s := if 0 < p ∨ alt = true then D.extract 0 1 ++ ⟨#[46]⟩ else D.extract 0 1
    let s := s ++ (D.extract 1 D.size ++ ⟨#[101]⟩)
    let s := if sciE b p < 0 then s ++ ⟨#[45]⟩ else s ++ ⟨#[43]⟩
    let s := if (sciE b p).natAbs < 10 then s ++ ⟨#[48]⟩ else s
    s ++ ⟨(Lib.itoa ((sciE b p).natAbs : Int)).toArray⟩) := rfl
  have HO := Lib.hid hO
  clear hO hT
  generalize sciO b p alt = O at *
  obtain ⟨D, hD⟩ : ∃ D : ByteArray, D = ⟨(sciD b p).toArray⟩ := ⟨_, rfl⟩
  rw [← hD] at HS HO
  have hDs : D.size = (sciD b p).length := by rw [hD, sz_list]
  have HDs := Lib.hid hDs
  clear hDs hD
  go_enter Tryz.func83, Tryz.ntmps83
  go_wp2_with fail
  refine (HS.out _).mono ?_
  rintro e w1 ⟨rfl, hok, hb1⟩
  have HB1 := Lib.hid hb1
  have HT1 := Lib.hid (HT.out.below hb1)
  have hz1 := hb1.size
  have h1 := hok.lo
  have h2 := hok.hi
  have h3 : D.size = p + 1 := HDs.out.trans hok.len
  clear hok hb1 HS
  have HI : Hid (∀ (n : Nat) (W : World), n ≤ 325 → PowOk W → Calls Tryz.prog 121 #[.int .i64 (n : Int)] W fun e w' => e = .returned (.string ⟨(Lib.itoa (n : Int)).toArray⟩) ∧ Below W.heap.size W w') := fun n W hn hp => by
    refine (Tryz.strconv_Itoa (n : Int) (by omega) (by omega) W hp).mono ?_
    rintro e w' ⟨rfl, q, os, rfl⟩
    exact ⟨rfl, Lib.below_grow _ _ (Nat.le_refl _) _ _⟩
  have H1 : (1 : Int) ≤ (D.size : Int) := by omega
  have H2 : (D.size : Int) ≤ 201 := by omega
  generalize sciE b p = E at *
  -- CASES
  obtain ⟨H, hH⟩ : ∃ H : ByteArray, D.extract 0 1 = H := ⟨_, rfl⟩
  obtain ⟨R, hR⟩ : ∃ R : ByteArray, D.extract 1 D.size = R := ⟨_, rfl⟩
  have hHs : H.size ≤ 201 := by rw [← hH]; simp; omega
  have hRs : R.size ≤ 201 := by rw [← hR]; simp; omega
  rw [hH, hR] at HO
  clear h3 HDs
  by_cases hd : 0 < p
  · have hpI : (0 : Int) < (p : Int) := by omega
    rw [if_pos (show 0 < p ∨ alt = true from .inl hd)] at HO
    clear hd
    rcases Int.lt_or_le E 0 with hE | hE
    · obtain ⟨n, rfl⟩ : ∃ n : Nat, E = -(n : Int) := ⟨E.natAbs, by omega⟩
      have hn : n ≤ 325 := by omega
      have hn0 : 0 < n := by omega
      rw [if_pos hE, show (-(n : Int)).natAbs = n by omega] at HO
      clear hE h1 h2
      by_cases hs : n < 10
      · have hsm : decide ((n : Int) < 10) = true := by simp; omega
        rw [if_pos hs] at HO
        clear hs
        go_wp2_with fail
        refine (HI.out n _ hn HT1.out).mono ?_
        rintro e w2 ⟨rfl, hb2⟩
        have HB2 := Lib.hid (HB1.out.trans (hb2.mono hz1))
        clear hb2
        obtain ⟨T, hT⟩ : ∃ T : ByteArray, T = ⟨(Lib.itoa (n : Int)).toArray⟩ := ⟨_, rfl⟩
        have hTs : T.size ≤ 10 := by rw [hT, sz_list]; exact itoa_short hn
        rw [← hT] at HO ⊢
        clear hT
        go_wp2_with fail
        go_ret
        rw [HO.out]
        exact ⟨rfl, HB2.out⟩
      · have hsm : decide ((n : Int) < 10) = false := by simp; omega
        rw [if_neg hs] at HO
        clear hs
        go_wp2_with fail
        refine (HI.out n _ hn HT1.out).mono ?_
        rintro e w2 ⟨rfl, hb2⟩
        have HB2 := Lib.hid (HB1.out.trans (hb2.mono hz1))
        clear hb2
        obtain ⟨T, hT⟩ : ∃ T : ByteArray, T = ⟨(Lib.itoa (n : Int)).toArray⟩ := ⟨_, rfl⟩
        have hTs : T.size ≤ 10 := by rw [hT, sz_list]; exact itoa_short hn
        rw [← hT] at HO ⊢
        clear hT
        go_wp2_with fail
        go_ret
        rw [HO.out]
        exact ⟨rfl, HB2.out⟩
    · obtain ⟨n, rfl⟩ : ∃ n : Nat, E = (n : Int) := ⟨E.toNat, by omega⟩
      have hn : n ≤ 325 := by omega
      have hneg : decide ((n : Int) < 0) = false := by simp
      rw [if_neg (show ¬ ((n : Int) < 0) by omega), show ((n : Int)).natAbs = n by omega] at HO
      clear hE h1 h2
      by_cases hs : n < 10
      · have hsm : decide ((n : Int) < 10) = true := by simp; omega
        rw [if_pos hs] at HO
        clear hs
        go_wp2_with fail
        refine (HI.out n _ hn HT1.out).mono ?_
        rintro e w2 ⟨rfl, hb2⟩
        have HB2 := Lib.hid (HB1.out.trans (hb2.mono hz1))
        clear hb2
        obtain ⟨T, hT⟩ : ∃ T : ByteArray, T = ⟨(Lib.itoa (n : Int)).toArray⟩ := ⟨_, rfl⟩
        have hTs : T.size ≤ 10 := by rw [hT, sz_list]; exact itoa_short hn
        rw [← hT] at HO ⊢
        clear hT
        go_wp2_with fail
        go_ret
        rw [HO.out]
        exact ⟨rfl, HB2.out⟩
      · have hsm : decide ((n : Int) < 10) = false := by simp; omega
        rw [if_neg hs] at HO
        clear hs
        go_wp2_with fail
        refine (HI.out n _ hn HT1.out).mono ?_
        rintro e w2 ⟨rfl, hb2⟩
        have HB2 := Lib.hid (HB1.out.trans (hb2.mono hz1))
        clear hb2
        obtain ⟨T, hT⟩ : ∃ T : ByteArray, T = ⟨(Lib.itoa (n : Int)).toArray⟩ := ⟨_, rfl⟩
        have hTs : T.size ≤ 10 := by rw [hT, sz_list]; exact itoa_short hn
        rw [← hT] at HO ⊢
        clear hT
        go_wp2_with fail
        go_ret
        rw [HO.out]
        exact ⟨rfl, HB2.out⟩
  · obtain rfl : p = 0 := by omega
    clear hd
    cases alt
    · rw [if_neg (show ¬ (0 < 0 ∨ false = true) by simp)] at HO
      rcases Int.lt_or_le E 0 with hE | hE
      · obtain ⟨n, rfl⟩ : ∃ n : Nat, E = -(n : Int) := ⟨E.natAbs, by omega⟩
        have hn : n ≤ 325 := by omega
        have hn0 : 0 < n := by omega
        rw [if_pos hE, show (-(n : Int)).natAbs = n by omega] at HO
        clear hE h1 h2
        by_cases hs : n < 10
        · have hsm : decide ((n : Int) < 10) = true := by simp; omega
          rw [if_pos hs] at HO
          clear hs
          go_wp2_with fail
          refine (HI.out n _ hn HT1.out).mono ?_
          rintro e w2 ⟨rfl, hb2⟩
          have HB2 := Lib.hid (HB1.out.trans (hb2.mono hz1))
          clear hb2
          obtain ⟨T, hT⟩ : ∃ T : ByteArray, T = ⟨(Lib.itoa (n : Int)).toArray⟩ := ⟨_, rfl⟩
          have hTs : T.size ≤ 10 := by rw [hT, sz_list]; exact itoa_short hn
          rw [← hT] at HO ⊢
          clear hT
          go_wp2_with fail
          go_ret
          rw [HO.out]
          exact ⟨rfl, HB2.out⟩
        · have hsm : decide ((n : Int) < 10) = false := by simp; omega
          rw [if_neg hs] at HO
          clear hs
          go_wp2_with fail
          refine (HI.out n _ hn HT1.out).mono ?_
          rintro e w2 ⟨rfl, hb2⟩
          have HB2 := Lib.hid (HB1.out.trans (hb2.mono hz1))
          clear hb2
          obtain ⟨T, hT⟩ : ∃ T : ByteArray, T = ⟨(Lib.itoa (n : Int)).toArray⟩ := ⟨_, rfl⟩
          have hTs : T.size ≤ 10 := by rw [hT, sz_list]; exact itoa_short hn
          rw [← hT] at HO ⊢
          clear hT
          go_wp2_with fail
          go_ret
          rw [HO.out]
          exact ⟨rfl, HB2.out⟩
      · obtain ⟨n, rfl⟩ : ∃ n : Nat, E = (n : Int) := ⟨E.toNat, by omega⟩
        have hn : n ≤ 325 := by omega
        have hneg : decide ((n : Int) < 0) = false := by simp
        rw [if_neg (show ¬ ((n : Int) < 0) by omega), show ((n : Int)).natAbs = n by omega] at HO
        clear hE h1 h2
        by_cases hs : n < 10
        · have hsm : decide ((n : Int) < 10) = true := by simp; omega
          rw [if_pos hs] at HO
          clear hs
          go_wp2_with fail
          refine (HI.out n _ hn HT1.out).mono ?_
          rintro e w2 ⟨rfl, hb2⟩
          have HB2 := Lib.hid (HB1.out.trans (hb2.mono hz1))
          clear hb2
          obtain ⟨T, hT⟩ : ∃ T : ByteArray, T = ⟨(Lib.itoa (n : Int)).toArray⟩ := ⟨_, rfl⟩
          have hTs : T.size ≤ 10 := by rw [hT, sz_list]; exact itoa_short hn
          rw [← hT] at HO ⊢
          clear hT
          go_wp2_with fail
          go_ret
          rw [HO.out]
          exact ⟨rfl, HB2.out⟩
        · have hsm : decide ((n : Int) < 10) = false := by simp; omega
          rw [if_neg hs] at HO
          clear hs
          go_wp2_with fail
          refine (HI.out n _ hn HT1.out).mono ?_
          rintro e w2 ⟨rfl, hb2⟩
          have HB2 := Lib.hid (HB1.out.trans (hb2.mono hz1))
          clear hb2
          obtain ⟨T, hT⟩ : ∃ T : ByteArray, T = ⟨(Lib.itoa (n : Int)).toArray⟩ := ⟨_, rfl⟩
          have hTs : T.size ≤ 10 := by rw [hT, sz_list]; exact itoa_short hn
          rw [← hT] at HO ⊢
          clear hT
          go_wp2_with fail
          go_ret
          rw [HO.out]
          exact ⟨rfl, HB2.out⟩
    · rw [if_pos (show 0 < 0 ∨ true = true from .inr rfl)] at HO
      rcases Int.lt_or_le E 0 with hE | hE
      · obtain ⟨n, rfl⟩ : ∃ n : Nat, E = -(n : Int) := ⟨E.natAbs, by omega⟩
        have hn : n ≤ 325 := by omega
        have hn0 : 0 < n := by omega
        rw [if_pos hE, show (-(n : Int)).natAbs = n by omega] at HO
        clear hE h1 h2
        by_cases hs : n < 10
        · have hsm : decide ((n : Int) < 10) = true := by simp; omega
          rw [if_pos hs] at HO
          clear hs
          go_wp2_with fail
          refine (HI.out n _ hn HT1.out).mono ?_
          rintro e w2 ⟨rfl, hb2⟩
          have HB2 := Lib.hid (HB1.out.trans (hb2.mono hz1))
          clear hb2
          obtain ⟨T, hT⟩ : ∃ T : ByteArray, T = ⟨(Lib.itoa (n : Int)).toArray⟩ := ⟨_, rfl⟩
          have hTs : T.size ≤ 10 := by rw [hT, sz_list]; exact itoa_short hn
          rw [← hT] at HO ⊢
          clear hT
          go_wp2_with fail
          go_ret
          rw [HO.out]
          exact ⟨rfl, HB2.out⟩
        · have hsm : decide ((n : Int) < 10) = false := by simp; omega
          rw [if_neg hs] at HO
          clear hs
          go_wp2_with fail
          refine (HI.out n _ hn HT1.out).mono ?_
          rintro e w2 ⟨rfl, hb2⟩
          have HB2 := Lib.hid (HB1.out.trans (hb2.mono hz1))
          clear hb2
          obtain ⟨T, hT⟩ : ∃ T : ByteArray, T = ⟨(Lib.itoa (n : Int)).toArray⟩ := ⟨_, rfl⟩
          have hTs : T.size ≤ 10 := by rw [hT, sz_list]; exact itoa_short hn
          rw [← hT] at HO ⊢
          clear hT
          go_wp2_with fail
          go_ret
          rw [HO.out]
          exact ⟨rfl, HB2.out⟩
      · obtain ⟨n, rfl⟩ : ∃ n : Nat, E = (n : Int) := ⟨E.toNat, by omega⟩
        have hn : n ≤ 325 := by omega
        have hneg : decide ((n : Int) < 0) = false := by simp
        rw [if_neg (show ¬ ((n : Int) < 0) by omega), show ((n : Int)).natAbs = n by omega] at HO
        clear hE h1 h2
        by_cases hs : n < 10
        · have hsm : decide ((n : Int) < 10) = true := by simp; omega
          rw [if_pos hs] at HO
          clear hs
          go_wp2_with fail
          refine (HI.out n _ hn HT1.out).mono ?_
          rintro e w2 ⟨rfl, hb2⟩
          have HB2 := Lib.hid (HB1.out.trans (hb2.mono hz1))
          clear hb2
          obtain ⟨T, hT⟩ : ∃ T : ByteArray, T = ⟨(Lib.itoa (n : Int)).toArray⟩ := ⟨_, rfl⟩
          have hTs : T.size ≤ 10 := by rw [hT, sz_list]; exact itoa_short hn
          rw [← hT] at HO ⊢
          clear hT
          go_wp2_with fail
          go_ret
          rw [HO.out]
          exact ⟨rfl, HB2.out⟩
        · have hsm : decide ((n : Int) < 10) = false := by simp; omega
          rw [if_neg hs] at HO
          clear hs
          go_wp2_with fail
          refine (HI.out n _ hn HT1.out).mono ?_
          rintro e w2 ⟨rfl, hb2⟩
          have HB2 := Lib.hid (HB1.out.trans (hb2.mono hz1))
          clear hb2
          obtain ⟨T, hT⟩ : ∃ T : ByteArray, T = ⟨(Lib.itoa (n : Int)).toArray⟩ := ⟨_, rfl⟩
          have hTs : T.size ≤ 10 := by rw [hT, sz_list]; exact itoa_short hn
          rw [← hT] at HO ⊢
          clear hT
          go_wp2_with fail
          go_ret
          rw [HO.out]
          exact ⟨rfl, HB2.out⟩
end Go.Proofs.YtflbhifdololfaaGreatDoor
