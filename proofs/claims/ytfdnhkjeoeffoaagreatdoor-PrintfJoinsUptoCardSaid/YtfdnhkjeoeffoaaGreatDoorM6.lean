/- Several texts in one (P15, P16, P17, P18, P19, P22, I3, W0, W1, U1, U2, G3). -/
import Derived.Test.YtfdnhkjeoeffoaaGreatDoorM5
import Derived.Test.YtfdnhkjeoeffoaaGreatDoorShelf
import Derived.Lib.AppendIntMem
import Derived.Lib.IndexLaws
import Derived.Laws.FloatArith
import Derived.Test.YtfdnhkjeoeffoaaGreatDoorM1
import Derived.Shelf.Unicode.DecodeSlow
import Derived.RangeFuncNested
import Derived.RangeFuncBound
import Derived.RangeFuncCalls
import Derived.RangeFuncLeaves
import Derived.OwnWalkIn
import Derived.TacticsInMore
import Derived.LoopNIn
import Derived.LoopIn
import Derived.WalkKit
import Derived.Shelf.Abstract
import Derived.BigRegion
section
/- Package format: sci. -/
namespace Go.Proofs.YtfdnhkjeoeffoaaGreatDoor
open Go.RowKit
set_option linter.unusedVariables false
/-- the library's table of powers -/
def PowOk (w : World) : Prop := Lib.TabIs Tryz.prog w "internal/strconv.uint64pow10" .u64 Lib.pow10Tab
theorem PowOk.below {w w' : World} (h : PowOk w) (hb : Below w.heap.size w w') : PowOk w' := Lib.tabBelow_of_tabIs h w' hb
theorem itoa_325 : ((List.range 326).all fun n => decide ((Lib.itoa (n : Int)).length ≤ 10)) = true := by kernel_rfl
theorem itoa_short {n : Nat} (h : n ≤ 325) : (Lib.itoa (n : Int)).length ≤ 10 := by
 have := List.all_eq_true.1 itoa_325 n (List.mem_range.2 (by omega))
 simpa using this
/-- a float with one digit ahead of the point, and a power -/
noncomputable def sciO (b p : Nat) (alt : Bool) : ByteArray :=
 let D : ByteArray := ⟨(sciD b p).toArray⟩
 let s := if 0 < p ∨ alt = true then D.extract 0 1 ++ ⟨#[46]⟩ else D.extract 0 1
 let s := s ++ (D.extract 1 D.size ++ ⟨#[101]⟩)
 let s := if sciE b p < 0 then s ++ ⟨#[45]⟩ else s ++ ⟨#[43]⟩
 let s := if (sciE b p).natAbs < 10 then s ++ ⟨#[48]⟩ else s
 s ++ ⟨(Lib.itoa ((sciE b p).natAbs : Int)).toArray⟩
set_option maxHeartbeats 8000000 in
set_option maxRecDepth 1000000 in
theorem sci_any (b p : Nat) (alt : Bool) (w : World) (hb : b < 18446744073709551616) (hf : fin b = true) (hp : p ≤ 200) (hT : PowOk w) :
 Calls Tryz.prog 131 #[.float .f64 b, .int .i64 p, .bool alt] w fun e w' => e = .returned (.string (sciO b p alt)) ∧ Below w.heap.size w w' := by
 have HS := Lib.hid (fun W => Sci_det b p W hb hf hp)
 have HT := Lib.hid hT
 have hO : sciO b p alt = (let D : ByteArray := ⟨(sciD b p).toArray⟩
  let s := if 0 < p ∨ alt = true then D.extract 0 1 ++ ⟨#[46]⟩ else D.extract 0 1
  let s := s ++ (D.extract 1 D.size ++ ⟨#[101]⟩)
  let s := if sciE b p < 0 then s ++ ⟨#[45]⟩ else s ++ ⟨#[43]⟩
  let s := if (sciE b p).natAbs < 10 then s ++ ⟨#[48]⟩ else s
  s ++ ⟨(Lib.itoa ((sciE b p).natAbs : Int)).toArray⟩) := rfl
 have HO := Lib.hid hO
 clear hO hT
 generalize sciO b p alt = O at *
 obtain ⟨D, hD⟩ : ∃ D : ByteArray, D = ⟨(sciD b p).toArray⟩ := ⟨_, rfl⟩
 rw [← hD] at HS HO
 have hDs : D.size = (sciD b p).length := by rw [hD, sz_list]
 have HDs := Lib.hid hDs
 clear hDs hD
 go_enter Tryz.func131, Tryz.ntmps131
 go_wp2_with fail
 refine (HS.out _).mono ?_
 rintro e w1 ⟨rfl, hok, hb1⟩
 have HB1 := Lib.hid hb1
 have HT1 := Lib.hid (HT.out.below hb1)
 have hz1 := hb1.size
 have h1 := hok.lo
 have h2 := hok.hi
 have h3 : D.size = p + 1 := HDs.out.trans hok.len
 clear hok hb1 HS
 have HI : Hid (∀ (n : Nat) (W : World), n ≤ 325 → PowOk W → Calls Tryz.prog 196 #[.int .i64 (n : Int)] W fun e w' => e = .returned (.string ⟨(Lib.itoa (n : Int)).toArray⟩) ∧ Below W.heap.size W w') := fun n W hn hp => by
  refine (Tryz.strconv_Itoa (n : Int) (by omega) (by omega) W hp).mono ?_
  rintro e w' ⟨rfl, q, os, rfl⟩
  exact ⟨rfl, Lib.below_grow _ _ (Nat.le_refl _) _ _⟩
 have H1 : (1 : Int) ≤ (D.size : Int) := by omega
 have H2 : (D.size : Int) ≤ 201 := by omega
 generalize sciE b p = E at *
 -- CASES
 obtain ⟨H, hH⟩ : ∃ H : ByteArray, D.extract 0 1 = H := ⟨_, rfl⟩
 obtain ⟨R, hR⟩ : ∃ R : ByteArray, D.extract 1 D.size = R := ⟨_, rfl⟩
 have hHs : H.size ≤ 201 := by rw [← hH]; simp; omega
 have hRs : R.size ≤ 201 := by rw [← hR]; simp; omega
 rw [hH, hR] at HO
 clear h3 HDs
 by_cases hd : 0 < p
 ·have hpI : (0 : Int) < (p : Int) := by omega
  rw [if_pos (show 0 < p ∨ alt = true from .inl hd)] at HO
  clear hd
  rcases Int.lt_or_le E 0 with hE | hE
  ·obtain ⟨n, rfl⟩ : ∃ n : Nat, E = -(n : Int) := ⟨E.natAbs, by omega⟩
   have hn : n ≤ 325 := by omega
   have hn0 : 0 < n := by omega
   rw [if_pos hE, show (-(n : Int)).natAbs = n by omega] at HO
   clear hE h1 h2
   by_cases hs : n < 10
   ·have hsm : decide ((n : Int) < 10) = true := by simp; omega
    rw [if_pos hs] at HO
    clear hs
    go_wp2_with fail
    refine (HI.out n _ hn HT1.out).mono ?_
    rintro e w2 ⟨rfl, hb2⟩
    have HB2 := Lib.hid (HB1.out.trans (hb2.mono hz1))
    clear hb2
    obtain ⟨T, hT⟩ : ∃ T : ByteArray, T = ⟨(Lib.itoa (n : Int)).toArray⟩ := ⟨_, rfl⟩
    have hTs : T.size ≤ 10 := by rw [hT, sz_list]; exact itoa_short hn
    rw [← hT] at HO ⊢
    clear hT
    go_wp2_with fail
    go_ret
    rw [HO.out]
    exact ⟨rfl, HB2.out⟩
   ·have hsm : decide ((n : Int) < 10) = false := by simp; omega
    rw [if_neg hs] at HO
    clear hs
    go_wp2_with fail
    refine (HI.out n _ hn HT1.out).mono ?_
    rintro e w2 ⟨rfl, hb2⟩
    have HB2 := Lib.hid (HB1.out.trans (hb2.mono hz1))
    clear hb2
    obtain ⟨T, hT⟩ : ∃ T : ByteArray, T = ⟨(Lib.itoa (n : Int)).toArray⟩ := ⟨_, rfl⟩
    have hTs : T.size ≤ 10 := by rw [hT, sz_list]; exact itoa_short hn
    rw [← hT] at HO ⊢
    clear hT
    go_wp2_with fail
    go_ret
    rw [HO.out]
    exact ⟨rfl, HB2.out⟩
  ·obtain ⟨n, rfl⟩ : ∃ n : Nat, E = (n : Int) := ⟨E.toNat, by omega⟩
   have hn : n ≤ 325 := by omega
   have hneg : decide ((n : Int) < 0) = false := by simp
   rw [if_neg (show ¬ ((n : Int) < 0) by omega), show ((n : Int)).natAbs = n by omega] at HO
   clear hE h1 h2
   by_cases hs : n < 10
   ·have hsm : decide ((n : Int) < 10) = true := by simp; omega
    rw [if_pos hs] at HO
    clear hs
    go_wp2_with fail
    refine (HI.out n _ hn HT1.out).mono ?_
    rintro e w2 ⟨rfl, hb2⟩
    have HB2 := Lib.hid (HB1.out.trans (hb2.mono hz1))
    clear hb2
    obtain ⟨T, hT⟩ : ∃ T : ByteArray, T = ⟨(Lib.itoa (n : Int)).toArray⟩ := ⟨_, rfl⟩
    have hTs : T.size ≤ 10 := by rw [hT, sz_list]; exact itoa_short hn
    rw [← hT] at HO ⊢
    clear hT
    go_wp2_with fail
    go_ret
    rw [HO.out]
    exact ⟨rfl, HB2.out⟩
   ·have hsm : decide ((n : Int) < 10) = false := by simp; omega
    rw [if_neg hs] at HO
    clear hs
    go_wp2_with fail
    refine (HI.out n _ hn HT1.out).mono ?_
    rintro e w2 ⟨rfl, hb2⟩
    have HB2 := Lib.hid (HB1.out.trans (hb2.mono hz1))
    clear hb2
    obtain ⟨T, hT⟩ : ∃ T : ByteArray, T = ⟨(Lib.itoa (n : Int)).toArray⟩ := ⟨_, rfl⟩
    have hTs : T.size ≤ 10 := by rw [hT, sz_list]; exact itoa_short hn
    rw [← hT] at HO ⊢
    clear hT
    go_wp2_with fail
    go_ret
    rw [HO.out]
    exact ⟨rfl, HB2.out⟩
 ·obtain rfl : p = 0 := by omega
  clear hd
  cases alt
  ·rw [if_neg (show ¬ (0 < 0 ∨ false = true) by simp)] at HO
   rcases Int.lt_or_le E 0 with hE | hE
   ·obtain ⟨n, rfl⟩ : ∃ n : Nat, E = -(n : Int) := ⟨E.natAbs, by omega⟩
    have hn : n ≤ 325 := by omega
    have hn0 : 0 < n := by omega
    rw [if_pos hE, show (-(n : Int)).natAbs = n by omega] at HO
    clear hE h1 h2
    by_cases hs : n < 10
    ·have hsm : decide ((n : Int) < 10) = true := by simp; omega
     rw [if_pos hs] at HO
     clear hs
     go_wp2_with fail
     refine (HI.out n _ hn HT1.out).mono ?_
     rintro e w2 ⟨rfl, hb2⟩
     have HB2 := Lib.hid (HB1.out.trans (hb2.mono hz1))
     clear hb2
     obtain ⟨T, hT⟩ : ∃ T : ByteArray, T = ⟨(Lib.itoa (n : Int)).toArray⟩ := ⟨_, rfl⟩
     have hTs : T.size ≤ 10 := by rw [hT, sz_list]; exact itoa_short hn
     rw [← hT] at HO ⊢
     clear hT
     go_wp2_with fail
     go_ret
     rw [HO.out]
     exact ⟨rfl, HB2.out⟩
    ·have hsm : decide ((n : Int) < 10) = false := by simp; omega
     rw [if_neg hs] at HO
     clear hs
     go_wp2_with fail
     refine (HI.out n _ hn HT1.out).mono ?_
     rintro e w2 ⟨rfl, hb2⟩
     have HB2 := Lib.hid (HB1.out.trans (hb2.mono hz1))
     clear hb2
     obtain ⟨T, hT⟩ : ∃ T : ByteArray, T = ⟨(Lib.itoa (n : Int)).toArray⟩ := ⟨_, rfl⟩
     have hTs : T.size ≤ 10 := by rw [hT, sz_list]; exact itoa_short hn
     rw [← hT] at HO ⊢
     clear hT
     go_wp2_with fail
     go_ret
     rw [HO.out]
     exact ⟨rfl, HB2.out⟩
   ·obtain ⟨n, rfl⟩ : ∃ n : Nat, E = (n : Int) := ⟨E.toNat, by omega⟩
    have hn : n ≤ 325 := by omega
    have hneg : decide ((n : Int) < 0) = false := by simp
    rw [if_neg (show ¬ ((n : Int) < 0) by omega), show ((n : Int)).natAbs = n by omega] at HO
    clear hE h1 h2
    by_cases hs : n < 10
    ·have hsm : decide ((n : Int) < 10) = true := by simp; omega
     rw [if_pos hs] at HO
     clear hs
     go_wp2_with fail
     refine (HI.out n _ hn HT1.out).mono ?_
     rintro e w2 ⟨rfl, hb2⟩
     have HB2 := Lib.hid (HB1.out.trans (hb2.mono hz1))
     clear hb2
     obtain ⟨T, hT⟩ : ∃ T : ByteArray, T = ⟨(Lib.itoa (n : Int)).toArray⟩ := ⟨_, rfl⟩
     have hTs : T.size ≤ 10 := by rw [hT, sz_list]; exact itoa_short hn
     rw [← hT] at HO ⊢
     clear hT
     go_wp2_with fail
     go_ret
     rw [HO.out]
     exact ⟨rfl, HB2.out⟩
    ·have hsm : decide ((n : Int) < 10) = false := by simp; omega
     rw [if_neg hs] at HO
     clear hs
     go_wp2_with fail
     refine (HI.out n _ hn HT1.out).mono ?_
     rintro e w2 ⟨rfl, hb2⟩
     have HB2 := Lib.hid (HB1.out.trans (hb2.mono hz1))
     clear hb2
     obtain ⟨T, hT⟩ : ∃ T : ByteArray, T = ⟨(Lib.itoa (n : Int)).toArray⟩ := ⟨_, rfl⟩
     have hTs : T.size ≤ 10 := by rw [hT, sz_list]; exact itoa_short hn
     rw [← hT] at HO ⊢
     clear hT
     go_wp2_with fail
     go_ret
     rw [HO.out]
     exact ⟨rfl, HB2.out⟩
  ·rw [if_pos (show 0 < 0 ∨ true = true from .inr rfl)] at HO
   rcases Int.lt_or_le E 0 with hE | hE
   ·obtain ⟨n, rfl⟩ : ∃ n : Nat, E = -(n : Int) := ⟨E.natAbs, by omega⟩
    have hn : n ≤ 325 := by omega
    have hn0 : 0 < n := by omega
    rw [if_pos hE, show (-(n : Int)).natAbs = n by omega] at HO
    clear hE h1 h2
    by_cases hs : n < 10
    ·have hsm : decide ((n : Int) < 10) = true := by simp; omega
     rw [if_pos hs] at HO
     clear hs
     go_wp2_with fail
     refine (HI.out n _ hn HT1.out).mono ?_
     rintro e w2 ⟨rfl, hb2⟩
     have HB2 := Lib.hid (HB1.out.trans (hb2.mono hz1))
     clear hb2
     obtain ⟨T, hT⟩ : ∃ T : ByteArray, T = ⟨(Lib.itoa (n : Int)).toArray⟩ := ⟨_, rfl⟩
     have hTs : T.size ≤ 10 := by rw [hT, sz_list]; exact itoa_short hn
     rw [← hT] at HO ⊢
     clear hT
     go_wp2_with fail
     go_ret
     rw [HO.out]
     exact ⟨rfl, HB2.out⟩
    ·have hsm : decide ((n : Int) < 10) = false := by simp; omega
     rw [if_neg hs] at HO
     clear hs
     go_wp2_with fail
     refine (HI.out n _ hn HT1.out).mono ?_
     rintro e w2 ⟨rfl, hb2⟩
     have HB2 := Lib.hid (HB1.out.trans (hb2.mono hz1))
     clear hb2
     obtain ⟨T, hT⟩ : ∃ T : ByteArray, T = ⟨(Lib.itoa (n : Int)).toArray⟩ := ⟨_, rfl⟩
     have hTs : T.size ≤ 10 := by rw [hT, sz_list]; exact itoa_short hn
     rw [← hT] at HO ⊢
     clear hT
     go_wp2_with fail
     go_ret
     rw [HO.out]
     exact ⟨rfl, HB2.out⟩
   ·obtain ⟨n, rfl⟩ : ∃ n : Nat, E = (n : Int) := ⟨E.toNat, by omega⟩
    have hn : n ≤ 325 := by omega
    have hneg : decide ((n : Int) < 0) = false := by simp
    rw [if_neg (show ¬ ((n : Int) < 0) by omega), show ((n : Int)).natAbs = n by omega] at HO
    clear hE h1 h2
    by_cases hs : n < 10
    ·have hsm : decide ((n : Int) < 10) = true := by simp; omega
     rw [if_pos hs] at HO
     clear hs
     go_wp2_with fail
     refine (HI.out n _ hn HT1.out).mono ?_
     rintro e w2 ⟨rfl, hb2⟩
     have HB2 := Lib.hid (HB1.out.trans (hb2.mono hz1))
     clear hb2
     obtain ⟨T, hT⟩ : ∃ T : ByteArray, T = ⟨(Lib.itoa (n : Int)).toArray⟩ := ⟨_, rfl⟩
     have hTs : T.size ≤ 10 := by rw [hT, sz_list]; exact itoa_short hn
     rw [← hT] at HO ⊢
     clear hT
     go_wp2_with fail
     go_ret
     rw [HO.out]
     exact ⟨rfl, HB2.out⟩
    ·have hsm : decide ((n : Int) < 10) = false := by simp; omega
     rw [if_neg hs] at HO
     clear hs
     go_wp2_with fail
     refine (HI.out n _ hn HT1.out).mono ?_
     rintro e w2 ⟨rfl, hb2⟩
     have HB2 := Lib.hid (HB1.out.trans (hb2.mono hz1))
     clear hb2
     obtain ⟨T, hT⟩ : ∃ T : ByteArray, T = ⟨(Lib.itoa (n : Int)).toArray⟩ := ⟨_, rfl⟩
     have hTs : T.size ≤ 10 := by rw [hT, sz_list]; exact itoa_short hn
     rw [← hT] at HO ⊢
     clear hT
     go_wp2_with fail
     go_ret
     rw [HO.out]
     exact ⟨rfl, HB2.out⟩
end Go.Proofs.YtfdnhkjeoeffoaaGreatDoor
end

section
/- Package format: general. -/
namespace Go.Proofs.YtfdnhkjeoeffoaaGreatDoor
open Go.RowKit
set_option linter.unusedVariables false
theorem fixedL_len (l : List UInt8) (p : Nat) : (fixedL l p).length ≤ l.length + p + 2 := by
 unfold fixedL
 split
 ·split
  ·simp; omega
  ·simp; omega
 ·split
  ·simp; omega
  ·show l.length ≤ _
   omega
theorem ix_of_mem {l : List UInt8} {c : UInt8} (h : c ∈ l) : ∃ o : Nat, Lib.indexByte l c = (o : Int) ∧ o < l.length := by
 have h1 := Lib.indexByte_ge l c
 by_cases h2 : Lib.indexByte l c = -1
 ·obtain ⟨k, hk, hc⟩ := List.mem_iff_getElem.1 h
  exact absurd (by rw [List.getElem?_eq_getElem hk, hc]) (Lib.indexByte_none h2 k)
 ·obtain ⟨o, ho⟩ : ∃ o : Nat, Lib.indexByte l c = (o : Int) := ⟨(Lib.indexByte l c).toNat, by omega⟩
  refine ⟨o, ho, ?_⟩
  have h3 := (Lib.indexByte_some ho).1
  exact (List.getElem?_eq_some_iff.1 h3).1
theorem sciO_facts {b p : Nat} {alt : Bool} (h : SciOk b p) (hp : p ≤ 200) : (sciO b p alt).size ≤ 1000 ∧ (101 : UInt8) ∈ (sciO b p alt).data.toList := by
 have hl := h.len
 have h1 := h.lo
 have h2 := h.hi
 have hT := itoa_short (n := (sciE b p).natAbs) (by omega)
 constructor
 ·rw [sz_list]
  unfold sciO
  dsimp only
  split <;> split <;> split <;> simp <;> omega
 ·unfold sciO
  dsimp only
  split <;> split <;> split <;> simp
/-- a float without needless noughts, of p + 1 digits -/
noncomputable def genB (b p : Nat) : Bool := decide (sciE b p < -4) || decide ((p : Int) + 1 ≤ sciE b p)
noncomputable def genX (b p : Nat) : ByteArray := sciO b p true
noncomputable def genI (b p : Nat) : Nat := (Lib.indexByte (genX b p).data.toList 101).toNat
noncomputable def genF (b p : Nat) : ByteArray := ⟨(fixT b ((p : Int) - sciE b p).toNat).toArray⟩
noncomputable def genH (b p : Nat) : ByteArray :=
 if genB b p then (genX b p).extract 0 (genI b p) else if 0 ≤ Lib.indexByte (genF b p).data.toList 46 then genF b p else genF b p ++ ⟨#[46]⟩
noncomputable def genT (b p : Nat) : ByteArray := if genB b p then (genX b p).extract (genI b p) (genX b p).size else ⟨#[]⟩
def bareS (s : ByteArray) : ByteArray := ⟨(Lib.trimSuffix (Lib.trimRightB s.data.toList 48) [46]).toArray⟩
noncomputable def genO (b p : Nat) (alt : Bool) : ByteArray := (if alt then genH b p else bareS (genH b p)) ++ genT b p
theorem bareS_size (s : ByteArray) : (bareS s).size ≤ s.size := by
 rw [sz_list, sz_list]
 show (Lib.trimSuffix (Lib.trimRightB s.data.toList 48) [46]).length ≤ _
 have h1 : (Lib.trimRightB s.data.toList 48).length ≤ s.data.toList.length := by
  unfold Lib.trimRightB
  rw [List.length_reverse]
  exact Nat.le_trans (List.dropWhile_sublist _).length_le (by simp)
 unfold Lib.trimSuffix
 split
 ·rw [List.length_take]; omega
 ·exact h1
theorem bare_calls (H : ByteArray) (w : World) (h : H.size ≤ 1000000) : Calls Tryz.prog 199 #[.string H, .string ⟨#[48]⟩] w fun e w' => e = .returned (.string ⟨(Lib.trimRightB H.data.toList 48).toArray⟩) ∧ w' = w :=
 Tryz.strings_TrimRight_one H 48 (by decide) w (by omega)
theorem bare_calls2 (H : ByteArray) (w : World) (h : H.size ≤ 1000000) : Calls Tryz.prog 198 #[.string ⟨(Lib.trimRightB H.data.toList 48).toArray⟩, .string ⟨#[46]⟩] w fun e w' => e = .returned (.string (bareS H)) ∧ w' = w := by
 have h1 : (Lib.trimRightB H.data.toList 48).length ≤ H.data.toList.length := by
  unfold Lib.trimRightB
  rw [List.length_reverse]
  exact Nat.le_trans (List.dropWhile_sublist _).length_le (by simp)
 exact Tryz.strings_TrimSuffix ⟨(Lib.trimRightB H.data.toList 48).toArray⟩ ⟨#[46]⟩ w (by rw [sz_list]; rw [sz_list] at h; show (Lib.trimRightB H.data.toList 48).length ≤ _; omega)
set_option maxHeartbeats 8000000 in
set_option maxRecDepth 1000000 in
theorem general_any (b p : Nat) (alt : Bool) (w : World) (hb : b < 18446744073709551616) (hf : fin b = true) (hp : p ≤ 190) (hT : PowOk w) :
 Calls Tryz.prog 132 #[.float .f64 b, .int .i64 ((p : Int) + 1), .bool alt] w fun e w' => e = .returned (.string (genO b p alt)) ∧ (genO b p alt).size ≤ 3000 ∧ Below w.heap.size w w' := by
 have HS := Lib.hid (fun W => Sci_det b p W hb hf (by omega))
 have HT := Lib.hid hT
 have HSc := Lib.hid (fun W h => sci_any b p true W hb hf (by omega) h)
 have HFx := Lib.hid (fun q W h => Fixed_det b q W hb hf h)
 have hM : max ((p : Int) + 1) 1 = (p : Int) + 1 := by omega
 have HO : Hid (genO b p alt = (if alt then genH b p else bareS (genH b p)) ++ genT b p) := rfl
 have HH : Hid (genH b p = if genB b p then (genX b p).extract 0 (genI b p) else if 0 ≤ Lib.indexByte (genF b p).data.toList 46 then genF b p else genF b p ++ ⟨#[46]⟩) := rfl
 have HTl : Hid (genT b p = if genB b p then (genX b p).extract (genI b p) (genX b p).size else ⟨#[]⟩) := rfl
 have HBb : Hid (genB b p = (decide (sciE b p < -4) || decide ((p : Int) + 1 ≤ sciE b p))) := rfl
 have HI : Hid (genI b p = (Lib.indexByte (genX b p).data.toList 101).toNat) := rfl
 have HF : Hid (genF b p = ⟨(fixT b ((p : Int) - sciE b p).toNat).toArray⟩) := rfl
 rw [show sciO b p true = genX b p from rfl] at HSc
 have hpI : (p : Int) ≤ 190 := by omega
 clear hT
 go_enter Tryz.func132, Tryz.ntmps132
 go_wp2_with fail
 refine (HS.out _).mono ?_
 rintro e w1 ⟨rfl, hok, hb1⟩
 have HB1 := Lib.hid hb1
 have HT1 := Lib.hid (HT.out.below hb1)
 have hz1 := hb1.size
 have h1 := hok.lo
 have h2 := hok.hi
 have HFact := Lib.hid (sciO_facts (alt := true) hok (by omega))
 rw [show sciO b p true = genX b p from rfl] at HFact
 have HOk := Lib.hid hok
 clear hok hb1 HS
 -- CASES
 by_cases hA1 : sciE b p < -4
 ·have e4 : decide (sciE b p < -4) = true := by simp; omega
  have HBt : Hid (genB b p = true) := by show _ = _; rw [HBb.out]; simp; omega
  have HHe : Hid (genH b p = (genX b p).extract 0 (genI b p)) := by show _ = _; rw [HH.out, HBt.out]; rfl
  have HTe : Hid (genT b p = (genX b p).extract (genI b p) (genX b p).size) := by show _ = _; rw [HTl.out, HBt.out]; rfl
  obtain ⟨o, ho, hol⟩ := ix_of_mem HFact.out.2
  rw [← sz_list] at hol
  have hXs := HFact.out.1
  have hIo : genI b p = o := by rw [HI.out, ho]; rfl
  rw [hIo] at HHe HTe
  have HIx : Hid (∀ W, Calls Tryz.prog 69 #[.string (genX b p), .int .u8 101] W fun e w' => e = .returned (.int .i64 (o : Int)) ∧ w' = W) := fun W => ho ▸ Tryz.strings_IndexByte (genX b p) 101 W
  generalize genX b p = X at *
  obtain ⟨H, hH⟩ : ∃ H : ByteArray, X.extract 0 o = H := ⟨_, rfl⟩
  obtain ⟨T, hTT⟩ : ∃ T : ByteArray, X.extract o X.size = T := ⟨_, rfl⟩
  have hHs : H.size ≤ 1000 := by rw [← hH]; simp; omega
  have hTs : T.size ≤ 1000 := by rw [← hTT]; simp; omega
  rw [hH] at HHe
  rw [hTT] at HTe
  rw [HHe.out, HTe.out] at HO
  have ho1 : (o : Int) ≤ (X.size : Int) := by omega
  clear HHe HTe HH HTl HBb HBt HI HF HFx HFact hIo ho hol HOk
  generalize sciE b p = E at *
  go_wp2_with fail
  refine (HSc.out _ HT1.out).mono ?_
  rintro e w2 ⟨rfl, hb2⟩
  have HB2 := Lib.hid (HB1.out.trans (hb2.mono hz1))
  clear hb2 HSc
  go_wp2_with fail
  refine (HIx.out _).mono ?_
  rintro e _ ⟨rfl, rfl⟩
  go_wp2_with fail
  go_region
  cases alt
  ·all_goals go_wp2_with fail
   refine (bare_calls H _ (by omega)).mono ?_
   rintro e _ ⟨rfl, rfl⟩
   go_wp2_with fail
   refine (bare_calls2 H _ (by omega)).mono ?_
   rintro e _ ⟨rfl, rfl⟩
   have hbs := bareS_size H
   generalize bareS H = Z at *
   have hZ : Z.size ≤ 1000 := by omega
   clear hbs
   go_wp2_with fail
   go_ret
   rw [HO.out]
   exact ⟨rfl, by show (Z ++ T).size ≤ 3000; rw [ByteArray.size_append]; omega, HB2.out.drew⟩
  ·all_goals go_wp2_with fail
   go_ret
   rw [HO.out]
   exact ⟨rfl, by show (H ++ T).size ≤ 3000; rw [ByteArray.size_append]; omega, HB2.out.drew⟩
 ·by_cases hA2 : (p : Int) + 1 ≤ sciE b p
  ·have e4 : decide (sciE b p < -4) = false := by simp; omega
   have e5 : decide ((p : Int) + 1 ≤ sciE b p) = true := by simp; omega
   have HBt : Hid (genB b p = true) := by show _ = _; rw [HBb.out]; simp; omega
   have HHe : Hid (genH b p = (genX b p).extract 0 (genI b p)) := by show _ = _; rw [HH.out, HBt.out]; rfl
   have HTe : Hid (genT b p = (genX b p).extract (genI b p) (genX b p).size) := by show _ = _; rw [HTl.out, HBt.out]; rfl
   obtain ⟨o, ho, hol⟩ := ix_of_mem HFact.out.2
   rw [← sz_list] at hol
   have hXs := HFact.out.1
   have hIo : genI b p = o := by rw [HI.out, ho]; rfl
   rw [hIo] at HHe HTe
   have HIx : Hid (∀ W, Calls Tryz.prog 69 #[.string (genX b p), .int .u8 101] W fun e w' => e = .returned (.int .i64 (o : Int)) ∧ w' = W) := fun W => ho ▸ Tryz.strings_IndexByte (genX b p) 101 W
   generalize genX b p = X at *
   obtain ⟨H, hH⟩ : ∃ H : ByteArray, X.extract 0 o = H := ⟨_, rfl⟩
   obtain ⟨T, hTT⟩ : ∃ T : ByteArray, X.extract o X.size = T := ⟨_, rfl⟩
   have hHs : H.size ≤ 1000 := by rw [← hH]; simp; omega
   have hTs : T.size ≤ 1000 := by rw [← hTT]; simp; omega
   rw [hH] at HHe
   rw [hTT] at HTe
   rw [HHe.out, HTe.out] at HO
   have ho1 : (o : Int) ≤ (X.size : Int) := by omega
   clear HHe HTe HH HTl HBb HBt HI HF HFx HFact hIo ho hol HOk
   generalize sciE b p = E at *
   go_wp2_with fail
   refine (HSc.out _ HT1.out).mono ?_
   rintro e w2 ⟨rfl, hb2⟩
   have HB2 := Lib.hid (HB1.out.trans (hb2.mono hz1))
   clear hb2 HSc
   go_wp2_with fail
   refine (HIx.out _).mono ?_
   rintro e _ ⟨rfl, rfl⟩
   go_wp2_with fail
   go_region
   cases alt
   ·all_goals go_wp2_with fail
    refine (bare_calls H _ (by omega)).mono ?_
    rintro e _ ⟨rfl, rfl⟩
    go_wp2_with fail
    refine (bare_calls2 H _ (by omega)).mono ?_
    rintro e _ ⟨rfl, rfl⟩
    have hbs := bareS_size H
    generalize bareS H = Z at *
    have hZ : Z.size ≤ 1000 := by omega
    clear hbs
    go_wp2_with fail
    go_ret
    rw [HO.out]
    exact ⟨rfl, by show (Z ++ T).size ≤ 3000; rw [ByteArray.size_append]; omega, HB2.out.drew⟩
   ·all_goals go_wp2_with fail
    go_ret
    rw [HO.out]
    exact ⟨rfl, by show (H ++ T).size ≤ 3000; rw [ByteArray.size_append]; omega, HB2.out.drew⟩
  ·have h4 : ¬ (sciE b p < -4) := by omega
   have h5 : ¬ ((p : Int) + 1 ≤ sciE b p) := by omega
   have HBt : Hid (genB b p = false) := by show _ = _; rw [HBb.out]; simp; omega
   have HHe : Hid (genH b p = if 0 ≤ Lib.indexByte (genF b p).data.toList 46 then genF b p else genF b p ++ ⟨#[46]⟩) := by show _ = _; rw [HH.out, HBt.out]; rfl
   have HTe : Hid (genT b p = ⟨#[]⟩) := by show _ = _; rw [HTl.out, HBt.out]; rfl
   obtain ⟨q, hq⟩ : ∃ q : Nat, ((p : Int) - sciE b p) = (q : Int) := ⟨((p : Int) - sciE b p).toNat, by omega⟩
   have hq2 : q ≤ 194 := by omega
   have hFq : genF b p = ⟨(fixT b q).toArray⟩ := by rw [HF.out, hq]; rfl
   have hFs : (genF b p).size ≤ 1000 := by
    have hx := HOk.out.fx
    rw [hq] at hx
    have hy := fixedL_len (dl (scaledN b (q : Int))) q
    rw [sz_list, hFq]
    show (fixedL _ _).length ≤ _
    omega
   have HFq := Lib.hid (fun W => HFx.out q W (by omega))
   rw [← hFq] at HFq
   have HCt := Lib.hid (fun W => Tryz.strings_Contains_one (genF b p) 46 W)
   have hq3 : (p : Int) + 1 - 1 - sciE b p = (q : Int) := by omega
   generalize genF b p = F at *
   clear HH HTl HBb HBt HI HF HFx HFact hFq HOk HSc
   rw [HTe.out] at HO
   generalize Lib.indexByte F.data.toList 46 = J at *
   generalize sciE b p = E at *
   have e4 : decide (E < -4) = false := by simp; omega
   have e5 : decide ((p : Int) + 1 ≤ E) = false := by simp; omega
   clear h4 h5
   go_wp2_with fail
   refine (HFq.out _).mono ?_
   rintro e w2 ⟨rfl, hb2⟩
   have HB2 := Lib.hid (HB1.out.trans (hb2.mono hz1))
   clear hb2
   go_wp2_with fail
   refine (HCt.out _).mono ?_
   rintro e _ ⟨rfl, rfl⟩
   rcases Int.lt_or_le J 0 with hJ | hJ
   ·have hJ1 : decide (0 ≤ J) = false := by simp; omega
    rw [if_neg (by omega)] at HHe
    clear hJ
    obtain ⟨G, hG⟩ : ∃ G : ByteArray, F ++ ⟨#[46]⟩ = G := ⟨_, rfl⟩
    have hGs : G.size ≤ 1001 := by
     rw [← hG, ByteArray.size_append]
     show F.size + 1 ≤ _
     omega
    rw [hG] at HHe
    rw [HHe.out] at HO
    clear HHe
    cases alt
    ·go_wp2_with fail
     refine (bare_calls G _ (by omega)).mono ?_
     rintro e _ ⟨rfl, rfl⟩
     go_wp2_with fail
     refine (bare_calls2 G _ (by omega)).mono ?_
     rintro e _ ⟨rfl, rfl⟩
     have hbs := bareS_size G
     generalize bareS G = Z at *
     have hZ : Z.size ≤ 2000 := by omega
     clear hbs
     go_wp2_with fail
     go_ret
     rw [HO.out]
     exact ⟨rfl, by show (Z ++ ⟨#[]⟩).size ≤ 3000; rw [ByteArray.size_append]; show Z.size + 0 ≤ _; omega, HB2.out⟩
    ·go_wp2_with fail
     go_ret
     rw [HO.out]
     exact ⟨rfl, by show (G ++ ⟨#[]⟩).size ≤ 3000; rw [ByteArray.size_append]; show G.size + 0 ≤ _; omega, HB2.out⟩
   ·have hJ1 : decide (0 ≤ J) = true := by simp; omega
    rw [if_pos hJ] at HHe
    clear hJ
    rw [HHe.out] at HO
    clear HHe
    cases alt
    ·go_wp2_with fail
     refine (bare_calls F _ (by omega)).mono ?_
     rintro e _ ⟨rfl, rfl⟩
     go_wp2_with fail
     refine (bare_calls2 F _ (by omega)).mono ?_
     rintro e _ ⟨rfl, rfl⟩
     have hbs := bareS_size F
     generalize bareS F = Z at *
     have hZ : Z.size ≤ 2000 := by omega
     clear hbs
     go_wp2_with fail
     go_ret
     rw [HO.out]
     exact ⟨rfl, by show (Z ++ ⟨#[]⟩).size ≤ 3000; rw [ByteArray.size_append]; show Z.size + 0 ≤ _; omega, HB2.out⟩
    ·go_wp2_with fail
     go_ret
     rw [HO.out]
     exact ⟨rfl, by show (F ++ ⟨#[]⟩).size ≤ 3000; rw [ByteArray.size_append]; show F.size + 0 ≤ _; omega, HB2.out⟩
end Go.Proofs.YtfdnhkjeoeffoaaGreatDoor
end

section
/- Package format: float and Number by the verb g. -/
namespace Go.Proofs.YtfdnhkjeoeffoaaGreatDoor
open Go.RowKit
set_option linter.unusedVariables false
set_option maxHeartbeats 8000000 in
set_option maxRecDepth 1000000 in
/-- float by the verb g -/
theorem float_g (m p bl al z : Bool) (wd : Int) (pr b : Nat) (w : World) (hb : b < 18446744073709551616) (hf : fin b = true) (hp : pr ≤ 189) (hw : 0 ≤ wd) (hw2 : wd ≤ 1024) (hT : PowOk w) :
 Calls Tryz.prog 73 #[.agg (specA m p bl al z wd ((pr : Int) + 1) 103), .float .f64 b] w fun e w' => e = .returned (.string ⟨(padL m z wd (signL p bl (decide (9223372036854775808 ≤ b))) (genO b pr al).data.toList).toArray⟩) ∧ (genO b pr al).size ≤ 3000 ∧ Below w.heap.size w w' := by
 have HT := Lib.hid hT
 have HFx := Lib.hid (fun W h => general_any b pr al W hb hf (by omega) h)
 have HSg := Lib.hid (fun W => sign_any m p bl al z (decide (9223372036854775808 ≤ b)) wd ((pr : Int) + 1) 103 W)
 obtain ⟨sg, hsg⟩ : ∃ sg : ByteArray, sg = ⟨(signL p bl (decide (9223372036854775808 ≤ b))).toArray⟩ := ⟨_, rfl⟩
 obtain ⟨fx, hfx⟩ : ∃ fx : ByteArray, fx = genO b pr al := ⟨_, rfl⟩
 have hsg1 : sg.size ≤ 1000000 := by
  rw [sz_list, hsg]
  show (signL _ _ _).length ≤ _
  unfold signL
  split
  ·decide
  ·split
   ·decide
   ·split <;> decide
 have HSgl : Hid (sg.data.toList = signL p bl (decide (9223372036854775808 ≤ b))) := by show _ = _; rw [hsg]
 rw [← hsg] at HSg
 rw [← hfx] at HFx ⊢
 rw [← HSgl.out]
 obtain ⟨out, hout⟩ : ∃ out, padL m z wd sg.data.toList fx.data.toList = out := ⟨_, rfl⟩
 rw [hout]
 have HOut := Lib.hid hout
 clear hout HSgl
 have hsh : (((b : Int) / 9223372036854775808) == 1) = decide (9223372036854775808 ≤ b) := by
  by_cases h9 : 9223372036854775808 ≤ b
  ·rw [decide_eq_true h9, beq_iff_eq]; omega
  ·rw [decide_eq_false h9, beq_eq_false_iff_ne]; omega
 generalize decide (9223372036854775808 ≤ b) = neg at *
 unfold specA at HSg ⊢
 have hpr0 : (0 : Int) ≤ (pr : Int) := by omega
 clear hsg hT
 go_enter Tryz.func73, Tryz.ntmps73
 go_wp2_with fail
 refine (HFx.out _ (HT.out.below ((Below.refl w.heap.size w).alloc (Nat.le_refl _) _))).mono ?_
 rintro e w1 ⟨rfl, hfs, hb1⟩
 have HPd := Lib.hid (fun W => padded_any m p bl al z z wd ((pr : Int) + 1) 103 sg fx W hw hw2 hsg1 (by omega))
 rw [HOut.out] at HPd
 unfold specA at HPd
 have HFS := Lib.hid hfs
 clear hfs hfx hsg1
 have HB1 := Lib.hid (((Below.refl w.heap.size w).alloc (Nat.le_refl _) (.cells #[.bool m, .bool p, .bool bl, .bool al, .bool z, .int .i64 wd, .int .i64 ((pr : Int) + 1), .int .u8 103] 35)).trans (hb1.mono (by simp)))
 have k0 : w1.cell? ⟨w.heap.size, 0, none⟩ = some (.bool m) := by rw [hb1.cell (by simp)]; simp [go_sem]
 have k1 : w1.cell? ⟨w.heap.size, 1, none⟩ = some (.bool p) := by rw [hb1.cell (by simp)]; simp [go_sem]
 have k2 : w1.cell? ⟨w.heap.size, 2, none⟩ = some (.bool bl) := by rw [hb1.cell (by simp)]; simp [go_sem]
 have k3 : w1.cell? ⟨w.heap.size, 3, none⟩ = some (.bool al) := by rw [hb1.cell (by simp)]; simp [go_sem]
 have k4 : w1.cell? ⟨w.heap.size, 4, none⟩ = some (.bool z) := by rw [hb1.cell (by simp)]; simp [go_sem]
 have k5 : w1.cell? ⟨w.heap.size, 5, none⟩ = some (.int .i64 wd) := by rw [hb1.cell (by simp)]; simp [go_sem]
 have k6 : w1.cell? ⟨w.heap.size, 6, none⟩ = some (.int .i64 ((pr : Int) + 1)) := by rw [hb1.cell (by simp)]; simp [go_sem]
 have k7 : w1.cell? ⟨w.heap.size, 7, none⟩ = some (.int .u8 103) := by rw [hb1.cell (by simp)]; simp [go_sem]
 have hz1 := hb1.size
 rw [World.size_alloc] at hz1
 clear hb1
 go_wp2_with fail
 go_region_held3 (fun w' => w'.cell? ⟨w.heap.size, 0, none⟩ = some (.bool m) ∧ w'.cell? ⟨w.heap.size, 1, none⟩ = some (.bool p) ∧ w'.cell? ⟨w.heap.size, 2, none⟩ = some (.bool bl) ∧ w'.cell? ⟨w.heap.size, 3, none⟩ = some (.bool al) ∧ w'.cell? ⟨w.heap.size, 4, none⟩ = some (.bool z) ∧ w'.cell? ⟨w.heap.size, 5, none⟩ = some (.int .i64 wd) ∧ w'.cell? ⟨w.heap.size, 6, none⟩ = some (.int .i64 ((pr : Int) + 1)) ∧ w'.cell? ⟨w.heap.size, 7, none⟩ = some (.int .u8 103)) (first | exact ⟨k0, k1, k2, k3, k4, k5, k6, k7⟩ | exact ⟨j0, j1, j2, j3, j4, j5, j6, j7⟩)
  (first
   | (go_at_call 128; refine (HSg.out _).mono ?_; rintro e w2 ⟨rfl, hb2⟩; have j0 := cell_next hb2 k0; have j1 := cell_next hb2 k1; have j2 := cell_next hb2 k2; have j3 := cell_next hb2 k3; have j4 := cell_next hb2 k4; have j5 := cell_next hb2 k5; have j6 := cell_next hb2 k6; have j7 := cell_next hb2 k7; have HB2 := Lib.hid (below_next (Nat.le_refl _) HB1.out hb2 (by first | exact .inl rfl | exact .inr rfl)))
   | (go_at_call 70; refine (HPd.out _).mono ?_; rintro e w3 ⟨rfl, hb3⟩; have j0 := cell_next hb3 j0; have j1 := cell_next hb3 j1; have j2 := cell_next hb3 j2; have j3 := cell_next hb3 j3; have j4 := cell_next hb3 j4; have j5 := cell_next hb3 j5; have j6 := cell_next hb3 j6; have j7 := cell_next hb3 j7; have HB3 := Lib.hid (below_next (Nat.le_refl _) HB2.out hb3 (by first | exact .inl rfl | exact .inr rfl))))
 all_goals go_wp2_with fail
 all_goals go_ret
 all_goals exact ⟨rfl, HFS.out, HB3.out⟩
theorem Index_numsG (w : World) : Calls Tryz.prog 69 #[.string ⟨#[100, 105, 111, 120, 88, 117, 101, 69, 102, 70, 103, 71]⟩, .int .u8 103] w fun e w' => e = .returned (.int .i64 10) ∧ w' = w :=
 Tryz.strings_IndexByte ⟨#[100, 105, 111, 120, 88, 117, 101, 69, 102, 70, 103, 71]⟩ 103 w
theorem Index_wholeG (w : World) : Calls Tryz.prog 69 #[.string ⟨#[100, 105, 111, 120, 88, 117]⟩, .int .u8 103] w fun e w' => e = .returned (.int .i64 (-1)) ∧ w' = w :=
 Tryz.strings_IndexByte ⟨#[100, 105, 111, 120, 88, 117]⟩ 103 w
set_option maxHeartbeats 4000000 in
set_option maxRecDepth 1000000 in
/-- Number by the verb g -/
theorem Number_g (m p bl al z : Bool) (wd : Int) (pr b : Nat) (w : World) (hb : b < 18446744073709551616) (hf : fin b = true) (hp : pr ≤ 189) (hw : 0 ≤ wd) (hw2 : wd ≤ 1024) (hT : PowOk w) :
 Calls Tryz.prog 24 #[.agg (specA m p bl al z wd ((pr : Int) + 1) 103), .float .f64 b] w fun e w' => e = .returned (.tuple #[.string ⟨(padL m z wd (signL p bl (decide (9223372036854775808 ≤ b))) (genO b pr al).data.toList).toArray⟩, .int .i64 0]) ∧ (genO b pr al).size ≤ 3000 ∧ Below w.heap.size w w' := by
 have HT := Lib.hid hT
 have HFl := Lib.hid (fun W h => float_g m p bl al z wd pr b W hb hf hp hw hw2 h)
 have HCk := Lib.hid (fun W => Check_ok m p bl al z wd ((pr : Int) + 1) 103 W (by
  unfold okS
  rw [show ixB verbsB 103 = 10 from by decide, decide_eq_true hw, decide_eq_true hw2, decide_eq_true (show (-1 : Int) ≤ (pr : Int) + 1 by omega), decide_eq_true (show (pr : Int) + 1 ≤ 190 by omega)]
  rfl))
 have HPt := Lib.hid (fun W => Parts_any b W hb)
 rw [hf] at HPt
 generalize padL m z wd (signL p bl (decide (9223372036854775808 ≤ b))) (genO b pr al).data.toList = out at *
 unfold specA at HFl HCk ⊢
 clear hT
 go_enter Tryz.func24, Tryz.ntmps24
 go_wp2_with fail
 refine (HCk.out _).mono ?_
 rintro e w1 ⟨rfl, hb1⟩
 have HB1 := Lib.hid (((Below.refl w.heap.size w).alloc (Nat.le_refl _) (.cells #[.bool m, .bool p, .bool bl, .bool al, .bool z, .int .i64 wd, .int .i64 ((pr : Int) + 1), .int .u8 103] 35)).trans (hb1.mono (by simp)))
 have k0 : w1.cell? ⟨w.heap.size, 0, none⟩ = some (.bool m) := by rw [hb1.cell (by simp)]; simp [go_sem]
 have k1 : w1.cell? ⟨w.heap.size, 1, none⟩ = some (.bool p) := by rw [hb1.cell (by simp)]; simp [go_sem]
 have k2 : w1.cell? ⟨w.heap.size, 2, none⟩ = some (.bool bl) := by rw [hb1.cell (by simp)]; simp [go_sem]
 have k3 : w1.cell? ⟨w.heap.size, 3, none⟩ = some (.bool al) := by rw [hb1.cell (by simp)]; simp [go_sem]
 have k4 : w1.cell? ⟨w.heap.size, 4, none⟩ = some (.bool z) := by rw [hb1.cell (by simp)]; simp [go_sem]
 have k5 : w1.cell? ⟨w.heap.size, 5, none⟩ = some (.int .i64 wd) := by rw [hb1.cell (by simp)]; simp [go_sem]
 have k6 : w1.cell? ⟨w.heap.size, 6, none⟩ = some (.int .i64 ((pr : Int) + 1)) := by rw [hb1.cell (by simp)]; simp [go_sem]
 have k7 : w1.cell? ⟨w.heap.size, 7, none⟩ = some (.int .u8 103) := by rw [hb1.cell (by simp)]; simp [go_sem]
 clear hb1
 go_wp2_with fail
 refine (Index_numsG _).mono ?_
 rintro e _ ⟨rfl, rfl⟩
 go_wp2_with fail
 refine (HPt.out _).mono ?_
 rintro e _ ⟨rfl, rfl⟩
 go_wp2_with fail
 refine (Index_wholeG _).mono ?_
 rintro e _ ⟨rfl, rfl⟩
 go_wp2_with fail
 refine (HFl.out _ (HT.out.below HB1.out)).mono ?_
 rintro e w2 ⟨rfl, hgs, hb2⟩
 have HB2 := Lib.hid (HB1.out.trans (hb2.mono HB1.out.size))
 have HGs := Lib.hid hgs
 clear hb2 hgs
 go_wp2_with fail
 go_ret2
 exact ⟨rfl, HGs.out, HB2.out⟩
end Go.Proofs.YtfdnhkjeoeffoaaGreatDoor
end

section
/- Package format: Conv by the document's pattern, of any float. -/
namespace Go.Proofs.YtfdnhkjeoeffoaaGreatDoor
open Go.RowKit
set_option linter.unusedVariables false
set_option maxHeartbeats 8000000 in
set_option maxRecDepth 1000000 in
/-- by, of a pattern that is one part for a number -/
theorem by_two (pat : ByteArray) (x : Nat) (m p bl a z : Bool) (wd pr : Int) (vb : Nat) (L : List UInt8) (w : World) (hs : pat.size ≤ 1000) (h0 : 0 < pat.size) (hE : ErrOk w) (hc : ch pat 0 = 37)
 (hA : parseA pat 0 = pieceA m p bl a z wd pr vb false false pat.size) (hQ : parseE pat 0 = 0) (hv : vb ≠ 37)
 (hN : ∀ W, Below w.heap.size w W → Calls Tryz.prog 24 #[.agg (specA m p bl a z wd pr vb), .float .f64 x] W fun e w' => e = .returned (.tuple #[.string ⟨L.toArray⟩, .int .i64 0]) ∧ L.length ≤ 1000000 ∧ Below W.heap.size W w') :
 Calls Tryz.prog 126 #[.float .f64 x, .string pat] w fun e w' => e = .returned (.tuple #[.string ⟨L.toArray⟩, .bool true]) ∧ Below w.heap.size w w' := by
 have HP := Lib.hid (fun W h => FParse_any pat 0 W (by omega) h)
 rw [hA, hQ] at HP
 have HE := Lib.hid hE
 have hp0 : (pat[0]'h0).toNat = 37 := by rw [ch_in h0]; exact hc
 have hvn : ((vb : Int) == 37) = false := by simp; omega
 have HNm := Lib.hid hN
 unfold specA at HNm
 unfold pieceA at HP
 obtain ⟨T, hT⟩ : ∃ T : ByteArray, T = ⟨L.toArray⟩ := ⟨_, rfl⟩
 rw [← hT] at HNm ⊢
 have HT := Lib.hid hT
 have hsI : (0 : Int) < (pat.size : Int) := by omega
 clear hA hQ hE hN hT hv hc
 go_enter Tryz.func126, Tryz.ntmps126
 go_wp2_with fail
 refine wp_loop_rounds 2 ?_
 rw [rounds_succ]
 go_wp2_with fail
 refine (HP.out _ (HE.out.below ((Below.refl _ _).alloc (Nat.le_refl _) _))).mono ?_
 rintro e w1 ⟨rfl, hb1⟩
 have HB1 := Lib.hid (((Below.refl w.heap.size w).alloc (Nat.le_refl _) (.cells #[.pointer none, .slice none 0 0] 122)).trans (hb1.mono (by simp)))
 have hz1 := hb1.size
 rw [World.size_alloc] at hz1
 have HBu1 : Hid (Lib.IsBuilder 122 5 w.heap.size w.heap.size (Lib.byteCells []) w1) := by
  show Lib.IsBuilder _ _ _ _ _ _
  refine isBuilder_below (.inl ⟨Nat.le_refl _, .slice none 0 0, heap_alloc_at w _, World.ownsRow_nil .., by simp [Value.ownBlock]⟩) hb1
 clear hb1
 go_wp2_with fail
 refine (HNm.out _ (HB1.out.alloc HB1.out.size _)).mono ?_
 rintro e w2 ⟨rfl, hL, hb2⟩
 have hTs : T.size ≤ 1000000 := by rw [sz_list, HT.out]; exact hL
 clear hL
 have hz2 := hb2.size
 rw [World.size_alloc] at hz2
 have hb12 : Below w1.heap.size w1 w2 := ((Below.refl w1.heap.size w1).alloc (Nat.le_refl _) _).trans (hb2.mono (by simp))
 have HB2 := Lib.hid (HB1.out.trans (hb12.mono (by omega)))
 have HBu2 := Lib.hid (isBuilder_below HBu1.out hb12)
 clear hb2 hb12
 go_wp2_with fail
 refine (WriteString_any w.heap.size w.heap.size (Lib.byteCells []) T w2 HBu2.out (by rw [Lib.byteCells_length]; show 0 + T.size ≤ _; omega) (by omega)).mono ?_
 rintro e w3 ⟨rfl, hbu3, hb3⟩
 have HB3 := Lib.hid (HB2.out.trans hb3)
 have HBu3 : Hid (Lib.IsBuilder 122 5 w.heap.size w.heap.size (Lib.byteCells T.data.toList) w3) := by
  show Lib.IsBuilder _ _ _ _ _ _
  rw [Lib.strCells_eq] at hbu3
  exact .inr hbu3
 have hz3 := HB3.out.size
 clear hb3 hbu3
 go_wp2_with fail
 rw [rounds_succ]
 go_wp2_with fail
 refine (Tryz.Builder_String_any w.heap.size w.heap.size T.data.toList w3 HBu3.out hz3).mono ?_
 rintro e w4 ⟨rfl, hb4⟩
 have HB4 := Lib.hid (HB3.out.trans hb4)
 clear hb4
 go_wp2_with fail
 go_ret2
 exact ⟨rfl, HB4.out⟩
theorem padL_len (m z : Bool) (wd : Int) (h s : List UInt8) : (padL m z wd h s).length ≤ h.length + s.length + wd.toNat := by
 unfold padL
 split
 ·simp; omega
 ·split
  ·simp; omega
  ·simp; omega
theorem signL_len (p b m : Bool) : (signL p b m).length ≤ 1 := by
 unfold signL
 split
 ·decide
 ·split
  ·decide
  ·split <;> decide
/-- the text of what is no finite number -/
def oddO (b : Nat) : ByteArray := if FloatKind.f64.format.order b b != some .eq then ⟨#[43, 110, 97, 110]⟩ else if FloatKind.f64.format.order b 0 == some .lt then ⟨#[45, 105, 110, 102]⟩ else ⟨#[43, 105, 110, 102]⟩
theorem odd_any (b : Nat) (w : World) : Calls Tryz.prog 71 #[.float .f64 b] w fun e w' => e = .returned (.string (oddO b)) ∧ w = w' := by
 have HO : Hid (oddO b = if FloatKind.f64.format.order b b != some .eq then ⟨#[43, 110, 97, 110]⟩ else if FloatKind.f64.format.order b 0 == some .lt then ⟨#[45, 105, 110, 102]⟩ else ⟨#[43, 105, 110, 102]⟩) := rfl
 generalize oddO b = O at *
 cases h1 : (FloatKind.f64.format.order b b != some .eq)
 ·cases h2 : (FloatKind.f64.format.order b 0 == some .lt)
  ·rw [h1, h2] at HO
   go_enter Tryz.func71, Tryz.ntmps71
   go_wp2_with fail
   go_ret
   exact ⟨by rw [HO.out]; rfl, rfl⟩
  ·rw [h1, h2] at HO
   go_enter Tryz.func71, Tryz.ntmps71
   go_wp2_with fail
   go_ret
   exact ⟨by rw [HO.out]; rfl, rfl⟩
 ·rw [h1] at HO
  go_enter Tryz.func71, Tryz.ntmps71
  go_wp2_with fail
  go_ret
  exact ⟨by rw [HO.out]; rfl, rfl⟩
/-- a float by the pattern "%.6g" -/
noncomputable def convO (b : Nat) : ByteArray :=
 if wholeOk b then ⟨((if (FloatKind.f64.format.order b 0 == some .lt) = true then 45 :: dl (scaledN b 0) else dl (scaledN b 0))).toArray⟩
 else if fin b then ⟨(padL false false 0 (signL false false (decide (9223372036854775808 ≤ b))) (genO b 5 false).data.toList).toArray⟩ else oddO b
theorem parse_g6 : parseA ⟨#[37, 46, 54, 103]⟩ 0 = pieceA false false false false false 0 6 (103 : Nat) false false (4 : Nat) := by kernel_rfl
set_option maxHeartbeats 4000000 in
set_option maxRecDepth 1000000 in
theorem Conv_g6 (b : Nat) (w : World) (hb : b < 18446744073709551616) (hE : ErrOk w) (hT : PowOk w) : Calls Tryz.prog 67 #[.float .f64 b, .string ⟨#[37, 46, 54, 103]⟩] w fun e w' => e = .returned (.string (convO b)) ∧ Below w.heap.size w w' := by
 cases hw : wholeOk b
 ·have HW := Lib.hid (fun W => Whole_no b W hb hw)
  have HP := Lib.hid (fun W => Parts_any b W hb)
  cases hf : fin b
  ·rw [hf] at HP
   have HC : Hid (convO b = oddO b) := by show _ = _; unfold convO; rw [hw, hf]; rfl
   have HOd := Lib.hid (fun W => odd_any b W)
   generalize oddO b = O at *
   rw [HC.out]
   clear HC hw hf
   go_enter Tryz.func67, Tryz.ntmps67
   go_wp2_with fail
   refine (HW.out _).mono ?_
   rintro e _ ⟨rfl, rfl⟩
   go_wp2_with fail
   refine (HP.out _).mono ?_
   rintro e _ ⟨rfl, rfl⟩
   go_wp2_with fail
   refine (HOd.out _).mono ?_
   rintro e _ ⟨rfl, rfl⟩
   go_wp2_with fail
   go_ret
   exact ⟨rfl, Below.refl _ _⟩
  ·rw [hf] at HP
   have HB : Hid (Calls Tryz.prog 126 #[.float .f64 b, .string ⟨#[37, 46, 54, 103]⟩] w fun e w' => e = .returned (.tuple #[.string (convO b), .bool true]) ∧ Below w.heap.size w w') := by
    have hc : convO b = ⟨(padL false false 0 (signL false false (decide (9223372036854775808 ≤ b))) (genO b 5 false).data.toList).toArray⟩ := by unfold convO; rw [hw, hf]; rfl
    rw [hc]
    refine by_two ⟨#[37, 46, 54, 103]⟩ b false false false false false 0 6 103 _ w (by decide) (by decide) hE (by decide) parse_g6 (by kernel_rfl) (by decide) (fun W hW => ?_)
    refine (Number_g false false false false false 0 5 b W hb hf (by decide) (by decide) (by decide) (hT.below hW)).mono ?_
    rintro e w' ⟨rfl, hs, hbw⟩
    refine ⟨rfl, ?_, hbw⟩
    have h1 := padL_len false false 0 (signL false false (decide (9223372036854775808 ≤ b))) (genO b 5 false).data.toList
    have h2 := signL_len false false (decide (9223372036854775808 ≤ b))
    rw [sz_list] at hs
    have h3 : (0 : Int).toNat = 0 := rfl
    omega
   generalize convO b = O at *
   clear hw hf hE hT
   go_enter Tryz.func67, Tryz.ntmps67
   go_wp2_with fail
   refine (HW.out _).mono ?_
   rintro e _ ⟨rfl, rfl⟩
   go_wp2_with fail
   refine (HP.out _).mono ?_
   rintro e _ ⟨rfl, rfl⟩
   go_wp2_with fail
   refine HB.out.mono ?_
   rintro e w1 ⟨rfl, hb⟩
   have HBw := Lib.hid hb
   clear hb
   go_wp2_with fail
   go_ret
   exact ⟨rfl, HBw.out⟩
 ·have HW : Hid (∀ W, Calls Tryz.prog 14 #[.float .f64 b] W fun e w' => e = .returned (.tuple #[.string (convO b), .bool true]) ∧ Below W.heap.size W w') := fun W => by
   refine (Whole_yes b W hb hw).mono ?_
   rintro e w' ⟨s, rfl, ⟨l, hc, hs⟩, hbw⟩
   have hO : convO b = s := by
    unfold convO
    rw [hw, dl_eq hc, ← hs]
    exact bytes_self s
   rw [hO]
   exact ⟨rfl, hbw⟩
  generalize convO b = O at *
  clear hw hE hT
  go_enter Tryz.func67, Tryz.ntmps67
  go_wp2_with fail
  refine (HW.out _).mono ?_
  rintro e w1 ⟨rfl, hb⟩
  have HBw := Lib.hid hb
  clear hb
  go_wp2_with fail
  go_ret
  exact ⟨rfl, HBw.out⟩
end Go.Proofs.YtfdnhkjeoeffoaaGreatDoor
end

section
/- Package cell: Compare of any two values, by the document's pattern. -/
namespace Go.Proofs.YtfdnhkjeoeffoaaGreatDoor
open Go.RowKit
set_option linter.unusedVariables false
/-- is it no number -/
def nanF (x : Nat) : Bool := FloatKind.f64.format.order x x != some .eq
/-- a value as a number, and as a string by the document's pattern -/
def numC (k : Int) (x : Nat) (s : ByteArray) : Nat := if k = 1 ∨ k = 3 then x else if k = 2 then prefB s.data.toList else 0
noncomputable def strC (k : Int) (x : Nat) (s : ByteArray) : ByteArray := if k = 1 then convO x else if k = 2 ∨ k = 3 then s else ⟨#[]⟩
theorem Num_all (k : Int) (x : Nat) (s : ByteArray) (w : World) (hs : s.size ≤ 140737488355328) : Calls Tryz.prog 79 #[.agg (cellA k x s)] w fun e w' => e = .returned (.float .f64 (numC k x s)) ∧ Below w.heap.size w w' := by
 by_cases h1 : k = 1 ∨ k = 3
 ·rw [show numC k x s = x from if_pos h1]
  exact Num_num k x s w h1
 ·by_cases h2 : k = 2
  ·subst h2
   exact Num_str x s w hs
  ·rw [show numC k x s = 0 from by unfold numC; rw [if_neg h1, if_neg h2]]
   have e1 : (k == 1) = false := by simp; omega
   have e2 : (k == 2) = false := by simp; omega
   have e3 : (k == 3) = false := by simp; omega
   clear h1 h2
   unfold cellA
   go_enter Tryz.func79, Tryz.ntmps79
   go_wp2_with fail
   go_ret
   exact ⟨rfl, (Below.refl _ _).alloc (Nat.le_refl _) _⟩
theorem Str_all (k : Int) (x : Nat) (s : ByteArray) (w : World) (hx : x < 18446744073709551616) (hE : ErrOk w) (hT : PowOk w) : Calls Tryz.prog 78 #[.agg (cellA k x s), .string ⟨#[37, 46, 54, 103]⟩] w fun e w' => e = .returned (.string (strC k x s)) ∧ Below w.heap.size w w' := by
 by_cases h1 : k = 1
 ·subst h1
  rw [show strC 1 x s = convO x from if_pos rfl]
  exact Str_num x s _ _ w (fun W hb => Conv_g6 x W hx (hE.below hb) (hT.below hb))
 ·by_cases h2 : k = 2 ∨ k = 3
  ·rw [show strC k x s = s from by unfold strC; rw [if_neg h1, if_pos h2]]
   exact Str_str k x s _ w h2
  ·rw [show strC k x s = ⟨#[]⟩ from by unfold strC; rw [if_neg h1, if_neg h2]]
   have e1 : (k == 1) = false := by simp; omega
   have e2 : (k == 2) = false := by simp; omega
   have e3 : (k == 3) = false := by simp; omega
   clear h1 h2
   unfold cellA
   go_enter Tryz.func78, Tryz.ntmps78
   go_wp2_with fail
   go_ret
   exact ⟨rfl, (Below.refl _ _).alloc (Nat.le_refl _) _⟩
end Go.Proofs.YtfdnhkjeoeffoaaGreatDoor
end

section
/- Plain: floats and bytes are ordered. -/
namespace Go.Proofs.YtfdnhkjeoeffoaaGreatDoor
open Go.RowKit
/-- a float's place among the floats -/
def keyF (b : Nat) : Int := if b < 9223372036854775808 then (b : Int) else -((b : Int) - 9223372036854775808)
theorem vl_zero : vl 0 = 0 := by decide
theorem read_ninf : FloatKind.f64.format.read 18442240474082181120 = .infinity true := by decide
/-- the four ways that a float that is a number reads -/
theorem read_ways {x : Nat} (h1 : x < 18446744073709551616) (h2 : x % 9223372036854775808 ≤ 9218868437227405312) :
 (x < 9218868437227405312 ∧ FloatKind.f64.format.read x = .number false (mof x) ((jof x : Int) - 1074)) ∨
 (∃ a, a < 9218868437227405312 ∧ x = a + 9223372036854775808 ∧ FloatKind.f64.format.read x = .number true (mof a) ((jof a : Int) - 1074)) ∨
 (x = 9218868437227405312 ∧ FloatKind.f64.format.read x = .infinity false) ∨ (x = 18442240474082181120 ∧ FloatKind.f64.format.read x = .infinity true) := by
 rcases Nat.lt_or_ge x 9223372036854775808 with h | h
 ·rcases Nat.lt_or_ge x 9218868437227405312 with h3 | h3
  ·exact .inl ⟨h3, read_fin h3⟩
  ·have e : x = 9218868437227405312 := by omega
   subst e
   exact .inr (.inr (.inl ⟨rfl, read_inf⟩))
 ·obtain ⟨a, rfl⟩ : ∃ a, x = a + 9223372036854775808 := ⟨x - 9223372036854775808, by omega⟩
  rcases Nat.lt_or_ge a 9218868437227405312 with h3 | h3
  ·exact .inr (.inl ⟨a, h3, rfl, read_neg h3⟩)
  ·have e : a = 9218868437227405312 := by omega
   subst e
   exact .inr (.inr (.inr ⟨rfl, read_ninf⟩))
theorem cmp_int {a b c d : Int} (h1 : a < b ↔ c < d) (h2 : b < a ↔ d < c) : compare a b = compare c d := by
 rcases Int.lt_trichotomy a b with h | h | h
 ·rw [Int.compare_eq_lt.2 h, Int.compare_eq_lt.2 (h1.1 h)]
 ·subst h
  have e : c = d := by
   have := mt h1.2 (Int.lt_irrefl a)
   have := mt h2.2 (Int.lt_irrefl a)
   omega
  subst e
  rw [Int.compare_eq_eq.2 rfl, Int.compare_eq_eq.2 rfl]
 ·rw [Int.compare_eq_gt.2 h, Int.compare_eq_gt.2 (h2.1 h)]
theorem vl_iff (a c : Nat) : (vl a < vl c ↔ a < c) := by
 constructor
 ·intro h
  rcases Nat.lt_or_ge a c with h1 | h1
  ·exact h1
  ·rcases Nat.eq_or_lt_of_le h1 with h2 | h2
   ·subst h2; exact absurd h (Nat.lt_irrefl _)
   ·have := vl_lt h2; omega
 ·exact vl_lt
theorem keyF_pos {b : Nat} (h : b < 9223372036854775808) : keyF b = (b : Int) := by unfold keyF; rw [if_pos h]
theorem keyF_neg (a : Nat) : keyF (a + 9223372036854775808) = -(a : Int) := by unfold keyF; rw [if_neg (by omega)]; omega
theorem keyF_inf : keyF 9218868437227405312 = 9218868437227405312 := by decide
theorem keyF_ninf : keyF 18442240474082181120 = -9218868437227405312 := by decide
theorem vl_sign (a : Nat) : 0 < vl a ↔ 0 < a := by
 have := vl_iff 0 a
 rw [vl_zero] at this
 exact this
theorem order_key {x y : Nat} (hx : x < 18446744073709551616) (hy : y < 18446744073709551616) (nx : x % 9223372036854775808 ≤ 9218868437227405312) (ny : y % 9223372036854775808 ≤ 9218868437227405312) :
 FloatKind.f64.format.order x y = some (compare (keyF x) (keyF y)) := by
 unfold Ieee.Format.order
 rcases read_ways hx nx with ⟨h1, e1⟩ | ⟨a, h1, rfl, e1⟩ | ⟨rfl, e1⟩ | ⟨rfl, e1⟩ <;> rcases read_ways hy ny with ⟨h2, e2⟩ | ⟨c, h2, rfl, e2⟩ | ⟨rfl, e2⟩ | ⟨rfl, e2⟩ <;> first | rw [e1, e2] | rw [e1]
 ·rw [order_num, keyF_pos (show x < 9223372036854775808 by omega), keyF_pos (show y < 9223372036854775808 by omega)]
  have g1 := vl_iff x y
  have g2 := vl_iff y x
  refine congrArg some ?_
  apply cmp_int <;> simp <;> omega
 ·rw [order_num, keyF_pos (show x < 9223372036854775808 by omega), keyF_neg c]
  have g1 := vl_sign x
  have g2 := vl_sign c
  refine congrArg some ?_
  apply cmp_int <;> simp <;> omega
 ·rw [keyF_pos (show x < 9223372036854775808 by omega), keyF_inf, Int.compare_eq_lt.2 (by omega)]
  rfl
 ·rw [keyF_pos (show x < 9223372036854775808 by omega), keyF_ninf, Int.compare_eq_gt.2 (by omega)]
  rfl
 ·rw [order_num, keyF_neg a, keyF_pos (show y < 9223372036854775808 by omega)]
  have g1 := vl_sign y
  have g2 := vl_sign a
  refine congrArg some ?_
  apply cmp_int <;> simp <;> omega
 ·rw [order_num, keyF_neg a, keyF_neg c]
  have g1 := vl_iff a c
  have g2 := vl_iff c a
  refine congrArg some ?_
  apply cmp_int <;> simp <;> omega
 ·rw [keyF_neg a, keyF_inf, Int.compare_eq_lt.2 (by omega)]
  rfl
 ·rw [keyF_neg a, keyF_ninf, Int.compare_eq_gt.2 (by omega)]
  rfl
 ·rw [keyF_inf, keyF_pos (show y < 9223372036854775808 by omega), Int.compare_eq_gt.2 (by omega)]
  rfl
 ·rw [keyF_inf, keyF_neg c, Int.compare_eq_gt.2 (by omega)]
  rfl
 ·decide
 ·decide
 ·rw [keyF_ninf, keyF_pos (show y < 9223372036854775808 by omega), Int.compare_eq_lt.2 (by omega)]
  rfl
 ·rw [keyF_ninf, keyF_neg c, Int.compare_eq_lt.2 (by omega)]
  rfl
 ·decide
 ·decide
theorem read_nanG {b : Nat} (h : 9218868437227405312 < b % 9223372036854775808) : ∃ s f, FloatKind.f64.format.read b = .nan s f := by
 have e1 : FloatKind.f64.format.signWeight = 9223372036854775808 := by decide
 have e2 : FloatKind.f64.format.binade = 4503599627370496 := by decide
 have e3 : FloatKind.f64.format.infRung = 9218868437227405312 := by decide
 unfold Ieee.Format.read
 simp only [e1, e2, e3]
 rw [if_neg (by omega), if_neg (by omega), if_neg (by omega)]
 exact ⟨_, _, rfl⟩
theorem nan_not {x : Nat} (h : nanF x = false) : x % 9223372036854775808 ≤ 9218868437227405312 := by
 rcases Nat.lt_or_ge 9218868437227405312 (x % 9223372036854775808) with h1 | h1
 ·exfalso
  obtain ⟨s, f, hr⟩ := read_nanG h1
  unfold nanF Ieee.Format.order at h
  rw [hr] at h
  have e : (Ieee.Datum.nan s f).order (Ieee.Datum.nan s f) = none := rfl
  rw [e] at h
  exact absurd h (by decide)
 ·exact h1
theorem prefB_lt (l : List UInt8) : prefB l < 18446744073709551616 := by
 have h : prefV l < 9223372036854775808 := by
  unfold prefV
  split
  ·omega
  ·exact readN_le _ _
 unfold prefB
 split <;> omega
theorem numC_lt (k : Int) {x : Nat} (s : ByteArray) (hx : x < 18446744073709551616) : numC k x s < 18446744073709551616 := by
 unfold numC
 split
 ·exact hx
 ·split
  ·exact prefB_lt _
  ·omega
section
variable {k1 k2 k3 : Int} {x1 x2 x3 : Nat} {s1 s2 s3 : ByteArray}
end
end Go.Proofs.YtfdnhkjeoeffoaaGreatDoor
end

section
/- Plain: floats to integers; the greater and the lesser of two floats. -/
namespace Go.Proofs.YtfdnhkjeoeffoaaGreatDoor
open Go.RowKit
set_option linter.unusedVariables false
theorem zero_cut (s : Bool) (n d : Nat) : Ieee.Toward.zero.cut s n d = n / 2 ^ d := by
 unfold Ieee.Toward.cut
 simp only
 rcases Nat.lt_or_ge (n.log2 + 2) d with h | h
 ·rw [Nat.min_eq_right (by omega), Nat.one_shiftLeft]
  have h1 : n < 2 ^ (n.log2 + 1) := Nat.lt_log2_self
  have h2 : n < 2 ^ (n.log2 + 2) := Nat.lt_of_lt_of_le h1 (Nat.pow_le_pow_right (by decide) (by omega))
  have h3 : n < 2 ^ d := Nat.lt_of_lt_of_le h2 (Nat.pow_le_pow_right (by decide) (by omega))
  rw [Nat.div_eq_of_lt h2, Nat.div_eq_of_lt h3]
  simp
 ·rw [Nat.min_eq_left h, Nat.one_shiftLeft]
  simp
theorem vl_div (b : Nat) : (mof b <<< ((jof b : Int) - 1074).toNat) / 2 ^ (-((jof b : Int) - 1074)).toNat = vl b / kk := by
 unfold vl kk
 obtain ⟨K, hK⟩ : ∃ K, K = bias := ⟨_, rfl⟩
 have hKi : (K : Int) = 1074 := by rw [hK]; rfl
 rw [← hK, Nat.shiftLeft_eq]
 generalize mof b = M
 generalize jof b = J
 rcases Nat.le_total J K with h | h
 ·rw [show ((J : Int) - 1074).toNat = 0 by omega, show (-((J : Int) - 1074)).toNat = K - J by omega, Nat.pow_zero, Nat.mul_one]
  obtain ⟨d, rfl⟩ : ∃ d, K = d + J := ⟨K - J, by omega⟩
  rw [Nat.add_sub_cancel, Nat.pow_add, Nat.mul_div_mul_right _ _ (pow2_pos J)]
 ·rw [show ((J : Int) - 1074).toNat = J - K by omega, show (-((J : Int) - 1074)).toNat = 0 by omega, Nat.pow_zero, Nat.div_one]
  obtain ⟨d, rfl⟩ : ∃ d, J = d + K := ⟨J - K, by omega⟩
  rw [Nat.add_sub_cancel, Nat.pow_add, ← Nat.mul_assoc, Nat.mul_div_cancel _ (pow2_pos K)]
/-- a float as an integer, cut towards nought -/
theorem int_fin {b : Nat} (hb : b < 18446744073709551616) (hf : b % 9223372036854775808 < 9218868437227405312) :
 ∃ s : Bool, (FloatKind.f64.decode b).toInt .zero = some (if s then -((vl (b % 9223372036854775808) / kk : Nat) : Int) else ((vl (b % 9223372036854775808) / kk : Nat) : Int)) ∧ sv b = if s then -(vl (b % 9223372036854775808) : Int) else (vl (b % 9223372036854775808) : Int) := by
 obtain ⟨s, h1, h2⟩ := read_sv hb hf
 refine ⟨s, ?_, h2⟩
 unfold FloatKind.decode Ieee.Datum.toInt Ieee.Datum.integral
 rw [h1]
 simp only
 rw [zero_cut, vl_div]
 unfold Ieee.signed
 rw [Nat.shiftLeft_zero]
theorem int_some {b : Nat} (hb : b < 18446744073709551616) (hf : b % 9223372036854775808 < 9218868437227405312) (hq : vl (b % 9223372036854775808) / kk < 4611686018427387904) : ∃ n : Int, floatToIntVal .f64 b .i64 = some n ∧ n.natAbs = vl (b % 9223372036854775808) / kk := by
 obtain ⟨s, h1, _⟩ := int_fin hb hf
 generalize vl (b % 9223372036854775808) / kk = q at *
 have e1 : IntKind.i64.min = -9223372036854775808 := by decide
 have e2 : IntKind.i64.max = 9223372036854775807 := by decide
 refine ⟨if s then -(q : Int) else (q : Int), ?_, ?_⟩
 ·unfold floatToIntVal
  rw [h1]
  simp only [e1, e2]
  rw [if_pos]
  cases s
  ·simp; omega
  ·simp; omega
 ·cases s <;> simp
/-- the greater, the lesser of two floats that are numbers -/
def maxF (x y : Nat) : Nat := if FloatKind.f64.format.order x y = some .lt then y else if FloatKind.f64.format.order x y = some .gt then x else if (FloatKind.f64.decode x).neg then y else x
def minF (x y : Nat) : Nat := if FloatKind.f64.format.order x y = some .lt then x else if FloatKind.f64.format.order x y = some .gt then y else if (FloatKind.f64.decode x).neg then x else y
theorem run_maxF {P : Program} {x y : Nat} (h : FloatKind.f64.format.order x y ≠ none) (ts : Array TypeId) (t : TypeId) (w : World) : (Builtin.max_ ts t #[.float .f64 x, .float .f64 y]).run P w = .ok (.float .f64 (maxF x y)) w := by
 unfold maxF
 simp only [Builtin.max_, Builtin.max2, List.foldlM_cons, List.foldlM_nil, Sem.run_bind]
 generalize FloatKind.f64.format.order x y = O at *
 generalize (FloatKind.f64.decode x).neg = N
 rcases O with _ | o
 ·exact absurd rfl h
 ·cases o <;> rfl
theorem run_minF {P : Program} {x y : Nat} (h : FloatKind.f64.format.order x y ≠ none) (ts : Array TypeId) (t : TypeId) (w : World) : (Builtin.min_ ts t #[.float .f64 x, .float .f64 y]).run P w = .ok (.float .f64 (minF x y)) w := by
 unfold minF
 simp only [Builtin.min_, Builtin.min2, List.foldlM_cons, List.foldlM_nil, Sem.run_bind]
 generalize FloatKind.f64.format.order x y = O at *
 generalize (FloatKind.f64.decode x).neg = N
 rcases O with _ | o
 ·exact absurd rfl h
 ·cases o <;> rfl
/-- a value as a width: NaN is 0; no further than 2000 from nought -/
def star0 (x : Nat) : Nat := if nanF (truncB x) then 0 else truncB x
def starF (x : Nat) : Nat := minF (maxF (star0 x) 13879882945323335680) 4656510908468559872
def starI (x : Nat) : Int := (floatToIntVal .f64 (starF x) .i64).getD 0
theorem star0_num (x : Nat) (hx : truncB x < 18446744073709551616) : star0 x < 18446744073709551616 ∧ star0 x % 9223372036854775808 ≤ 9218868437227405312 := by
 unfold star0
 cases h : nanF (truncB x)
 ·rw [if_neg Bool.false_ne_true]; exact ⟨hx, nan_not h⟩
 ·rw [if_pos rfl]; exact ⟨by decide, by decide⟩
theorem starF_ok (x : Nat) (hx : truncB x < 18446744073709551616) : FloatKind.f64.format.order (star0 x) 13879882945323335680 ≠ none ∧ FloatKind.f64.format.order (maxF (star0 x) 13879882945323335680) 4656510908468559872 ≠ none ∧
 floatToIntVal .f64 (starF x) .i64 = some (starI x) ∧ -2000 ≤ starI x ∧ starI x ≤ 2000 := by
 obtain ⟨h1, h2⟩ := star0_num x hx
 have o1 := order_key h1 (show 13879882945323335680 < 18446744073709551616 by decide) h2 (by decide)
 have k1 : keyF 13879882945323335680 = -4656510908468559872 := by decide
 have k2 : keyF 4656510908468559872 = 4656510908468559872 := by decide
 rw [k1] at o1
 have hm : maxF (star0 x) 13879882945323335680 < 18446744073709551616 ∧ maxF (star0 x) 13879882945323335680 % 9223372036854775808 ≤ 9218868437227405312 ∧ -4656510908468559872 ≤ keyF (maxF (star0 x) 13879882945323335680) := by
  unfold maxF
  rw [o1]
  by_cases c1 : keyF (star0 x) < -4656510908468559872
  ·rw [if_pos (by rw [Int.compare_eq_lt.2 c1])]
   exact ⟨by decide, by decide, by rw [k1]; decide⟩
  ·have hne : ¬ some (compare (keyF (star0 x)) (-4656510908468559872)) = some Ordering.lt := fun h => c1 (Int.compare_eq_lt.1 (Option.some.inj h))
   rw [if_neg hne]
   split
   ·exact ⟨h1, h2, by omega⟩
   ·split
    ·exact ⟨by decide, by decide, by rw [k1]; decide⟩
    ·exact ⟨h1, h2, by omega⟩
 obtain ⟨m1, m2, m3⟩ := hm
 generalize hM : maxF (star0 x) 13879882945323335680 = M at *
 have o2 := order_key m1 (show 4656510908468559872 < 18446744073709551616 by decide) m2 (by decide)
 rw [k2] at o2
 have hs : starF x = minF M 4656510908468559872 := by unfold starF; rw [hM]
 have hn : starF x < 18446744073709551616 ∧ -4656510908468559872 ≤ keyF (starF x) ∧ keyF (starF x) ≤ 4656510908468559872 := by
  rw [hs]
  unfold minF
  rw [o2]
  by_cases c1 : 4656510908468559872 < keyF M
  ·rw [if_neg (by rw [Int.compare_eq_gt.2 c1]; decide), if_pos (by rw [Int.compare_eq_gt.2 c1])]
   exact ⟨by decide, by rw [k2]; decide, by rw [k2]; decide⟩
  ·have hne : ¬ some (compare (keyF M) 4656510908468559872) = some Ordering.gt := fun h => c1 (Int.compare_eq_gt.1 (Option.some.inj h))
   split
   ·exact ⟨m1, by omega, by omega⟩
   ·first | rw [if_neg hne] | skip
    split
    ·exact ⟨m1, by omega, by omega⟩
    ·exact ⟨by decide, by rw [k2]; decide, by rw [k2]; decide⟩
 obtain ⟨n1, n2, n3⟩ := hn
 have n4 : starF x % 9223372036854775808 ≤ 4656510908468559872 := by unfold keyF at n2 n3; split at n2 <;> omega
 have hv : vl (starF x % 9223372036854775808) ≤ 2000 * kk := by
  refine Nat.le_trans (vl_le n4) (Nat.le_of_eq ?_)
  have h := (whole_bits (show 2000 < 9007199254740992 by decide)).2
  rw [show FloatKind.f64.nearest ((2000 : Nat) : Int) = 4656510908468559872 from by kernel_rfl] at h
  exact h
 have hq : vl (starF x % 9223372036854775808) / kk ≤ 2000 := Nat.div_le_of_le_mul (by rw [Nat.mul_comm]; exact hv)
 have h5 : starF x % 9223372036854775808 < 9218868437227405312 := by clear hq hv; omega
 obtain ⟨n, e1, e2⟩ := int_some n1 h5 (Nat.lt_of_le_of_lt hq (by decide))
 rw [← e2] at hq
 clear e2 hv
 refine ⟨by rw [o1]; simp, by rw [o2]; simp, ?_, ?_, ?_⟩
 ·unfold starI; rw [e1]; rfl
 ·unfold starI; rw [e1]; show -2000 ≤ n; omega
 ·unfold starI; rw [e1]; show n ≤ 2000; omega
end Go.Proofs.YtfdnhkjeoeffoaaGreatDoor
end

section
/- Package format: general at any precision. -/
namespace Go.Proofs.YtfdnhkjeoeffoaaGreatDoor
open Go.RowKit
set_option linter.unusedVariables false
end Go.Proofs.YtfdnhkjeoeffoaaGreatDoor
end

section
/- What Fixed, Sci and general write, plain: sizes, and that it is ASCII. -/
namespace Go.Proofs.YtfdnhkjeoeffoaaGreatDoor
open Go.RowKit
set_option linter.unusedVariables false
/-- a contract's fact that no world matters to -/
theorem Calls.fact {P : Program} {f : FuncId} {args : Array Value} {w : World} {R : Ending → World → Prop} {p : Prop} (h : Calls P f args w R) (hp : ∀ e w', R e w' → p) : p := by
 obtain ⟨e, w', fr, hr, _⟩ := h []
 exact hp e w' hr
theorem sci_ok (b p : Nat) (hb : b < 18446744073709551616) (hf : fin b = true) (hp : p ≤ 200) : SciOk b p := Calls.fact (Sci_det b p default hb hf hp) fun _ _ h => h.2.1
theorem fix_ok (b p : Nat) (hb : b < 18446744073709551616) (hf : fin b = true) (hp : p ≤ 200) : ∃ l, Canon l (scaledN b p) ∧ l.length ≤ 4001 ∧ fixT b p = fixedL l p := by
 refine Calls.fact (Fixed_ok b p default hb hf hp) fun _ _ h => ?_
 obtain ⟨s, l, _, hc, _, _⟩ := h
 refine ⟨l, hc, canon_len (k := 4001) hc (Nat.lt_of_lt_of_le (nbits_le.1 (scaledN_lt (by omega) (by omega))) (two_ten 4001)) (by decide), ?_⟩
 unfold fixT
 rw [dl_eq hc]
def Asc (l : List UInt8) : Prop := ∀ c ∈ l, c.toNat < 128
theorem Asc.app {l m : List UInt8} (h : Asc l) (k : Asc m) : Asc (l ++ m) := fun c hc => (List.mem_append.1 hc).elim (h c) (k c)
theorem Asc.sub {l m : List UInt8} (h : Asc m) (k : ∀ c ∈ l, c ∈ m) : Asc l := fun c hc => h c (k c hc)
theorem Asc.rep (n : Nat) {c : UInt8} (h : c.toNat < 128) : Asc (List.replicate n c) := fun x hx => by rw [List.eq_of_mem_replicate hx]; exact h
theorem Asc.digits {l : List UInt8} (h : Digits l) : Asc l := fun c hc => by have := h c hc; omega
theorem Asc.cons {l : List UInt8} {c : UInt8} (h : c.toNat < 128) (k : Asc l) : Asc (c :: l) := fun x hx => by
 rcases List.mem_cons.1 hx with rfl | hx
 ·exact h
 ·exact k x hx
theorem Asc.nil : Asc [] := fun c hc => by cases hc
theorem fixedL_asc {l : List UInt8} (h : Asc l) (p : Nat) : Asc (fixedL l p) := by
 have hq : Asc (if l.length ≤ p then List.replicate (p + 1 - l.length) 48 ++ l else l) := by
  split
  ·exact (Asc.rep _ (by decide)).app h
  ·exact h
 unfold fixedL
 dsimp only
 generalize (if l.length ≤ p then List.replicate (p + 1 - l.length) 48 ++ l else l) = q at *
 split
 ·exact (hq.sub fun c hc => List.mem_of_mem_take hc).app ((hq.sub fun c hc => List.mem_of_mem_drop hc).cons (by decide))
 ·exact hq
theorem fixedL_len5 (l : List UInt8) (p : Nat) : (fixedL l p).length ≤ l.length + p + 2 := by
 have hq : (if l.length ≤ p then List.replicate (p + 1 - l.length) (48 : UInt8) ++ l else l).length ≤ l.length + p + 1 := by
  split
  ·simp; omega
  ·omega
 unfold fixedL
 dsimp only
 generalize (if l.length ≤ p then List.replicate (p + 1 - l.length) (48 : UInt8) ++ l else l) = q at *
 split
 ·simp; omega
 ·omega
theorem fix_asc {b p : Nat} (hb : b < 18446744073709551616) (hf : fin b = true) (hp : p ≤ 200) : Asc (fixT b p) ∧ (fixT b p).length ≤ 5000 := by
 obtain ⟨l, hc, hl, he⟩ := fix_ok b p hb hf hp
 rw [he]
 have := fixedL_len5 l p
 exact ⟨fixedL_asc (Asc.digits hc.dig) p, by omega⟩
theorem itoa_asc : ((List.range 326).all fun n => (Lib.itoa (n : Int)).all fun c => decide (c.toNat < 128)) = true := by kernel_rfl
theorem itoa_asc' {n : Nat} (h : n ≤ 325) : Asc (Lib.itoa (n : Int)) := by
 have h1 := List.all_eq_true.1 itoa_asc n (List.mem_range.2 (by omega))
 intro c hc
 exact of_decide_eq_true (List.all_eq_true.1 h1 c hc)
theorem ext_mem {s : ByteArray} {i j : Nat} {c : UInt8} (h : c ∈ (s.extract i j).data.toList) : c ∈ s.data.toList := by
 rw [show (s.extract i j).data = s.data.extract i j from ByteArray.data_extract] at h
 simp only [Array.toList_extract, List.extract_eq_take_drop] at h
 exact List.mem_of_mem_drop (List.mem_of_mem_take h)
theorem Asc.appB {s t : ByteArray} (h : Asc s.data.toList) (k : Asc t.data.toList) : Asc (s ++ t).data.toList := by
 rw [ByteArray.data_append, Array.toList_append]
 exact h.app k
theorem sciO_asc {b p : Nat} (alt : Bool) (hb : b < 18446744073709551616) (hf : fin b = true) (hp : p ≤ 200) : Asc (sciO b p alt).data.toList ∧ (sciO b p alt).size ≤ 1000 := by
 have hok := sci_ok b p hb hf hp
 refine ⟨?_, (sciO_facts (alt := alt) hok hp).1⟩
 have h1 := hok.lo
 have h2 := hok.hi
 have hD : Asc (⟨(sciD b p).toArray⟩ : ByteArray).data.toList := Asc.digits hok.dig
 have hT : Asc (⟨(Lib.itoa ((sciE b p).natAbs : Int)).toArray⟩ : ByteArray).data.toList := itoa_asc' (by omega)
 have hd : ∀ i j, Asc ((⟨(sciD b p).toArray⟩ : ByteArray).extract i j).data.toList := fun i j => hD.sub fun c hc => ext_mem hc
 have l1 : ∀ c : UInt8, c.toNat < 128 → Asc (⟨#[c]⟩ : ByteArray).data.toList := fun c hc => Asc.nil.cons hc
 unfold sciO
 dsimp only
 refine Asc.appB ?_ hT
 have hs1 : Asc (if 0 < p ∨ alt = true then (⟨(sciD b p).toArray⟩ : ByteArray).extract 0 1 ++ ⟨#[46]⟩ else (⟨(sciD b p).toArray⟩ : ByteArray).extract 0 1).data.toList := by
  split
  ·exact (hd _ _).appB (l1 46 (by decide))
  ·exact hd _ _
 generalize (if 0 < p ∨ alt = true then (⟨(sciD b p).toArray⟩ : ByteArray).extract 0 1 ++ ⟨#[46]⟩ else (⟨(sciD b p).toArray⟩ : ByteArray).extract 0 1) = S1 at *
 have hs2 : Asc (S1 ++ ((⟨(sciD b p).toArray⟩ : ByteArray).extract 1 (⟨(sciD b p).toArray⟩ : ByteArray).size ++ ⟨#[101]⟩)).data.toList := hs1.appB ((hd _ _).appB (l1 101 (by decide)))
 generalize S1 ++ ((⟨(sciD b p).toArray⟩ : ByteArray).extract 1 (⟨(sciD b p).toArray⟩ : ByteArray).size ++ ⟨#[101]⟩) = S2 at *
 split <;> split
 ·exact (hs2.appB (l1 45 (by decide))).appB (l1 48 (by decide))
 ·exact (hs2.appB (l1 43 (by decide))).appB (l1 48 (by decide))
 ·exact hs2.appB (l1 45 (by decide))
 ·exact hs2.appB (l1 43 (by decide))
theorem bare_mem {s : ByteArray} {c : UInt8} (h : c ∈ (bareS s).data.toList) : c ∈ s.data.toList := by
 have h : c ∈ Lib.trimSuffix (Lib.trimRightB s.data.toList 48) [46] := h
 have h1 : c ∈ Lib.trimRightB s.data.toList 48 := by
  unfold Lib.trimSuffix at h
  split at h
  ·exact List.mem_of_mem_take h
  ·exact h
 unfold Lib.trimRightB at h1
 have h2 := (List.dropWhile_suffix _).subset (List.mem_reverse.1 h1)
 exact List.mem_reverse.1 h2
theorem genO_asc {b p : Nat} (alt : Bool) (hb : b < 18446744073709551616) (hf : fin b = true) (hp : p ≤ 190) : Asc (genO b p alt).data.toList := by
 have hok := sci_ok b p hb hf (by omega)
 have hX := (sciO_asc (p := p) true hb hf (by omega)).1
 have hT : Asc (genT b p).data.toList := by
  unfold genT
  split
  ·exact hX.sub fun c hc => ext_mem hc
  ·exact Asc.nil
 have hH : Asc (genH b p).data.toList := by
  unfold genH
  by_cases hB : genB b p = true
  ·rw [if_pos hB]
   exact hX.sub fun c hc => ext_mem hc
  ·rw [if_neg hB]
   have hF : Asc (genF b p).data.toList := by
    unfold genF
    have h1 : ¬ (sciE b p < -4) ∧ ¬ ((p : Int) + 1 ≤ sciE b p) := by
     unfold genB at hB
     simp only [Bool.or_eq_true, decide_eq_true_eq, not_or] at hB
     exact hB
    exact (fix_asc hb hf (by omega)).1
   split
   ·exact hF
   ·exact hF.appB (Asc.nil.cons (by decide))
 unfold genO
 refine Asc.appB ?_ hT
 split
 ·exact hH
 ·exact hH.sub fun c hc => bare_mem hc
end Go.Proofs.YtfdnhkjeoeffoaaGreatDoor
end

section
/- Package ustr: Next, All; the characters of a string. -/
namespace Go.Proofs.YtfdnhkjeoeffoaaGreatDoor
open Go.RowKit
set_option linter.unusedVariables false
/-- the tables of unicode/utf8 -/
def U8Ok (w : World) : Prop := Lib.Utf8Tabs 4 5 w
theorem U8Ok.below {w w' : World} (h : U8Ok w) (hb : Below w.heap.size w w') : U8Ok w' := by
 have old : ∀ {p : Addr} {v : Value}, w.cell? p = some v → w'.cell? p = some v := fun {p v} h => by
  refine (hb.cell ?_).trans h
  rcases Nat.lt_or_ge p.block w.heap.size with h' | h'
  ·exact h'
  ·exfalso
   unfold World.cell? at h
   rw [Array.getElem?_eq_none h'] at h
   cases h
 exact ⟨fun c hc => old (h.1 c hc), fun i hi => ⟨old (h.2 i hi).1, old (h.2 i hi).2⟩⟩
/-- the rune at a place, and its width -/
def dgo (s : ByteArray) (m : Nat) : Nat × Nat := Lib.decodeGo (s.extract m s.size)
/-- the character at a place: its code and its width -/
def nxt (s : ByteArray) (m : Nat) (b : Bool) : Nat × Nat :=
 if b = true then (ch s m, 1) else if (dgo s m).1 = 65533 ∧ (dgo s m).2 = 1 then (1114112 + ch s m, 1) else dgo s m
theorem decode_width (s : ByteArray) (i : Nat) : 1 ≤ (Utf8.decode s i).2 ∧ (Utf8.decode s i).2 ≤ 4 ∧ (Utf8.decode s i).1 ≤ 4194304 := by
 have hb : ∀ k, (s.get! k).toNat < 256 := fun k => UInt8.toNat_lt _
 have h0 := hb (i + 0)
 have h1 := hb (i + 1)
 have h2 := hb (i + 2)
 have h3 := hb (i + 3)
 unfold Utf8.decode
 simp only [Utf8.runeError]
 repeat' split
 all_goals refine ⟨?_, ?_, ?_⟩ <;> first | omega | (simp only []; omega)
theorem dgo_width {s : ByteArray} {m : Nat} (h : m < s.size) : 1 ≤ (dgo s m).2 ∧ (dgo s m).2 ≤ 4 ∧ (dgo s m).1 ≤ 4194304 := by
 unfold dgo Lib.decodeGo
 rw [if_neg (by rw [ByteArray.size_extract]; omega)]
 exact decode_width _ 0
theorem nxt_width {s : ByteArray} {m : Nat} (b : Bool) (h : m < s.size) : 1 ≤ (nxt s m b).2 ∧ (nxt s m b).2 ≤ 4 ∧ (nxt s m b).1 ≤ 4194304 := by
 have h1 := dgo_width h
 have h2 := ch_lt s m
 unfold nxt
 split
 ·exact ⟨Nat.le_refl _, by simp only []; omega, by simp only []; omega⟩
 ·split
  ·exact ⟨Nat.le_refl _, by simp only []; omega, by simp only []; omega⟩
  ·exact h1
set_option maxHeartbeats 4000000 in
set_option maxRecDepth 100000 in
theorem UNext_any (s : ByteArray) (m : Nat) (b : Bool) (w : World) (hm : m < s.size) (hs : s.size ≤ 140737488351232) (hU : U8Ok w) :
 Calls Tryz.prog 242 #[.string s, .int .i64 (m : Int), .bool b] w fun e w' => e = .returned (.tuple #[.int .i64 ((nxt s m b).1 : Nat), .int .i64 ((nxt s m b).2 : Nat)]) ∧ Below w.heap.size w w' := by
 have hcc : s[m].toNat = ch s m := ch_in hm
 have hI : (m : Int) < (s.size : Int) := by omega
 have hS : (s.size : Int) ≤ 140737488351232 := by omega
 have hneg : decide ((m : Int) < 0) = false := by simp
 have hch := ch_lt s m
 obtain ⟨N, hN⟩ : ∃ N, N = nxt s m b := ⟨_, rfl⟩
 rw [← hN]
 unfold nxt at hN
 have HD := Lib.hid (Tryz.utf8_DecodeRuneInString (s.extract m s.size) w hU)
 rw [show Lib.decodeGo (s.extract m s.size) = dgo s m from rfl] at HD
 have hdw := dgo_width hm
 obtain ⟨⟨R, K⟩, hd⟩ : ∃ x, x = dgo s m := ⟨_, rfl⟩
 rw [← hd] at hN HD hdw
 clear hd
 dsimp only at hN HD hdw
 generalize ch s m = c at *
 cases b
 ·have HN := Lib.hid hN
  clear hN
  go_enter Tryz.func242, Tryz.ntmps242
  go_wp2_with fail
  refine HD.out.mono ?_
  rintro e w1 ⟨rfl, hb⟩
  have HB := Lib.hid hb
  clear hb
  by_cases hR : R = 65533
  ·subst hR
   by_cases hK : K = 1
   ·subst hK
    obtain rfl : N = (1114112 + c, 1) := by rw [HN.out]; simp
    clear HN HD
    go_wp2_with fail
    go_ret2
    exact ⟨by simp, HB.out⟩
   ·have hKb : ((K : Int) == 1) = false := by simp; omega
    obtain rfl : N = (65533, K) := by rw [HN.out]; simp [hK]
    clear HN HD hK
    go_wp2_with fail
    go_ret2
    exact ⟨rfl, HB.out⟩
  ·have hRb : ((R : Int) == 65533) = false := by simp; omega
   obtain rfl : N = (R, K) := by rw [HN.out]; simp [hR]
   clear HN HD hR
   go_wp2_with fail
   go_ret2
   exact ⟨rfl, HB.out⟩
 ·rw [if_pos rfl] at hN
  subst hN
  clear HD
  go_enter Tryz.func242, Tryz.ntmps242
  go_wp2_with fail
  go_ret2
  exact ⟨rfl, Below.refl _ _⟩
theorem UAll_any (s : ByteArray) (b : Bool) (w : World) :
 Calls Tryz.prog 189 #[.string s, .bool b] w fun e w' => e = .returned (.func (.func 241) #[] #[.pointer (some ⟨w.heap.size, 0, none⟩), .pointer (some ⟨w.heap.size + 1, 0, none⟩)]) ∧ w' = (w.alloc (.cells #[.string s] 9)).alloc (.cells #[.bool b] 4) := by
 go_enter Tryz.func189, Tryz.ntmps189
 go_wp2_with fail
 go_ret
 exact ⟨rfl, rfl⟩
end Go.Proofs.YtfdnhkjeoeffoaaGreatDoor
end

section
/- Package ustr: the iterator over a string's characters. -/
namespace Go.Proofs.YtfdnhkjeoeffoaaGreatDoor
open Go.RowKit Go.Shelf
set_option linter.unusedVariables false
attribute [local go_sem] Oper.semAt_some
/-- the characters from a place on: places and codes -/
def charsF (s : ByteArray) (b : Bool) : Nat → Nat → List (Nat × Nat)
 | 0, _ => []
 | n + 1, m => if m < s.size then (m, (nxt s m b).1) :: charsF s b n (m + (nxt s m b).2) else []
def chars (s : ByteArray) (b : Bool) (m : Nat) : List (Nat × Nat) := charsF s b (s.size - m) m
theorem charsF_end {s : ByteArray} {b : Bool} {n m : Nat} (h : s.size ≤ m) : charsF s b n m = [] := by
 cases n with
 | zero => rfl
 | succ n => unfold charsF; rw [if_neg (by omega)]
theorem charsF_more (s : ByteArray) (b : Bool) : ∀ (n k m : Nat), s.size - m ≤ n → s.size - m ≤ k → charsF s b n m = charsF s b k m := by
 intro n
 induction n with
 | zero => intro k m h1 h2; rw [charsF_end (by omega), charsF_end (by omega)]
 | succ n ih =>
   intro k m h1 h2
   rcases Nat.lt_or_ge m s.size with h | h
   ·have hw := nxt_width b h
    cases k with
    | zero => omega
    | succ k =>
      show (if m < s.size then _ else _) = (if m < s.size then _ else _)
      rw [if_pos h, if_pos h, ih k (m + (nxt s m b).2) (by omega) (by omega)]
   ·rw [charsF_end h, charsF_end h]
theorem chars_step {s : ByteArray} {b : Bool} {m : Nat} (h : m < s.size) : chars s b m = (m, (nxt s m b).1) :: chars s b (m + (nxt s m b).2) := by
 have hw := nxt_width b h
 unfold chars
 obtain ⟨k, hk⟩ : ∃ k, s.size - m = k + 1 := ⟨s.size - m - 1, by omega⟩
 rw [hk]
 show (if m < s.size then _ else _) = _
 rw [if_pos h, charsF_more s b k (s.size - (m + (nxt s m b).2)) _ (by omega) (by omega)]
theorem chars_end {s : ByteArray} {b : Bool} {m : Nat} (h : s.size ≤ m) : chars s b m = [] := charsF_end h
theorem chars_len (s : ByteArray) (b : Bool) : ∀ (n m : Nat), s.size - m ≤ n → (chars s b m).length ≤ s.size - m := by
 intro n
 induction n with
 | zero => intro m h; rw [chars_end (by omega)]; simp
 | succ n ih =>
   intro m h
   rcases Nat.lt_or_ge m s.size with h' | h'
   ·have hw := nxt_width b h'
    have := ih (m + (nxt s m b).2) (by omega)
    rw [chars_step h', List.length_cons]
    omega
   ·rw [chars_end h']; simp
theorem U8Ok.lt1 {w : World} (h : U8Ok w) : 4 < w.heap.size := by
 have h0 := h.1 0 (by decide)
 rcases Nat.lt_or_ge 4 w.heap.size with h' | h'
 ·exact h'
 ·exfalso
  unfold World.cell? at h0
  rw [Array.getElem?_eq_none h'] at h0
  cases h0
theorem U8Ok.lt2 {w : World} (h : U8Ok w) : 5 < w.heap.size := by
 have h0 := (h.2 0 (by decide)).1
 rcases Nat.lt_or_ge 5 w.heap.size with h' | h'
 ·exact h'
 ·exfalso
  unfold World.cell? at h0
  rw [Array.getElem?_eq_none h'] at h0
  cases h0
theorem U8Ok.keep {n : Nat} {w w' : World} (h : U8Ok w) (hb : Below n w w') (h1 : 4 < n) (h2 : 5 < n) : U8Ok w' :=
 ⟨fun c hc => (hb.cell (p := ⟨4, c, none⟩) h1).trans (h.1 c hc), fun i hi => ⟨(hb.cell (p := ⟨5, 2 * i, none⟩) h2).trans (h.2 i hi).1, (hb.cell (p := ⟨5, 2 * i + 1, none⟩) h2).trans (h.2 i hi).2⟩⟩
/-- what a round keeps -/
def KpU (n₀ Bs Bb : Nat) (W W' : World) : Prop := Below n₀ W W' ∧ W'.heap[Bs]? = W.heap[Bs]? ∧ W'.heap[Bb]? = W.heap[Bb]?
theorem KpU.refl (n₀ Bs Bb : Nat) (W : World) : KpU n₀ Bs Bb W W := ⟨Below.refl _ _, rfl, rfl⟩
theorem KpU.trans {n₀ Bs Bb : Nat} {A B C : World} (h : KpU n₀ Bs Bb A B) (k : KpU n₀ Bs Bb B C) : KpU n₀ Bs Bb A C := ⟨h.1.trans k.1, k.2.1.trans h.2.1, k.2.2.trans h.2.2⟩
theorem KpU.below {n₀ Bs Bb : Nat} {A B : World} (h : Below A.heap.size A B) (h0 : n₀ ≤ A.heap.size) (h1 : Bs < A.heap.size) (h2 : Bb < A.heap.size) : KpU n₀ Bs Bb A B := ⟨h.mono h0, h.block _ h1, h.block _ h2⟩
theorem cell_same {W W' : World} {B i : Nat} (h : W'.heap[B]? = W.heap[B]?) : W'.cell? ⟨B, i, none⟩ = W.cell? ⟨B, i, none⟩ := by
 unfold World.cell?
 rw [h]
theorem KpU.put {n₀ Bs Bb : Nat} {w : World} (h0 : n₀ ≤ w.heap.size) (h1 : Bs < w.heap.size) (h2 : Bb < w.heap.size) (W : World) (l : Nat) (o o' : Obj) (hl : w.heap.size ≤ l) (h : W.heap[l]? = some o) (hc : o.isCells = false) (hw : o.isWalk = false) : KpU n₀ Bs Bb W (W.putObj l o') := by
 have hg := grownBy_putObj' W l o'
 have hlt := (Array.getElem?_eq_some_iff.1 h).1
 exact ⟨belowK_b h0 W l o o' hl h hc hw, hg.block Bs (by omega) (fun e => by cases e; omega), hg.block Bb (by omega) (fun e => by cases e; omega)⟩
theorem KpU.set {n₀ Bs Bb : Nat} {A B : World} (h : KpU n₀ Bs Bb A B) {p : Addr} (hp : n₀ ≤ p.block) (h1 : Bs ≠ p.block) (h2 : Bb ≠ p.block) (u : Value) : KpU n₀ Bs Bb A (B.setCell p u) :=
 ⟨h.1.setCell hp u, (Below.heap_setCell _ _ _ _ h1).trans h.2.1, (Below.heap_setCell _ _ _ _ h2).trans h.2.2⟩
set_option maxHeartbeats 4000000 in
set_option maxRecDepth 100000 in
theorem all1_any (n l Bs Bb n₀ : Nat) (s : ByteArray) (b : Bool) (hn : 1 ≤ n) (hs : s.size ≤ 140737488351232) (hU1 : 4 < n₀) (hU2 : 5 < n₀) (J Jx : List (Nat × Nat) → World → Prop)
 (W : World) (hn₀ : n₀ ≤ W.heap.size) (hB1 : Bs < W.heap.size) (hB2 : Bb < W.heap.size) (hJ : AbidesFrom W.heap.size J)
 (hY : ∀ pre (x : Nat × Nat) W1, J pre W1 → pre.length < s.size → YieldAt Fence.wide (n - 1) Tryz.prog l #[.int .i64 (x.1 : Int), .int .i64 (x.2 : Int)] W1 fun e W' =>
  (e = .returned (.bool true) ∧ J (pre ++ [x]) W' ∧ KpU n₀ Bs Bb W1 W') ∨ (e = .returned (.bool false) ∧ Jx (pre ++ [x]) W'))
 (hBs : W.cell? ⟨Bs, 0, none⟩ = some (.string s)) (hBb : W.cell? ⟨Bb, 0, none⟩ = some (.bool b)) (hU : U8Ok W) (h0 : J [] W) :
 CallsIn Fence.wide n Tryz.prog 241 #[.func (.yield l) #[] #[], .pointer (some ⟨Bs, 0, none⟩), .pointer (some ⟨Bb, 0, none⟩)] W fun e W' => (∃ v, e = .returned v) ∧
  ((∃ ys, ys = chars s b 0 ∧ J ys W') ∨ (∃ pre, pre <+: chars s b 0 ∧ Jx pre W')) := by
 refine callsIn_of_wp Tryz.func241 rfl trivial ?_ rfl
 simp only [Tryz.ntmps241, List.size_toArray, List.length_cons, List.length_nil, Nat.reduceAdd, Nat.reduceSub, Array.replicate_succ, Array.replicate_zero, List.push_toArray, List.append_toArray, List.nil_append, List.cons_append]
 have HY := Lib.hid hY
 have HJ := Lib.hid hJ
 have HU := Lib.hid hU
 have H0 := Lib.hid h0
 clear hY hJ hU h0
 gi_wp2
 gi_loopw [4] (fun p wr => ∃ (m : Nat) (pre : List (Nat × Nat)), p = .int .i64 (m : Int) ∧ Hid (pre ++ chars s b m = chars s b 0) ∧ pre.length ≤ m ∧ m ≤ s.size + 4 ∧ Hid (J pre wr) ∧ Hid (KpU n₀ Bs Bb W wr))
  (fun p _ => s.size - (intOf p).toNat)
 case atStart => exact ⟨0, [], rfl, rfl, Nat.zero_le _, Nat.zero_le _, H0.out, KpU.refl _ _ _ _⟩
 case round =>
  obtain ⟨m, pre, rfl, HE, hpm, hm4, HJs, HB⟩ := hrel
  have c1 : wr.cell? ⟨Bs, 0, none⟩ = some (.string s) := (cell_same HB.out.2.1).trans hBs
  have c2 : wr.cell? ⟨Bb, 0, none⟩ = some (.bool b) := (cell_same HB.out.2.2).trans hBb
  rcases Nat.lt_or_ge m s.size with hlt | hge
  ·have hI : (m : Int) < (s.size : Int) := by omega
   have hUr : U8Ok wr := HU.out.keep HB.out.1 hU1 hU2
   have HN := Lib.hid (UNext_any s m b wr hlt hs hUr)
   have hw := nxt_width b hlt
   have HE1 : Hid ((pre ++ [(m, (nxt s m b).1)]) ++ chars s b (m + (nxt s m b).2) = chars s b 0) := by
    show _ = _
    rw [← HE.out, chars_step hlt]
    simp
   obtain ⟨⟨c, k⟩, hnx⟩ : ∃ x, x = nxt s m b := ⟨_, rfl⟩
   rw [← hnx] at HN hw HE1
   clear hnx hUr
   dsimp only at HN hw HE1
   gi_wp2_with fail
   refine ⟨trivial, ?_⟩
   refine (callsIn_wide.2 HN.out).mono ?_
   rintro e w1 ⟨rfl, hb1⟩
   have hzz := HB.out.1.size
   have HB1 : Hid (KpU n₀ Bs Bb W w1) := HB.out.trans (KpU.below hb1 (by omega) (by omega) (by omega))
   have HJ1 : Hid (J pre w1) := HJ.out _ _ _ none HJs.out ⟨hb1.os, hb1.tape, hb1.output, hb1.size, fun k hk _ => hb1.block k hk⟩ (fun r e => by cases e)
   obtain ⟨fn, tmps, assign, body, hy, hR⟩ := HY.out pre (m, c) w1 HJ1.out (by omega)
   dsimp only at hy
   clear hb1 c1 c2 HJs HB
   gi_wp2_with fail
   refine hR.mono ?_
   rintro e W3 (⟨rfl, hJ3, hk3⟩ | ⟨rfl, hJx3⟩)
   ·have HJ3 := Lib.hid hJ3
    have HB3 : Hid (KpU n₀ Bs Bb W W3) := HB1.out.trans hk3
    clear hJ3 hk3 hR hy
    gi_wp2_with fail
    go_roundw
    case rel => exact ⟨m + k, pre ++ [(m, c)], by simp, HE1, by simp; omega, by omega, HJ3, HB3⟩
    case measure => simp only [intOf]; omega
   ·have HJx3 := Lib.hid hJx3
    clear hJx3 hR hy
    gi_wp2_with fail
    refine bodyPost_ret (results_none rfl _ _ _) rfl ?_
    exact ⟨⟨_, rfl⟩, .inr ⟨_, ⟨_, HE1.out⟩, HJx3.out⟩⟩
  ·have hI : (s.size : Int) ≤ (m : Int) := by omega
   have HE1 : Hid (pre = chars s b 0) := by
    have := HE.out
    rw [chars_end hge, List.append_nil] at this
    exact this
   gi_wp2_with fail
   go_end0
   exact ⟨⟨_, rfl⟩, .inl ⟨_, HE1.out, HJs.out⟩⟩
theorem all_stops (n Bs Bb n₀ : Nat) (s : ByteArray) (b : Bool) (hn : 1 ≤ n) (hs : s.size ≤ 140737488351232) (w : World) (hB1 : Bs < w.heap.size) (hB2 : Bb < w.heap.size) (hU1 : 4 < n₀) (hU2 : 5 < n₀) (hn₀ : n₀ ≤ w.heap.size)
 (hBs : w.cell? ⟨Bs, 0, none⟩ = some (.string s)) (hBb : w.cell? ⟨Bb, 0, none⟩ = some (.bool b)) (hU : U8Ok w) :
 SeqStopsK Fence.wide n Tryz.prog 241 #[.pointer (some ⟨Bs, 0, none⟩), .pointer (some ⟨Bb, 0, none⟩)] (fun x : Nat × Nat => #[Value.int .i64 (x.1 : Int), Value.int .i64 (x.2 : Int)]) (KpU n₀ Bs Bb) (fun ys => ys = chars s b 0)
  (fun pre => pre <+: chars s b 0) s.size w := fun l J Jx W hW hJ _ hY h0 =>
 all1_any n l Bs Bb n₀ s b hn hs hU1 hU2 J Jx W (Nat.le_trans hn₀ hW.size) (Nat.lt_of_lt_of_le hB1 hW.size) (Nat.lt_of_lt_of_le hB2 hW.size) hJ hY ((hW.cell (p := ⟨Bs, 0, none⟩) hB1).trans hBs) ((hW.cell (p := ⟨Bb, 0, none⟩) hB2).trans hBb) (hU.below hW) h0
end Go.Proofs.YtfdnhkjeoeffoaaGreatDoor
end

section
/- A region that draws its order, by an invariant over what has come up: each operation is walked once. -/
namespace Go.Proofs.YtfdnhkjeoeffoaaGreatDoor
open Go.RowKit
/-- i has come up too. -/
def upd (L : Nat → Bool) (i : Nat) : Nat → Bool := fun j => if j = i then true else L j
theorem upd_self (L : Nat → Bool) (i : Nat) : upd L i i = true := by simp [upd]
theorem upd_other (L : Nat → Bool) {i j : Nat} (h : j ≠ i) : upd L i j = L j := by simp [upd, h]
/-- Each operation waits for earlier ones alone, but for the edges that don't bind. -/
def orderedOps (ops : Array Oper) : Bool := (List.range ops.size).all fun i => ((ops[i]?).map fun o => o.after.all fun e => decide (e.on < i) || !(Region.binds .any e)).getD false
theorem all_listed {ops : Array Oper} {listed : Array Bool} (hord : orderedOps ops = true) (hs : listed.size = ops.size) (hr : Region.ready .any ops listed = []) :
 ∀ i, i < ops.size → listed.getD i false = true := by
 intro i
 induction i using Nat.strongRecOn with
 | ind i ih =>
   intro hi
   cases hl : listed.getD i false with
   | true => rfl
   | false =>
     exfalso
     have hm : i ∈ Region.ready .any ops listed := by
      rw [mem_ready]
      refine ⟨?_, ops[i], Array.getElem?_eq_getElem hi, ?_⟩
      ·have hi' : i < listed.size := by omega
       simp [hi'] at hl ⊢
       exact hl
      ·intro e he hbind
       have h1 := List.all_eq_true.1 hord i (List.mem_range.2 hi)
       rw [Array.getElem?_eq_getElem hi] at h1
       simp only [Option.map_some, Option.getD_some, Array.all_eq_true_iff_forall_mem] at h1
       have h2 := h1 e he
       rw [hbind, Bool.not_true, Bool.or_false] at h2
       replace h2 := of_decide_eq_true h2
       exact ih e.on h2 (by omega)
     rw [hr] at hm
     cases hm
theorem count_set : ∀ (l : List Bool) (i : Nat), l[i]? = some false → (l.set i true).count false + 1 = l.count false
 | [], i, h => by simp at h
 | b :: l, 0, h => by simp at h; subst h; simp
 | b :: l, i + 1, h => by
   have := count_set l i (by simpa using h)
   cases b <;> simp <;> omega
theorem wpAny_inv {P : Program} {ops : Array Oper} {Q : Exit → Act → World → Prop} (I : (Nat → Bool) → Act → World → Prop) (hord : orderedOps ops = true)
 (hstep : ∀ (L : Nat → Bool) (a : Act) (w : World) (i : Nat) (o : Oper), ops[i]? = some o → I L a w → L i = false → (∀ e ∈ o.after, Region.binds .any e = true → L e.on = true) → wpOp P ops Q i (I (upd L i)) a w)
 (hdone : ∀ (L : Nat → Bool) (a : Act) (w : World), (∀ i, i < ops.size → L i = true) → I L a w → Q .normal a w) :
 ∀ (fuel : Nat) (listed : Array Bool) (a : Act) (w : World), listed.size = ops.size → listed.toList.count false = fuel → I (fun j => listed.getD j false) a w → wpAny P .any ops Q fuel listed a w := by
 intro fuel
 induction fuel with
 | zero =>
   intro listed a w hs hc hI
   have hall : ∀ i, i < ops.size → listed.getD i false = true := by
    intro i hi
    have hi' : i < listed.size := by omega
    cases hl : listed.getD i false with
    | true => rfl
    | false =>
      exfalso
      have h0 : false ∉ listed.toList := List.count_eq_zero.1 hc
      apply h0
      simp [hi'] at hl
      rw [← hl]
      simp
   refine ⟨?_, hdone _ _ _ hall hI⟩
   cases hr : Region.ready .any ops listed with
   | nil => rfl
   | cons i rs =>
     exfalso
     have hm : i ∈ Region.ready .any ops listed := by rw [hr]; exact List.mem_cons_self
     obtain ⟨h1, o, ho, _⟩ := mem_ready.1 hm
     have hi : i < ops.size := (Array.getElem?_eq_some_iff.1 ho).1
     have hi' : i < listed.size := by omega
     have h2 := hall i hi
     simp [hi'] at h1 h2
     rw [h1] at h2
     cases h2
 | succ fuel ih =>
   intro listed a w hs hc hI
   refine ⟨fun hr => hdone _ _ _ (all_listed hord hs hr) hI, fun i hi => ?_⟩
   obtain ⟨h1, o, ho, hall⟩ := mem_ready.1 hi
   have hi0 : i < ops.size := (Array.getElem?_eq_some_iff.1 ho).1
   have hi' : i < listed.size := by omega
   have hlf : listed.getD i false = false := by simp [hi'] at h1 ⊢; exact h1
   refine wpOp_mono (fun a' w' hK => ih (listed.setIfInBounds i true) a' w' (by simp [hs]) ?_ ?_) (hstep _ a w i o ho hI hlf hall)
   ·have h3 : listed.toList[i]? = some false := by
     simp [hi'] at h1 ⊢
     exact h1
    have := count_set listed.toList i h3
    rw [Array.toList_setIfInBounds]
    omega
   ·have e : (fun j => (listed.setIfInBounds i true).getD j false) = upd (fun j => listed.getD j false) i := by
     funext j
     by_cases hj : j = i
     ·subst hj
      rw [upd_self]
      simp [hi']
     ·rw [upd_other _ hj]
      simp [Array.getElem?_setIfInBounds_ne (Ne.symm hj)]
    rw [e]
    exact hK
/-- A region that draws its order, by an invariant. -/
theorem wp_region_inv {P : Program} {ops : Array Oper} {Q : Exit → Act → World → Prop} {id : Nat} {a : Act} {w : World} (hm : P.follows .mixedOrders = true) (hord : orderedOps ops = true)
 (I : (Nat → Bool) → Act → World → Prop) (h0 : I (fun _ => false) a w.drew)
 (hstep : ∀ (L : Nat → Bool) (a : Act) (w : World) (i : Nat) (o : Oper), ops[i]? = some o → I L a w → L i = false → (∀ e ∈ o.after, Region.binds .any e = true → L e.on = true) → wpOp P ops Q i (I (upd L i)) a w)
 (hdone : ∀ (L : Nat → Bool) (a : Act) (w : World), (∀ i, i < ops.size → L i = true) → I L a w → Q .normal a w) : (Code.region id ops true).wp P Q a w := by
 refine wp_region_any hm (wpAny_inv I hord hstep hdone ops.size _ _ _ (by simp) (by simp) ?_)
 have e : (fun j => (Array.replicate ops.size false).getD j false) = fun _ => false := by
  funext j
  by_cases hj : j < ops.size
  ·simp [hj]
  ·simp [hj]
 rw [e]
 exact h0
/-- each operation of a list, with its number -/
def AllOps (p : Nat → Oper → Prop) : List Oper → Nat → Prop
 | [], _ => True
 | o :: r, i => p i o ∧ AllOps p r (i + 1)
theorem AllOps.get {p : Nat → Oper → Prop} : ∀ (l : List Oper) (k i : Nat) (o : Oper), AllOps p l k → l[i]? = some o → p (k + i) o
 | [], _, i, o, _, h => by simp at h
 | x :: l, k, 0, o, hp, h => by
   simp at h
   subst h
   exact hp.1
 | x :: l, k, i + 1, o, hp, h => by
   have := AllOps.get l (k + 1) i o hp.2 (by simpa using h)
   rw [show k + (i + 1) = k + 1 + i by omega]
   exact this
/-- the operations that one waits for -/
def depsOf (o : Oper) : List Nat := (o.after.toList.filter fun e => Region.binds .any e).map (·.on)
theorem wp_region_steps {P : Program} {ops : Array Oper} {Q : Exit → Act → World → Prop} {id : Nat} {a : Act} {w : World} (hm : P.follows .mixedOrders = true) (hord : orderedOps ops = true) (hng : (ops.toList.all fun o => o.guard.isNone) = true)
 (I : Act → World → (Nat → Bool) → Act → World → Prop) (h0 : I a w (fun _ => false) a w.drew)
 (hstep : AllOps (fun i o => ∀ (L : Nat → Bool) (a' : Act) (W : World), I a w L a' W → L i = false → (∀ j ∈ depsOf o, L j = true) → ∀ K : Act → World → Prop, (∀ a'' W', I a w (upd L i) a'' W' → K a'' W') → Oper.wp P o a' W K Q) ops.toList 0)
 (hdone : ∀ (L : Nat → Bool) (a' : Act) (W : World), (∀ i, i < ops.size → L i = true) → I a w L a' W → Q .normal a' W) : (Code.region id ops true).wp P Q a w := by
 refine wp_region_inv hm hord (I a w) h0 ?_ hdone
 intro L a' W i o ho hI hL hd
 refine wpOp_step ho (fun K hK => ?_)
 have ho' : ops.toList[i]? = some o := by simpa using ho
 have hg := List.all_eq_true.1 hng o (List.mem_of_getElem? ho')
 have hw : Region.wanted o (yielded ops a'.tmps) = true := by
  unfold Region.wanted
  cases h : o.guard with
  | none => rfl
  | some g => rw [h] at hg; cases hg
 rw [if_pos hw]
 have h := AllOps.get _ 0 i o hstep ho'
 rw [Nat.zero_add] at h
 refine h L a' W hI hL ?_ K hK
 intro j hj
 obtain ⟨e, he, rfl⟩ := List.mem_map.1 hj
 obtain ⟨he1, he2⟩ := List.mem_filter.1 he
 exact hd e (by simpa using he1) he2
/-- a block that the region makes: m: it is made, st: it is written -/
def Blk (n1 : Nat) (W : World) (T : TypeId) (m st : Bool) (u : Value) (B : Nat) (z v : Array Value) : Prop :=
 m = true → u = .pointer (some ⟨B, 0, none⟩) ∧ n1 ≤ B ∧ W.heap[B]? = some (.cells (if st = true then v else z) T (0, 0))
theorem Blk.lt {n1 : Nat} {W : World} {T : TypeId} {st : Bool} {u : Value} {B : Nat} {z v : Array Value} (h : Blk n1 W T true st u B z v) : B < W.heap.size := (Array.getElem?_eq_some_iff.1 (h rfl).2.2).1
theorem Blk.keep {n1 : Nat} {W W' : World} {T : TypeId} {m st : Bool} {u : Value} {B : Nat} {z v : Array Value} (h : Blk n1 W T m st u B z v) (hb : m = true → B < W.heap.size → W'.heap[B]? = W.heap[B]?) : Blk n1 W' T m st u B z v := by
 intro hm
 subst hm
 exact ⟨(h rfl).1, (h rfl).2.1, (hb rfl h.lt).trans (h rfl).2.2⟩
theorem Blk.raw {n1 : Nat} {W : World} {T : TypeId} {u : Value} {B : Nat} {z v : Array Value} (h : Blk n1 W T true false u B z v) : u = .pointer (some ⟨B, 0, none⟩) ∧ n1 ≤ B ∧ W.heap[B]? = some (.cells z T (0, 0)) := h rfl
theorem Blk.full {n1 : Nat} {W : World} {T : TypeId} {u : Value} {B : Nat} {z v : Array Value} (h : Blk n1 W T true true u B z v) : u = .pointer (some ⟨B, 0, none⟩) ∧ n1 ≤ B ∧ W.heap[B]? = some (.cells v T (0, 0)) := h rfl
/-- three blocks that a region makes and writes in whatever order -/
structure Inv3 (W0 W : World) (T : TypeId) (m1 m2 m3 t1 t2 t3 : Bool) (u1 u2 u3 : Value) (z v1 v2 v3 : Array Value) (B1 B2 B3 : Nat) : Prop where
 below : Below W0.heap.size W0 W
 b1 : Blk W0.heap.size W T m1 t1 u1 B1 z v1
 b2 : Blk W0.heap.size W T m2 t2 u2 B2 z v2
 b3 : Blk W0.heap.size W T m3 t3 u3 B3 z v3
 d12 : m1 = true → m2 = true → B1 ≠ B2
 d13 : m1 = true → m3 = true → B1 ≠ B3
 d23 : m2 = true → m3 = true → B2 ≠ B3
 s1 : t1 = true → m1 = true
 s2 : t2 = true → m2 = true
 s3 : t3 = true → m3 = true
section
variable {W0 W W' : World} {T : TypeId} {m1 m2 m3 t1 t2 t3 : Bool} {u1 u2 u3 : Value} {z v1 v2 v3 : Array Value} {B1 B2 B3 : Nat}
theorem Inv3.start (W0 : World) (T : TypeId) (u1 u2 u3 : Value) (z v1 v2 v3 : Array Value) : Inv3 W0 W0.drew T false false false false false false u1 u2 u3 z v1 v2 v3 0 0 0 :=
 ⟨(Below.refl _ _).drew, fun h => (by cases h), fun h => (by cases h), fun h => (by cases h), fun h => (by cases h), fun h => (by cases h), fun h => (by cases h), fun h => (by cases h), fun h => (by cases h), fun h => (by cases h)⟩
theorem Inv3.keep (h : Inv3 W0 W T m1 m2 m3 t1 t2 t3 u1 u2 u3 z v1 v2 v3 B1 B2 B3) (hb : Below W.heap.size W W') : Inv3 W0 W' T m1 m2 m3 t1 t2 t3 u1 u2 u3 z v1 v2 v3 B1 B2 B3 :=
 ⟨h.below.trans (hb.mono h.below.size), h.b1.keep (fun _ hl => hb.block _ hl), h.b2.keep (fun _ hl => hb.block _ hl), h.b3.keep (fun _ hl => hb.block _ hl), h.d12, h.d13, h.d23, h.s1, h.s2, h.s3⟩
theorem blk_new (h : Below W0.heap.size W0 W) (T : TypeId) (t : Bool) (z v : Array Value) (ht : t = false) : Blk W0.heap.size (W.alloc (.cells z T)) T true t (.pointer (some ⟨W.heap.size, 0, none⟩)) W.heap.size z v := by
 subst ht
 exact fun _ => ⟨rfl, h.size, heap_alloc_at W _⟩
theorem Inv3.alloc1 (h : Inv3 W0 W T false m2 m3 t1 t2 t3 u1 u2 u3 z v1 v2 v3 B1 B2 B3) : Inv3 W0 (W.alloc (.cells z T)) T true m2 m3 t1 t2 t3 (.pointer (some ⟨W.heap.size, 0, none⟩)) u2 u3 z v1 v2 v3 W.heap.size B2 B3 := by
 have hk := h.keep ((Below.refl W.heap.size W).alloc (Nat.le_refl _) (.cells z T))
 exact ⟨hk.below, blk_new h.below T t1 z v1 (by cases t1 with | false => rfl | true => exact absurd (h.s1 rfl) (by decide)), hk.b2, hk.b3, fun _ e => by subst e; have := h.b2.lt; omega, fun _ e => by subst e; have := h.b3.lt; omega, h.d23, fun _ => rfl, h.s2, h.s3⟩
theorem Inv3.alloc2 (h : Inv3 W0 W T m1 false m3 t1 t2 t3 u1 u2 u3 z v1 v2 v3 B1 B2 B3) : Inv3 W0 (W.alloc (.cells z T)) T m1 true m3 t1 t2 t3 u1 (.pointer (some ⟨W.heap.size, 0, none⟩)) u3 z v1 v2 v3 B1 W.heap.size B3 := by
 have hk := h.keep ((Below.refl W.heap.size W).alloc (Nat.le_refl _) (.cells z T))
 exact ⟨hk.below, hk.b1, blk_new h.below T t2 z v2 (by cases t2 with | false => rfl | true => exact absurd (h.s2 rfl) (by decide)), hk.b3, fun e _ => by subst e; have := h.b1.lt; omega, h.d13, fun _ e => by subst e; have := h.b3.lt; omega, h.s1, fun _ => rfl, h.s3⟩
theorem Inv3.alloc3 (h : Inv3 W0 W T m1 m2 false t1 t2 t3 u1 u2 u3 z v1 v2 v3 B1 B2 B3) : Inv3 W0 (W.alloc (.cells z T)) T m1 m2 true t1 t2 t3 u1 u2 (.pointer (some ⟨W.heap.size, 0, none⟩)) z v1 v2 v3 B1 B2 W.heap.size := by
 have hk := h.keep ((Below.refl W.heap.size W).alloc (Nat.le_refl _) (.cells z T))
 exact ⟨hk.below, hk.b1, hk.b2, blk_new h.below T t3 z v3 (by cases t3 with | false => rfl | true => exact absurd (h.s3 rfl) (by decide)), h.d12, fun e _ => by subst e; have := h.b1.lt; omega, fun e _ => by subst e; have := h.b2.lt; omega, h.s1, h.s2, fun _ => rfl⟩
/-- a world whose one block is turned -/
structure OneTurned (W W' : World) (B : Nat) (o : Obj) : Prop where
 os : W'.os = W.os
 tape : W'.tape = W.tape
 output : W'.output = W.output
 size : W'.heap.size = W.heap.size
 at_ : W'.heap[B]? = some o
 other : ∀ k, k ≠ B → W'.heap[k]? = W.heap[k]?
theorem OneTurned.below {B n : Nat} {o : Obj} (h : OneTurned W W' B o) (hn : n ≤ B) : Below n W W' := ⟨h.os, h.tape, h.output, Nat.le_of_eq h.size.symm, fun k hk => h.other k (by omega)⟩
theorem Inv3.store1 (h : Inv3 W0 W T true true true t1 t2 t3 u1 u2 u3 z v1 v2 v3 B1 B2 B3) (ht : OneTurned W W' B1 (.cells v1 T (0, 0))) : Inv3 W0 W' T true true true true t2 t3 u1 u2 u3 z v1 v2 v3 B1 B2 B3 :=
 ⟨h.below.trans (ht.below (h.b1 rfl).2.1), fun _ => ⟨(h.b1 rfl).1, (h.b1 rfl).2.1, ht.at_⟩, h.b2.keep (fun _ _ => ht.other _ (h.d12 rfl rfl).symm), h.b3.keep (fun _ _ => ht.other _ (h.d13 rfl rfl).symm), h.d12, h.d13, h.d23, fun _ => rfl, h.s2, h.s3⟩
theorem Inv3.store2 (h : Inv3 W0 W T true true true t1 t2 t3 u1 u2 u3 z v1 v2 v3 B1 B2 B3) (ht : OneTurned W W' B2 (.cells v2 T (0, 0))) : Inv3 W0 W' T true true true t1 true t3 u1 u2 u3 z v1 v2 v3 B1 B2 B3 :=
 ⟨h.below.trans (ht.below (h.b2 rfl).2.1), h.b1.keep (fun _ _ => ht.other _ (h.d12 rfl rfl)), fun _ => ⟨(h.b2 rfl).1, (h.b2 rfl).2.1, ht.at_⟩, h.b3.keep (fun _ _ => ht.other _ (h.d23 rfl rfl).symm), h.d12, h.d13, h.d23, h.s1, fun _ => rfl, h.s3⟩
theorem Inv3.store3 (h : Inv3 W0 W T true true true t1 t2 t3 u1 u2 u3 z v1 v2 v3 B1 B2 B3) (ht : OneTurned W W' B3 (.cells v3 T (0, 0))) : Inv3 W0 W' T true true true t1 t2 true u1 u2 u3 z v1 v2 v3 B1 B2 B3 :=
 ⟨h.below.trans (ht.below (h.b3 rfl).2.1), h.b1.keep (fun _ _ => ht.other _ (h.d13 rfl rfl)), h.b2.keep (fun _ _ => ht.other _ (h.d23 rfl rfl)), fun _ => ⟨(h.b3 rfl).1, (h.b3 rfl).2.1, ht.at_⟩, h.d12, h.d13, h.d23, h.s1, h.s2, fun _ => rfl⟩
theorem turned_set {W : World} {B : Nat} {A : Array Value} {T : TypeId} (h : W.heap[B]? = some (.cells A T (0, 0))) (i : Nat) (v : Value) : OneTurned W (W.setCell ⟨B, i, none⟩ v) B (.cells (A.setIfInBounds i v) T (0, 0)) :=
 ⟨rfl, rfl, rfl, by simp [World.setCell], setCell_heap_same h i v, fun k hk => Below.heap_setCell _ _ _ _ hk⟩
theorem turned_one {W : World} {B : Nat} {z : Value} {T : TypeId} (h : W.heap[B]? = some (.cells #[z] T (0, 0))) (v : Value) : OneTurned W (W.setCell ⟨B, 0, none⟩ v) B (.cells #[v] T (0, 0)) := turned_set h 0 v
theorem OneTurned.set {W W' : World} {B : Nat} {A : Array Value} {T : TypeId} (h : OneTurned W W' B (.cells A T (0, 0))) (i : Nat) (v : Value) : OneTurned W (W'.setCell ⟨B, i, none⟩ v) B (.cells (A.setIfInBounds i v) T (0, 0)) := by
 have k := turned_set h.at_ i v
 exact ⟨k.os.trans h.os, k.tape.trans h.tape, k.output.trans h.output, k.size.trans h.size, k.at_, fun j hj => (k.other j hj).trans (h.other j hj)⟩
end
theorem cellNext {w w' : World} (hb : Below w.heap.size w w') {p : Addr} {v : Value} (h : w.cell? p = some v) : w'.cell? p = some v := by
 refine (hb.cell ?_).trans h
 rcases Nat.lt_or_ge p.block w.heap.size with h' | h'
 ·exact h'
 ·exfalso
  unfold World.cell? at h
  rw [Array.getElem?_eq_none h'] at h
  cases h
end Go.Proofs.YtfdnhkjeoeffoaaGreatDoor
end
